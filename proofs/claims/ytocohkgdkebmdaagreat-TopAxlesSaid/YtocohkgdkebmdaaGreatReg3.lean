/- Regions that draw their order, where nothing that was there is written: what each operation yields may speak of the world. -/
import Derived.Test.YtocohkgdkebmdaaGreatFnW3
import Derived.Deep.CutBlock
import Derived.Test.YtocohkgdkebmdaaGreatDetPlain
import Derived.Test.YtocohkgdkebmdaaGreatTlO
import Derived.Test.YtocohkgdkebmdaaGreatGenPulses
import Derived.Laws.BytesArg
import Derived.Deep.RegionWith
import Derived.Test.YtocohkgdkebmdaaGreatMem
import Derived.Orders
import Derived.RegionTactic
namespace Go.Proofs.YtocohkgdkebmdaaGreat
open Go.RowKit
namespace Fn
theorem rangeOk_iff {x : WG} : rangeOk x = true ↔ leastK (kindN x.nu) ≤ x.len ∧ x.len ≤ 400 ∧ 50 ≤ x.ms ∧ x.ms ≤ 2000 ∧ 0 ≤ x.br ∧ x.br ≤ x.ms ∧ 0 ≤ x.gd ∧ x.gd ≤ 9 := by
  unfold rangeOk
  simp only [Bool.and_eq_true, decide_eq_true_eq, and_assoc]
theorem wErr_k {x : WG} (h : kErr x.nu ≠ 0) : wErr x = kErr x.nu := by unfold wErr; rw [if_pos h]
theorem wErr_ax {x : WG} (h : kErr x.nu = 0) (h1 : x.ax ≠ axK (kindN x.nu)) : wErr x = 1 := by unfold wErr; rw [if_neg (by rw [h]; decide), if_pos h1]
theorem wErr_rg {x : WG} (h : kErr x.nu = 0) (h1 : x.ax = axK (kindN x.nu)) (h2 : ¬ (leastK (kindN x.nu) ≤ x.len ∧ x.len ≤ 400 ∧ 50 ≤ x.ms ∧ x.ms ≤ 2000 ∧ 0 ≤ x.br ∧ x.br ≤ x.ms ∧ 0 ≤ x.gd ∧ x.gd ≤ 9)) : wErr x = 2 := by
  unfold wErr
  rw [if_neg (by rw [h]; decide), if_neg (by rw [Decidable.not_not]; exact h1), if_pos (Bool.eq_false_iff.2 fun e => h2 (rangeOk_iff.1 e))]
theorem wErr_end {x : WG} (h : kErr x.nu = 0) (h1 : x.ax = axK (kindN x.nu)) (h2 : leastK (kindN x.nu) ≤ x.len ∧ x.len ≤ 400 ∧ 50 ≤ x.ms ∧ x.ms ≤ 2000 ∧ 0 ≤ x.br ∧ x.br ≤ x.ms ∧ 0 ≤ x.gd ∧ x.gd ≤ 9) : wErr x = if Pl.nameOk x.de = false then 7 else 0 := by
  unfold wErr
  rw [if_neg (by rw [h]; decide), if_neg (by rw [Decidable.not_not]; exact h1), if_neg (by rw [rangeOk_iff.2 h2]; decide)]
end Fn
theorem waxles_c (k : Int) (w : World) :
    Calls Tryz.prog 44 #[.int .i64 k] w fun e w' => e = .returned (.int .i64 (Fn.axK k)) ∧ w = w' := by
  by_cases h2 : k = 2
  · have e2 : (k == 2) = true := by simp [h2]
    have Hr := Lib.hid (show Fn.axK k = 2 by unfold Fn.axK; rw [if_pos h2])
    clear h2
    go_enter Tryz.func44, Tryz.ntmps44
    go_wp2_with fail
    go_ret
    exact ⟨retv Hr.out.symm, rfl⟩
  · have e2 : (k == 2) = false := by simp [h2]
    by_cases h3 : k = 3
    · have e3 : (k == 3) = true := by simp [h3]
      have Hr := Lib.hid (show Fn.axK k = 6 by unfold Fn.axK; rw [if_neg h2, if_pos h3])
      clear h2 h3
      go_enter Tryz.func44, Tryz.ntmps44
      go_wp2_with fail
      go_ret
      exact ⟨retv Hr.out.symm, rfl⟩
    · have e3 : (k == 3) = false := by simp [h3]
      have Hr := Lib.hid (show Fn.axK k = 4 by unfold Fn.axK; rw [if_neg h2, if_neg h3])
      clear h2 h3
      go_enter Tryz.func44, Tryz.ntmps44
      go_wp2_with fail
      go_ret
      exact ⟨retv Hr.out.symm, rfl⟩
def WgC (x : WG) : Array Value := #[.string x.nu, .int .i64 x.len, .int .i64 x.ax, .int .i64 x.ms, .int .i64 x.br, .int .i64 x.gd, .bool x.gt, .string x.de]
set_option maxHeartbeats 8000000 in
theorem wvalid_c (x : WG) (w : World) (hs1 : x.nu.size ≤ maxLen) (hs2 : x.de.size ≤ maxLen) :
    Calls Tryz.prog 21 #[wgV x] w fun e w' => e = .returned (.int .i64 (Fn.wErr x)) ∧ Below w.heap.size w w' := by
  have HK := Lib.hid (fun W => wkind_c x.nu W hs1)
  have HN := Lib.hid (fun W => cname_c x.de W hs2)
  have HB := Lib.hid (Blk.new w 45 (WgC x))
  have hbw : Below w.heap.size w (w.alloc (.cells (WgC x) 45)) := (Below.refl _ _).alloc (Nat.le_refl _) _
  unfold WgC at HB hbw
  go_enter Tryz.func21, Tryz.ntmps21
  unfold wgV
  go_wp2_with fail
  refine (HK.out _).mono ?_
  rintro e w1 ⟨⟨k, rfl, hk, hk0, hk3⟩, hb1⟩
  have hX := HB.out.below hb1 HB.out.lt
  have hb2 := hbw.trans (hb1.mono (by simp))
  clear hb1 hbw HB HK
  by_cases h0 : Fn.kErr x.nu = 0
  case neg =>
    have d0 : (Fn.kErr x.nu != 0) = true := by simp [h0]
    have Hr := Lib.hid (Fn.wErr_k h0)
    clear h0 hk
    go_wp2_with fail
    go_ret
    exact ⟨retv Hr.out.symm, hb2⟩
  case pos =>
    have Hk := Lib.hid (hk h0)
    have d0 : (Fn.kErr x.nu != 0) = false := by simp [h0]
    have H0 := Lib.hid h0
    clear h0 hk
    obtain ⟨AX, hAX⟩ : ∃ AX, Fn.axK k = AX := ⟨_, rfl⟩
    obtain ⟨L, hL⟩ : ∃ L, Fn.leastK k = L := ⟨_, rfl⟩
    have HAX := Lib.hid (show Fn.axK (Fn.kindN x.nu) = AX by rw [← Hk.out, hAX])
    have HL := Lib.hid (show Fn.leastK (Fn.kindN x.nu) = L by rw [← Hk.out, hL])
    have hX' := hX
    go_upto_if 16 with fail
    go_cut [5] from 6 (fun b W => b = .int .i64 L ∧ W = w1)
    case first =>
      by_cases h3 : k = 3
      · have e3 : (k == 3) = true := by simp [h3]
        have hA : Hid (120 = L) := Lib.hid (by rw [← hL, h3]; rfl)
        clear h3 hAX hL
        go_wp2_with fail
        go_meet
        exact ⟨by rw [hA.out], rfl⟩
      · have e3 : (k == 3) = false := by simp [h3]
        have hA : Hid (80 = L) := Lib.hid (by rw [← hL]; unfold Fn.leastK; rw [if_neg h3])
        clear h3 hAX hL
        go_wp2_with fail
        go_meet
        exact ⟨by rw [hA.out], rfl⟩
    case rest =>
      obtain ⟨rfl, rfl⟩ := hcut
      have HA := Lib.hid (fun W => waxles_c k W)
      rw [hAX] at HA
      have hbd := hb2.drew
      clear hAX hL
      have c0 := hX.cell 0
      have c1 := hX.cell 1
      have c2 := hX.cell 2
      have c3 := hX.cell 3
      have c4 := hX.cell 4
      have c5 := hX.cell 5
      have c7 := hX.cell 7
      simp only [List.getElem?_toArray, List.getElem?_cons_zero, List.getElem?_cons_succ] at c0 c1 c2 c3 c4 c5 c7
      by_cases ha : x.ax = AX
      case neg =>
        have da : (x.ax != AX) = true := by simp [ha]
        have Hr := Lib.hid (Fn.wErr_ax H0.out (by rw [HAX.out]; exact ha))
        clear ha
        go_wp2_with fail
        go_region_with (go_at_call 44
                        with_reducible refine (HA.out _).mono ?_
                        rintro e w3 ⟨rfl, rfl⟩)
        all_goals
          go_wp2_with fail
          go_ret
          exact ⟨retv Hr.out.symm, (hb2.drew)⟩
      case pos =>
        have da : (x.ax != AX) = false := by simp [ha]
        have Ha := Lib.hid (ha.trans HAX.out.symm)
        clear ha
        by_cases h1 : x.len < L
        · have e1 : decide (x.len < L) = true := decide_eq_true h1
          have Hr := Lib.hid (Fn.wErr_rg H0.out Ha.out (by rw [HL.out]; omega))
          clear h1
          go_wp2_with fail
          go_region_with (go_at_call 44
                          with_reducible refine (HA.out _).mono ?_
                          rintro e w3 ⟨rfl, rfl⟩)
          all_goals
            go_wp2_with fail
            go_ret
            exact ⟨retv Hr.out.symm, (hb2.drew)⟩
        · have e1 : decide (x.len < L) = false := decide_eq_false h1
          by_cases h2 : 400 < x.len
          · have e2 : decide (400 < x.len) = true := decide_eq_true h2
            have Hr := Lib.hid (Fn.wErr_rg H0.out Ha.out (by rw [HL.out]; omega))
            clear h1 h2
            go_wp2_with fail
            go_region_with (go_at_call 44
                            with_reducible refine (HA.out _).mono ?_
                            rintro e w3 ⟨rfl, rfl⟩)
            all_goals
              go_wp2_with fail
              go_ret
              exact ⟨retv Hr.out.symm, (hb2.drew)⟩
          · have e2 : decide (400 < x.len) = false := decide_eq_false h2
            by_cases h3 : x.ms < 50
            · have e3 : decide (x.ms < 50) = true := decide_eq_true h3
              have Hr := Lib.hid (Fn.wErr_rg H0.out Ha.out (by rw [HL.out]; omega))
              clear h1 h2 h3
              go_wp2_with fail
              go_region_with (go_at_call 44
                              with_reducible refine (HA.out _).mono ?_
                              rintro e w3 ⟨rfl, rfl⟩)
              all_goals
                go_wp2_with fail
                go_ret
                exact ⟨retv Hr.out.symm, (hb2.drew)⟩
            · have e3 : decide (x.ms < 50) = false := decide_eq_false h3
              by_cases h4 : 2000 < x.ms
              · have e4 : decide (2000 < x.ms) = true := decide_eq_true h4
                have Hr := Lib.hid (Fn.wErr_rg H0.out Ha.out (by rw [HL.out]; omega))
                clear h1 h2 h3 h4
                go_wp2_with fail
                go_region_with (go_at_call 44
                                with_reducible refine (HA.out _).mono ?_
                                rintro e w3 ⟨rfl, rfl⟩)
                all_goals
                  go_wp2_with fail
                  go_ret
                  exact ⟨retv Hr.out.symm, (hb2.drew)⟩
              · have e4 : decide (2000 < x.ms) = false := decide_eq_false h4
                by_cases h5 : x.br < 0
                · have e5 : decide (x.br < 0) = true := decide_eq_true h5
                  have Hr := Lib.hid (Fn.wErr_rg H0.out Ha.out (by rw [HL.out]; omega))
                  clear h1 h2 h3 h4 h5
                  go_wp2_with fail
                  go_region_with (go_at_call 44
                                  with_reducible refine (HA.out _).mono ?_
                                  rintro e w3 ⟨rfl, rfl⟩)
                  all_goals
                    go_wp2_with fail
                    go_ret
                    exact ⟨retv Hr.out.symm, (hb2.drew)⟩
                · have e5 : decide (x.br < 0) = false := decide_eq_false h5
                  by_cases h6 : x.ms < x.br
                  · have e6 : decide (x.ms < x.br) = true := decide_eq_true h6
                    have Hr := Lib.hid (Fn.wErr_rg H0.out Ha.out (by rw [HL.out]; omega))
                    clear h1 h2 h3 h4 h5 h6
                    go_wp2_with fail
                    go_region_with (go_at_call 44
                                    with_reducible refine (HA.out _).mono ?_
                                    rintro e w3 ⟨rfl, rfl⟩)
                    all_goals
                      go_wp2_with fail
                      go_ret
                      exact ⟨retv Hr.out.symm, (hb2.drew)⟩
                  · have e6 : decide (x.ms < x.br) = false := decide_eq_false h6
                    by_cases h7 : x.gd < 0
                    · have e7 : decide (x.gd < 0) = true := decide_eq_true h7
                      have Hr := Lib.hid (Fn.wErr_rg H0.out Ha.out (by rw [HL.out]; omega))
                      clear h1 h2 h3 h4 h5 h6 h7
                      go_wp2_with fail
                      go_region_with (go_at_call 44
                                      with_reducible refine (HA.out _).mono ?_
                                      rintro e w3 ⟨rfl, rfl⟩)
                      all_goals
                        go_wp2_with fail
                        go_ret
                        exact ⟨retv Hr.out.symm, (hb2.drew)⟩
                    · have e7 : decide (x.gd < 0) = false := decide_eq_false h7
                      by_cases h8 : 9 < x.gd
                      · have e8 : decide (9 < x.gd) = true := decide_eq_true h8
                        have Hr := Lib.hid (Fn.wErr_rg H0.out Ha.out (by rw [HL.out]; omega))
                        clear h1 h2 h3 h4 h5 h6 h7 h8
                        go_wp2_with fail
                        go_region_with (go_at_call 44
                                        with_reducible refine (HA.out _).mono ?_
                                        rintro e w3 ⟨rfl, rfl⟩)
                        all_goals
                          go_wp2_with fail
                          go_ret
                          exact ⟨retv Hr.out.symm, (hb2.drew)⟩
                      · have e8 : decide (9 < x.gd) = false := decide_eq_false h8
                        have He := Lib.hid (Fn.wErr_end H0.out Ha.out (by rw [HL.out]; omega))
                        clear h1 h2 h3 h4 h5 h6 h7 h8
                        go_wp2_with fail
                        go_region_with (go_at_call 44
                                        with_reducible refine (HA.out _).mono ?_
                                        rintro e w3 ⟨rfl, rfl⟩)
                        all_goals
                          go_wp2_with fail
                          refine (HN.out _).mono ?_
                          rintro e w4 ⟨rfl, rfl⟩
                          cases hn : Pl.nameOk x.de with
                          | false =>
                            have Hr := Lib.hid (He.out.trans (if_pos hn))
                            clear hn
                            go_wp2_with fail
                            go_ret
                            exact ⟨retv Hr.out.symm, (hb2.drew)⟩
                          | true =>
                            have Hr := Lib.hid (He.out.trans (if_neg (by rw [hn]; decide)))
                            clear hn
                            go_wp2_with fail
                            go_ret
                            exact ⟨retv Hr.out.symm, (hb2.drew)⟩
end Go.Proofs.YtocohkgdkebmdaaGreat
namespace Go.Proofs.YtocohkgdkebmdaaGreat
open Go.RowKit
namespace Ax
def w2 (x : WG) : W2 := ((Fn.kindN x.nu).toNat, (10 * x.len).toNat)
theorem w2_ok {x : WG} (h : Fn.wErr x = 0) : Fn.kErr x.nu = 0 ∧ Fn.leastK (Fn.kindN x.nu) ≤ x.len ∧ x.len ≤ 400 := by
  have h1 : Fn.kErr x.nu = 0 := by
    by_cases e : Fn.kErr x.nu = 0
    · exact e
    · rw [Fn.wErr_k e] at h; exact h
  have h2 : x.ax = Fn.axK (Fn.kindN x.nu) := by
    by_cases e : x.ax = Fn.axK (Fn.kindN x.nu)
    · exact e
    · rw [Fn.wErr_ax h1 e] at h; exact absurd h (by decide)
  by_cases e : Fn.leastK (Fn.kindN x.nu) ≤ x.len ∧ x.len ≤ 400 ∧ 50 ≤ x.ms ∧ x.ms ≤ 2000 ∧ 0 ≤ x.br ∧ x.br ≤ x.ms ∧ 0 ≤ x.gd ∧ x.gd ≤ 9
  · exact ⟨h1, e.1, e.2.1⟩
  · rw [Fn.wErr_rg h1 h2 e] at h; exact absurd h (by decide)
theorem w2_Ok {x : WG} (h : Fn.wErr x = 0) (hk : 0 ≤ Fn.kindN x.nu ∧ Fn.kindN x.nu ≤ 3) : Ok (w2 x) := by
  obtain ⟨_, h2, h3⟩ := w2_ok h
  unfold Fn.leastK at h2
  refine ⟨?_, ?_, ?_⟩
  · show 800 ≤ (10 * x.len).toNat
    split at h2 <;> omega
  · show (10 * x.len).toNat ≤ 4000
    omega
  · show (Fn.kindN x.nu).toNat = 3 → 1200 ≤ (10 * x.len).toNat
    intro e
    rw [if_pos (by omega)] at h2
    omega
end Ax
theorem lit_own {w : World} {t : TypeId} (L : List Nat) (cs : Array Value) (n : Nat) (h : cs.toList = ints64 L) (hn : L.length = n) (hm : n ≤ 1000) : (w.alloc (.cells cs t)).ownsRow w.heap.size t 1 (.slice (some ⟨w.heap.size, 0, none⟩) n n) n (ints64 L) := by
  have hs : cs.size = n * 1 := by
    have := congrArg List.length h
    simp [ints64] at this
    omega
  have h2 := World.ownsRow_lit (base := w.heap.size) (e := t) (size := 1) w cs n (Nat.le_refl _) (by simp [maxLen]; omega) hs
  rwa [h] at h2
/-- What offsets leaves. -/
def OfR (w : World) (L : List Nat) (e : Ending) (w' : World) : Prop := ∃ v, e = .returned v ∧ w'.ownsRow w.heap.size 3 1 v L.length (ints64 L) ∧ Below w.heap.size w w'
theorem OfR.lit {w w1 : World} {L : List Nat} {cs : Array Value} {n : Nat} (hb : Below w.heap.size w w1) (h : cs.toList = ints64 L) (hn : L.length = n) (hm : n ≤ 1000) : OfR w L (.returned (.slice (some ⟨w1.heap.size, 0, none⟩) n n)) (w1.alloc (.cells cs 3)) :=
  ⟨_, rfl, by subst hn; exact own_more (lit_own L cs _ h rfl hm) hb.size, hb.alloc hb.size _⟩
set_option maxHeartbeats 2000000 in
theorem offsets_c (x : WG) (w : World) (h : Fn.wErr x = 0) (hs1 : x.nu.size ≤ maxLen) (hk : 0 ≤ Fn.kindN x.nu ∧ Fn.kindN x.nu ≤ 3) :
    Calls Tryz.prog 22 #[wgV x] w (OfR w (Ax.offs (Ax.w2 x))) := by
  have HK := Lib.hid (fun W => wkind_c x.nu W hs1)
  obtain ⟨h0, _, _⟩ := Ax.w2_ok h
  have hO := Ax.w2_Ok h hk
  obtain ⟨hO1, hO2, hO3⟩ := hO
  obtain ⟨m, hm⟩ : ∃ m : Nat, (m : Int) = 10 * x.len := ⟨(10 * x.len).toNat, by have : (Ax.w2 x).2 = (10 * x.len).toNat := rfl; omega⟩
  have hm2 : (Ax.w2 x).2 = m := by show (10 * x.len).toNat = m; omega
  rw [hm2] at hO1 hO2 hO3
  have hk1 : (Ax.w2 x).1 = (Fn.kindN x.nu).toNat := rfl
  rw [hk1] at hO3
  have HB := Lib.hid (Blk.new w 45 (WgC x))
  have hbw : Below w.heap.size w (w.alloc (.cells (WgC x) 45)) := (Below.refl _ _).alloc (Nat.le_refl _) _
  unfold WgC at HB hbw
  have hm' : 10 * x.len = (m : Int) := hm.symm
  have hoffs : Ax.offs (Ax.w2 x) = Ax.offs ((Fn.kindN x.nu).toNat, m) := by rw [show Ax.w2 x = ((Ax.w2 x).1, (Ax.w2 x).2) from rfl, hk1, hm2]
  rw [hoffs]
  have H0 := Lib.hid h0
  have Hm := Lib.hid hm
  clear h h0 hm hm2 hk1 hoffs
  go_enter Tryz.func22, Tryz.ntmps22
  unfold wgV
  go_wp2_with fail
  refine (HK.out _).mono ?_
  rintro e w1 ⟨⟨k, rfl, hk', hk0, hk3⟩, hb1⟩
  have hb2 := hbw.trans (hb1.mono (by simp))
  have HkE := Lib.hid (hk' H0.out)
  have hX := HB.out.below hb1 HB.out.lt
  rw [← HkE.out] at hO3
  clear hb1 hbw HB HK hk' hk hm'
  have c1 := hX.cell 1
  simp at c1
  rcases (show k = 0 ∨ k = 1 ∨ k = 2 ∨ k = 3 by omega) with rfl | rfl | rfl | rfl
  · go_wp2_with fail
    go_ret
    exact OfR.lit hb2 (by rw [← HkE.out]; simp [ints64, Ax.offs] <;> omega) (by rw [← HkE.out]; rfl) (by decide)
  · go_wp2_with fail
    go_ret
    exact OfR.lit hb2 (by rw [← HkE.out]; simp [ints64, Ax.offs] <;> omega) (by rw [← HkE.out]; rfl) (by decide)
  · go_wp2_with fail
    go_ret
    exact OfR.lit hb2 (by rw [← HkE.out]; simp [ints64, Ax.offs] <;> omega) (by rw [← HkE.out]; rfl) (by decide)
  · have hO4 := hO3 rfl
    go_wp2_with fail
    go_ret
    exact OfR.lit hb2 (by rw [← HkE.out]; simp [ints64, Ax.offs] <;> omega) (by rw [← HkE.out]; rfl) (by decide)
set_option maxHeartbeats 2000000 in
theorem offsetsE_c (x : WG) (w : World) (h : Fn.wErr x = 0) (hs1 : x.nu.size ≤ maxLen) (hs2 : x.de.size ≤ maxLen) (hk : 0 ≤ Fn.kindN x.nu ∧ Fn.kindN x.nu ≤ 3) :
    Calls Tryz.prog 13 #[wgV x] w fun e w' => ∃ v, e = .returned (.tuple #[v, .int .i64 0]) ∧ w'.ownsRow w.heap.size 3 1 v (Ax.offs (Ax.w2 x)).length (ints64 (Ax.offs (Ax.w2 x))) ∧ Below w.heap.size w w' := by
  have HV := Lib.hid (fun W => wvalid_c x W hs1 hs2)
  have HO := Lib.hid (fun W => offsets_c x W h hs1 hk)
  have HB := Lib.hid (Blk.new w 45 (WgC x))
  have hbw : Below w.heap.size w (w.alloc (.cells (WgC x) 45)) := (Below.refl _ _).alloc (Nat.le_refl _) _
  unfold WgC at HB hbw
  rw [h] at HV
  clear h
  go_enter Tryz.func13, Tryz.ntmps13
  unfold wgV at *
  go_wp2_with fail
  refine (HV.out _).mono ?_
  rintro e w1 ⟨rfl, hb1⟩
  have hX := HB.out.below hb1 HB.out.lt
  have hb2 := hbw.trans (hb1.mono (by simp))
  have c0 := hX.cell 0
  have c1 := hX.cell 1
  have c2 := hX.cell 2
  have c3 := hX.cell 3
  have c4 := hX.cell 4
  have c5 := hX.cell 5
  have c6 := hX.cell 6
  have c7 := hX.cell 7
  simp at c0 c1 c2 c3 c4 c5 c6 c7
  clear hb1 hbw HB HV hX
  go_wp2_with fail
  refine (HO.out _).mono ?_
  rintro e w2 ⟨v, rfl, own, hb3⟩
  have hb4 := below_step hb2 hb3
  have own2 := own_more own hb2.size
  clear hb2 hb3 own HO
  go_wp2_with fail
  go_ret2
  exact ⟨v, rfl, own2, hb4⟩
end Go.Proofs.YtocohkgdkebmdaaGreat
namespace Go.Proofs.YtocohkgdkebmdaaGreat
open Go.RowKit
theorem under_bytes : Tryz.prog.underlying 34 = some (.slice 5) := by kernel_rfl
theorem under_u8 : Tryz.prog.underlying 5 = some (.int .u8) := by kernel_rfl
theorem under_string : Tryz.prog.underlying 9 = some .string := by kernel_rfl
/-- string([]byte{x}). -/
theorem conv_one (w : World) (x : Int) : (convert 34 9 (.slice (some ⟨w.heap.size, 0, none⟩) 1 1)).run Tryz.prog (w.alloc (.cells #[.int .u8 x] 5)) = .ok (.string (strOfNums [x])) (w.alloc (.cells #[.int .u8 x] 5)) :=
  run_convert_bytes_arg _ 34 5 under_bytes under_u8 w.heap.size 0 1 1 [x] rfl (fun i hi => by
    obtain rfl : i = 0 := by omega
    exact (Blk.new w _ _).cell 0) 9 under_string
end Go.Proofs.YtocohkgdkebmdaaGreat
namespace Go.Proofs.YtocohkgdkebmdaaGreat
open Go.RowKit
theorem World.grownBy_set (w : World) (g i : Nat) (u : Value) : w.grownBy (w.setCell ⟨g, i, none⟩ u) (some g) :=
  ⟨rfl, rfl, rfl, by simp [World.setCell], fun j _ hne => Below.heap_setCell w ⟨g, i, none⟩ u j (fun e => hne (by rw [e]))⟩
end Go.Proofs.YtocohkgdkebmdaaGreat
namespace Go.Proofs.YtocohkgdkebmdaaGreat
open Go.RowKit
end Go.Proofs.YtocohkgdkebmdaaGreat
namespace Go.Proofs.YtocohkgdkebmdaaGreat
open Go.RowKit
end Go.Proofs.YtocohkgdkebmdaaGreat
