/- The walks of consist's Valid of a wagon, and of the reference's. -/
import Derived.Test.YtiegpkbollihgaaDoorFnW3
import Derived.Deep.CutBlock
namespace Go.Proofs.YtiegpkbollihgaaDoor
open Go.RowKit
namespace Fn
theorem rangeOk_iff {x : WG} : rangeOk x = true ↔ leastK (kindN x.nu) ≤ x.len ∧ x.len ≤ 400 ∧ 50 ≤ x.ms ∧ x.ms ≤ 2000 ∧ 0 ≤ x.br ∧ x.br ≤ x.ms ∧ 0 ≤ x.gd ∧ x.gd ≤ 9 := by
  unfold rangeOk
  simp only [Bool.and_eq_true, decide_eq_true_eq, and_assoc]
theorem wErr_k {x : WG} (h : kErr x.nu ≠ 0) : wErr x = kErr x.nu := by unfold wErr; rw [if_pos h]
theorem wErr_ax {x : WG} (h : kErr x.nu = 0) (h1 : x.ax ≠ axK (kindN x.nu)) : wErr x = 1 := by unfold wErr; rw [if_neg (by rw [h]; decide), if_pos h1]
theorem wErr_rg {x : WG} (h : kErr x.nu = 0) (h1 : x.ax = axK (kindN x.nu)) (h2 : ¬ (leastK (kindN x.nu) ≤ x.len ∧ x.len ≤ 400 ∧ 50 ≤ x.ms ∧ x.ms ≤ 2000 ∧ 0 ≤ x.br ∧ x.br ≤ x.ms ∧ 0 ≤ x.gd ∧ x.gd ≤ 9)) : wErr x = 2 := by
  unfold wErr
  rw [if_neg (by rw [h]; decide), if_neg (by rw [Decidable.not_not]; exact h1), if_pos (Bool.eq_false_iff.2 fun e => h2 (rangeOk_iff.1 e))]
theorem wErr_end {x : WG} (h : kErr x.nu = 0) (h1 : x.ax = axK (kindN x.nu)) (h2 : leastK (kindN x.nu) ≤ x.len ∧ x.len ≤ 400 ∧ 50 ≤ x.ms ∧ x.ms ≤ 2000 ∧ 0 ≤ x.br ∧ x.br ≤ x.ms ∧ 0 ≤ x.gd ∧ x.gd ≤ 9) : wErr x = if Pl.nameOk x.de = false then 7 else 0 := by
  unfold wErr
  rw [if_neg (by rw [h]; decide), if_neg (by rw [Decidable.not_not]; exact h1), if_neg (by rw [rangeOk_iff.2 h2]; decide)]
end Fn
theorem waxles_c (k : Int) (w : World) :
    Calls Tryd.prog 83 #[.int .i64 k] w fun e w' => e = .returned (.int .i64 (Fn.axK k)) ∧ w = w' := by
  by_cases h2 : k = 2
  · have e2 : (k == 2) = true := by simp [h2]
    have Hr := Lib.hid (show Fn.axK k = 2 by unfold Fn.axK; rw [if_pos h2])
    clear h2
    go_enter Tryd.func83, Tryd.ntmps83
    go_wp2_with fail
    go_ret
    exact ⟨retv Hr.out.symm, rfl⟩
  · have e2 : (k == 2) = false := by simp [h2]
    by_cases h3 : k = 3
    · have e3 : (k == 3) = true := by simp [h3]
      have Hr := Lib.hid (show Fn.axK k = 6 by unfold Fn.axK; rw [if_neg h2, if_pos h3])
      clear h2 h3
      go_enter Tryd.func83, Tryd.ntmps83
      go_wp2_with fail
      go_ret
      exact ⟨retv Hr.out.symm, rfl⟩
    · have e3 : (k == 3) = false := by simp [h3]
      have Hr := Lib.hid (show Fn.axK k = 4 by unfold Fn.axK; rw [if_neg h2, if_neg h3])
      clear h2 h3
      go_enter Tryd.func83, Tryd.ntmps83
      go_wp2_with fail
      go_ret
      exact ⟨retv Hr.out.symm, rfl⟩
def WgC (x : WG) : Array Value := #[.string x.nu, .int .i64 x.len, .int .i64 x.ax, .int .i64 x.ms, .int .i64 x.br, .int .i64 x.gd, .bool x.gt, .string x.de]
set_option maxHeartbeats 8000000 in
theorem wvalid_c (x : WG) (w : World) (hs1 : x.nu.size ≤ maxLen) (hs2 : x.de.size ≤ maxLen) :
    Calls Tryd.prog 70 #[wgV x] w fun e w' => e = .returned (.int .i64 (Fn.wErr x)) ∧ Below w.heap.size w w' := by
  have HK := Lib.hid (fun W => wkind_c x.nu W hs1)
  have HN := Lib.hid (fun W => cname_c x.de W hs2)
  have HB := Lib.hid (Blk.new w 34 (WgC x))
  have hbw : Below w.heap.size w (w.alloc (.cells (WgC x) 34)) := (Below.refl _ _).alloc (Nat.le_refl _) _
  unfold WgC at HB hbw
  go_enter Tryd.func70, Tryd.ntmps70
  unfold wgV
  go_wp2_with fail
  refine (HK.out _).mono ?_
  rintro e w1 ⟨⟨k, rfl, hk, hk0, hk3⟩, hb1⟩
  have hX := HB.out.below hb1 HB.out.lt
  have hb2 := hbw.trans (hb1.mono (by simp))
  clear hb1 hbw HB HK
  by_cases h0 : Fn.kErr x.nu = 0
  case neg =>
    have d0 : (Fn.kErr x.nu != 0) = true := by simp [h0]
    have Hr := Lib.hid (Fn.wErr_k h0)
    clear h0 hk
    go_wp2_with fail
    go_ret
    exact ⟨retv Hr.out.symm, hb2⟩
  case pos =>
    have Hk := Lib.hid (hk h0)
    have d0 : (Fn.kErr x.nu != 0) = false := by simp [h0]
    have H0 := Lib.hid h0
    clear h0 hk
    obtain ⟨AX, hAX⟩ : ∃ AX, Fn.axK k = AX := ⟨_, rfl⟩
    obtain ⟨L, hL⟩ : ∃ L, Fn.leastK k = L := ⟨_, rfl⟩
    have HAX := Lib.hid (show Fn.axK (Fn.kindN x.nu) = AX by rw [← Hk.out, hAX])
    have HL := Lib.hid (show Fn.leastK (Fn.kindN x.nu) = L by rw [← Hk.out, hL])
    have hX' := hX
    go_upto_if 16 with fail
    go_cut [5] from 6 (fun b W => b = .int .i64 L ∧ W = w1)
    case first =>
      by_cases h3 : k = 3
      · have e3 : (k == 3) = true := by simp [h3]
        have hA : Hid (120 = L) := Lib.hid (by rw [← hL, h3]; rfl)
        clear h3 hAX hL
        go_wp2_with fail
        go_meet
        exact ⟨by rw [hA.out], rfl⟩
      · have e3 : (k == 3) = false := by simp [h3]
        have hA : Hid (80 = L) := Lib.hid (by rw [← hL]; unfold Fn.leastK; rw [if_neg h3])
        clear h3 hAX hL
        go_wp2_with fail
        go_meet
        exact ⟨by rw [hA.out], rfl⟩
    case rest =>
      obtain ⟨rfl, rfl⟩ := hcut
      have HA := Lib.hid (fun W => waxles_c k W)
      rw [hAX] at HA
      have hbd := hb2.drew
      clear hAX hL
      have c0 := hX.cell 0
      have c1 := hX.cell 1
      have c2 := hX.cell 2
      have c3 := hX.cell 3
      have c4 := hX.cell 4
      have c5 := hX.cell 5
      have c7 := hX.cell 7
      simp only [List.getElem?_toArray, List.getElem?_cons_zero, List.getElem?_cons_succ] at c0 c1 c2 c3 c4 c5 c7
      by_cases ha : x.ax = AX
      case neg =>
        have da : (x.ax != AX) = true := by simp [ha]
        have Hr := Lib.hid (Fn.wErr_ax H0.out (by rw [HAX.out]; exact ha))
        clear ha
        go_wp2_with fail
        go_region_with (go_at_call 83
                        with_reducible refine (HA.out _).mono ?_
                        rintro e w3 ⟨rfl, rfl⟩)
        all_goals
          go_wp2_with fail
          go_ret
          exact ⟨retv Hr.out.symm, (hb2.drew)⟩
      case pos =>
        have da : (x.ax != AX) = false := by simp [ha]
        have Ha := Lib.hid (ha.trans HAX.out.symm)
        clear ha
        by_cases h1 : x.len < L
        · have e1 : decide (x.len < L) = true := decide_eq_true h1
          have Hr := Lib.hid (Fn.wErr_rg H0.out Ha.out (by rw [HL.out]; omega))
          clear h1
          go_wp2_with fail
          go_region_with (go_at_call 83
                          with_reducible refine (HA.out _).mono ?_
                          rintro e w3 ⟨rfl, rfl⟩)
          all_goals
            go_wp2_with fail
            go_ret
            exact ⟨retv Hr.out.symm, (hb2.drew)⟩
        · have e1 : decide (x.len < L) = false := decide_eq_false h1
          by_cases h2 : 400 < x.len
          · have e2 : decide (400 < x.len) = true := decide_eq_true h2
            have Hr := Lib.hid (Fn.wErr_rg H0.out Ha.out (by rw [HL.out]; omega))
            clear h1 h2
            go_wp2_with fail
            go_region_with (go_at_call 83
                            with_reducible refine (HA.out _).mono ?_
                            rintro e w3 ⟨rfl, rfl⟩)
            all_goals
              go_wp2_with fail
              go_ret
              exact ⟨retv Hr.out.symm, (hb2.drew)⟩
          · have e2 : decide (400 < x.len) = false := decide_eq_false h2
            by_cases h3 : x.ms < 50
            · have e3 : decide (x.ms < 50) = true := decide_eq_true h3
              have Hr := Lib.hid (Fn.wErr_rg H0.out Ha.out (by rw [HL.out]; omega))
              clear h1 h2 h3
              go_wp2_with fail
              go_region_with (go_at_call 83
                              with_reducible refine (HA.out _).mono ?_
                              rintro e w3 ⟨rfl, rfl⟩)
              all_goals
                go_wp2_with fail
                go_ret
                exact ⟨retv Hr.out.symm, (hb2.drew)⟩
            · have e3 : decide (x.ms < 50) = false := decide_eq_false h3
              by_cases h4 : 2000 < x.ms
              · have e4 : decide (2000 < x.ms) = true := decide_eq_true h4
                have Hr := Lib.hid (Fn.wErr_rg H0.out Ha.out (by rw [HL.out]; omega))
                clear h1 h2 h3 h4
                go_wp2_with fail
                go_region_with (go_at_call 83
                                with_reducible refine (HA.out _).mono ?_
                                rintro e w3 ⟨rfl, rfl⟩)
                all_goals
                  go_wp2_with fail
                  go_ret
                  exact ⟨retv Hr.out.symm, (hb2.drew)⟩
              · have e4 : decide (2000 < x.ms) = false := decide_eq_false h4
                by_cases h5 : x.br < 0
                · have e5 : decide (x.br < 0) = true := decide_eq_true h5
                  have Hr := Lib.hid (Fn.wErr_rg H0.out Ha.out (by rw [HL.out]; omega))
                  clear h1 h2 h3 h4 h5
                  go_wp2_with fail
                  go_region_with (go_at_call 83
                                  with_reducible refine (HA.out _).mono ?_
                                  rintro e w3 ⟨rfl, rfl⟩)
                  all_goals
                    go_wp2_with fail
                    go_ret
                    exact ⟨retv Hr.out.symm, (hb2.drew)⟩
                · have e5 : decide (x.br < 0) = false := decide_eq_false h5
                  by_cases h6 : x.ms < x.br
                  · have e6 : decide (x.ms < x.br) = true := decide_eq_true h6
                    have Hr := Lib.hid (Fn.wErr_rg H0.out Ha.out (by rw [HL.out]; omega))
                    clear h1 h2 h3 h4 h5 h6
                    go_wp2_with fail
                    go_region_with (go_at_call 83
                                    with_reducible refine (HA.out _).mono ?_
                                    rintro e w3 ⟨rfl, rfl⟩)
                    all_goals
                      go_wp2_with fail
                      go_ret
                      exact ⟨retv Hr.out.symm, (hb2.drew)⟩
                  · have e6 : decide (x.ms < x.br) = false := decide_eq_false h6
                    by_cases h7 : x.gd < 0
                    · have e7 : decide (x.gd < 0) = true := decide_eq_true h7
                      have Hr := Lib.hid (Fn.wErr_rg H0.out Ha.out (by rw [HL.out]; omega))
                      clear h1 h2 h3 h4 h5 h6 h7
                      go_wp2_with fail
                      go_region_with (go_at_call 83
                                      with_reducible refine (HA.out _).mono ?_
                                      rintro e w3 ⟨rfl, rfl⟩)
                      all_goals
                        go_wp2_with fail
                        go_ret
                        exact ⟨retv Hr.out.symm, (hb2.drew)⟩
                    · have e7 : decide (x.gd < 0) = false := decide_eq_false h7
                      by_cases h8 : 9 < x.gd
                      · have e8 : decide (9 < x.gd) = true := decide_eq_true h8
                        have Hr := Lib.hid (Fn.wErr_rg H0.out Ha.out (by rw [HL.out]; omega))
                        clear h1 h2 h3 h4 h5 h6 h7 h8
                        go_wp2_with fail
                        go_region_with (go_at_call 83
                                        with_reducible refine (HA.out _).mono ?_
                                        rintro e w3 ⟨rfl, rfl⟩)
                        all_goals
                          go_wp2_with fail
                          go_ret
                          exact ⟨retv Hr.out.symm, (hb2.drew)⟩
                      · have e8 : decide (9 < x.gd) = false := decide_eq_false h8
                        have He := Lib.hid (Fn.wErr_end H0.out Ha.out (by rw [HL.out]; omega))
                        clear h1 h2 h3 h4 h5 h6 h7 h8
                        go_wp2_with fail
                        go_region_with (go_at_call 83
                                        with_reducible refine (HA.out _).mono ?_
                                        rintro e w3 ⟨rfl, rfl⟩)
                        all_goals
                          go_wp2_with fail
                          refine (HN.out _).mono ?_
                          rintro e w4 ⟨rfl, rfl⟩
                          cases hn : Pl.nameOk x.de with
                          | false =>
                            have Hr := Lib.hid (He.out.trans (if_pos hn))
                            clear hn
                            go_wp2_with fail
                            go_ret
                            exact ⟨retv Hr.out.symm, (hb2.drew)⟩
                          | true =>
                            have Hr := Lib.hid (He.out.trans (if_neg (by rw [hn]; decide)))
                            clear hn
                            go_wp2_with fail
                            go_ret
                            exact ⟨retv Hr.out.symm, (hb2.drew)⟩
set_option maxHeartbeats 8000000 in
theorem rwvalid_c (x : WG) (w : World) (hs1 : x.nu.size ≤ maxLen) (hs2 : x.de.size ≤ maxLen) :
    Calls Tryd.prog 60 #[wgV x] w fun e w' => e = .returned (.int .i64 (Fn.wErr x)) ∧ Below w.heap.size w w' := by
  have HK := Lib.hid (fun W => rkind_c x.nu W hs1)
  have HN := Lib.hid (fun W => name06_c x.de W hs2)
  have HB := Lib.hid (Blk.new w 34 (WgC x))
  have hbw : Below w.heap.size w (w.alloc (.cells (WgC x) 34)) := (Below.refl _ _).alloc (Nat.le_refl _) _
  unfold WgC at HB hbw
  go_enter Tryd.func60, Tryd.ntmps60
  unfold wgV
  go_wp2_with fail
  refine (HK.out _).mono ?_
  rintro e w1 ⟨⟨k, rfl, hk, hk0, hk3⟩, hb1⟩
  have hX := HB.out.below hb1 HB.out.lt
  have hb2 := hbw.trans (hb1.mono (by simp))
  clear hb1 hbw HB HK
  by_cases h0 : Fn.kErr x.nu = 0
  case neg =>
    have d0 : (Fn.kErr x.nu != 0) = true := by simp [h0]
    have Hr := Lib.hid (Fn.wErr_k h0)
    clear h0 hk
    go_wp2_with fail
    go_ret
    exact ⟨retv Hr.out.symm, hb2⟩
  case pos =>
    have Hk := Lib.hid (hk h0)
    have d0 : (Fn.kErr x.nu != 0) = false := by simp [h0]
    have H0 := Lib.hid h0
    clear h0 hk
    obtain ⟨AX, hAX⟩ : ∃ AX, Fn.axK k = AX := ⟨_, rfl⟩
    obtain ⟨L, hL⟩ : ∃ L, Fn.leastK k = L := ⟨_, rfl⟩
    have HAX := Lib.hid (show Fn.axK (Fn.kindN x.nu) = AX by rw [← Hk.out, hAX])
    have HL := Lib.hid (show Fn.leastK (Fn.kindN x.nu) = L by rw [← Hk.out, hL])
    have hX' := hX
    go_upto_block 0 with fail
    go_cut [5, 6] from 7 (fun a b W => a = .int .i64 AX ∧ b = .int .i64 L ∧ W = w1)
    case first =>
      by_cases h2 : k = 2
      · have e2 : (k == 2) = true := by simp [h2]
        have hA : Hid (2 = AX ∧ 80 = L) := Lib.hid (by rw [← hAX, ← hL, h2]; exact ⟨rfl, rfl⟩)
        clear h2 hAX hL
        go_wp2_with fail
        go_meet
        exact ⟨by rw [hA.out.1], by rw [hA.out.2], rfl⟩
      · have e2 : (k == 2) = false := by simp [h2]
        by_cases h3 : k = 3
        · have e3 : (k == 3) = true := by simp [h3]
          have hA : Hid (6 = AX ∧ 120 = L) := Lib.hid (by rw [← hAX, ← hL, h3]; exact ⟨rfl, rfl⟩)
          clear h2 h3 hAX hL
          go_wp2_with fail
          go_meet
          exact ⟨by rw [hA.out.1], by rw [hA.out.2], rfl⟩
        · have e3 : (k == 3) = false := by simp [h3]
          have hA : Hid (4 = AX ∧ 80 = L) := Lib.hid (by rw [← hAX, ← hL]; unfold Fn.axK Fn.leastK; rw [if_neg h2, if_neg h3, if_neg h3]; exact ⟨rfl, rfl⟩)
          clear h2 h3 hAX hL
          go_wp2_with fail
          go_meet
          exact ⟨by rw [hA.out.1], by rw [hA.out.2], rfl⟩
    case rest =>
      obtain ⟨rfl, rfl, rfl⟩ := hcut
      clear hAX hL
      have c0 := hX.cell 0
      have c1 := hX.cell 1
      have c2 := hX.cell 2
      have c3 := hX.cell 3
      have c4 := hX.cell 4
      have c5 := hX.cell 5
      have c7 := hX.cell 7
      simp only [List.getElem?_toArray, List.getElem?_cons_zero, List.getElem?_cons_succ] at c0 c1 c2 c3 c4 c5 c7
      by_cases ha : x.ax = AX
      case neg =>
        have da : (x.ax != AX) = true := by simp [ha]
        have Hr := Lib.hid (Fn.wErr_ax H0.out (by rw [HAX.out]; exact ha))
        clear ha
        go_wp2_with fail
        go_ret
        exact ⟨retv Hr.out.symm, hb2⟩
      case pos =>
        have da : (x.ax != AX) = false := by simp [ha]
        have Ha := Lib.hid (ha.trans HAX.out.symm)
        clear ha
        by_cases h1 : x.len < L
        · have e1 : decide (x.len < L) = true := decide_eq_true h1
          have Hr := Lib.hid (Fn.wErr_rg H0.out Ha.out (by rw [HL.out]; omega))
          clear h1
          go_wp2_with fail
          go_ret
          exact ⟨retv Hr.out.symm, hb2⟩
        · have e1 : decide (x.len < L) = false := decide_eq_false h1
          by_cases h2 : 400 < x.len
          · have e2 : decide (400 < x.len) = true := decide_eq_true h2
            have Hr := Lib.hid (Fn.wErr_rg H0.out Ha.out (by rw [HL.out]; omega))
            clear h1 h2
            go_wp2_with fail
            go_ret
            exact ⟨retv Hr.out.symm, hb2⟩
          · have e2 : decide (400 < x.len) = false := decide_eq_false h2
            by_cases h3 : x.ms < 50
            · have e3 : decide (x.ms < 50) = true := decide_eq_true h3
              have Hr := Lib.hid (Fn.wErr_rg H0.out Ha.out (by rw [HL.out]; omega))
              clear h1 h2 h3
              go_wp2_with fail
              go_ret
              exact ⟨retv Hr.out.symm, hb2⟩
            · have e3 : decide (x.ms < 50) = false := decide_eq_false h3
              by_cases h4 : 2000 < x.ms
              · have e4 : decide (2000 < x.ms) = true := decide_eq_true h4
                have Hr := Lib.hid (Fn.wErr_rg H0.out Ha.out (by rw [HL.out]; omega))
                clear h1 h2 h3 h4
                go_wp2_with fail
                go_ret
                exact ⟨retv Hr.out.symm, hb2⟩
              · have e4 : decide (2000 < x.ms) = false := decide_eq_false h4
                by_cases h5 : x.br < 0
                · have e5 : decide (x.br < 0) = true := decide_eq_true h5
                  have Hr := Lib.hid (Fn.wErr_rg H0.out Ha.out (by rw [HL.out]; omega))
                  clear h1 h2 h3 h4 h5
                  go_wp2_with fail
                  go_ret
                  exact ⟨retv Hr.out.symm, hb2⟩
                · have e5 : decide (x.br < 0) = false := decide_eq_false h5
                  by_cases h6 : x.ms < x.br
                  · have e6 : decide (x.ms < x.br) = true := decide_eq_true h6
                    have Hr := Lib.hid (Fn.wErr_rg H0.out Ha.out (by rw [HL.out]; omega))
                    clear h1 h2 h3 h4 h5 h6
                    go_wp2_with fail
                    go_ret
                    exact ⟨retv Hr.out.symm, hb2⟩
                  · have e6 : decide (x.ms < x.br) = false := decide_eq_false h6
                    by_cases h7 : x.gd < 0
                    · have e7 : decide (x.gd < 0) = true := decide_eq_true h7
                      have Hr := Lib.hid (Fn.wErr_rg H0.out Ha.out (by rw [HL.out]; omega))
                      clear h1 h2 h3 h4 h5 h6 h7
                      go_wp2_with fail
                      go_ret
                      exact ⟨retv Hr.out.symm, hb2⟩
                    · have e7 : decide (x.gd < 0) = false := decide_eq_false h7
                      by_cases h8 : 9 < x.gd
                      · have e8 : decide (9 < x.gd) = true := decide_eq_true h8
                        have Hr := Lib.hid (Fn.wErr_rg H0.out Ha.out (by rw [HL.out]; omega))
                        clear h1 h2 h3 h4 h5 h6 h7 h8
                        go_wp2_with fail
                        go_ret
                        exact ⟨retv Hr.out.symm, hb2⟩
                      · have e8 : decide (9 < x.gd) = false := decide_eq_false h8
                        have He := Lib.hid (Fn.wErr_end H0.out Ha.out (by rw [HL.out]; omega))
                        clear h1 h2 h3 h4 h5 h6 h7 h8
                        go_wp2_with fail
                        refine (HN.out _).mono ?_
                        rintro e w4 ⟨rfl, rfl⟩
                        cases hn : Pl.nameOk x.de with
                        | false =>
                          have Hr := Lib.hid (He.out.trans (if_pos hn))
                          clear hn
                          go_wp2_with fail
                          go_ret
                          exact ⟨retv Hr.out.symm, hb2⟩
                        | true =>
                          have Hr := Lib.hid (He.out.trans (if_neg (by rw [hn]; decide)))
                          clear hn
                          go_wp2_with fail
                          go_ret
                          exact ⟨retv Hr.out.symm, hb2⟩
end Go.Proofs.YtiegpkbollihgaaDoor
