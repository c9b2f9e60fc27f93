/- The walk of 'SectionTrain'. -/
import Derived.Test.YtjlfdkkaljlmjaaSectionAddsW
import Derived.Test.YtjlfdkkaljlmjaaSecTrainP
namespace Go.Proofs.Ytjlfdkkaljlmjaa
open Go.RowKit
theorem mk_int5 : Try.prog.underlying 27 = some (.slice 3) ∧ ∃ i, Try.prog.info? 3 = some i ∧ i.zero = some (.int .i64 0) ∧ i.size = 1 ∧ i.bytes = 8 := by
  obtain ⟨i, h1, h2, h3, h4⟩ := info_parts (show (Try.prog.info? 3).map (fun i => (i.zero, i.size, i.bytes)) = some (some (.int .i64 0), 1, 8) by kernel_rfl)
  exact ⟨Try.underlying27, i, h1, h2, h3, h4⟩
theorem ne_of_apart {u v : Value} {g : Nat} (h : apart u v) (hg : v.ownBlock = some g) : u.ownBlock ≠ some g := by
  rcases h with h | h
  · rw [h]; simp
  · rw [← hg]; exact h
/-- What holds at the head of a step. -/
def TrnO (w : World) (n K T g : Nat) (v2 : Value) (u t v : Value) (wr : World) : Prop :=
  ∃ (step : Nat) (at_ : List Int) (p : List V3) (time : Int) (c : Nat), v = .int .i64 step ∧ t = .int .i64 time ∧ step ≤ T ∧ Sec.Train n at_ p step time ∧ at_.length = K ∧ 0 ≤ time ∧ time ≤ 300 * step ∧ c ≤ 1 + 2 * step ∧
    wr.ownsRow w.heap.size 41 3 u step (flat3 p) ∧ wr.ownsRow w.heap.size 24 3 v2 (2 * n) (flat3 (Sec.chain n)) ∧
    wr.ownsRow w.heap.size 3 1 (.slice (some ⟨g, 0, none⟩) K K) K (at_.map (Value.int .i64)) ∧ Mk w.heap.size wr w.heap.size c ∧ Below w.heap.size w wr
def TrnI (wo : World) (K : Nat) (v : Value) (wr : World) : Prop := ∃ i : Nat, i < K ∧ v = .int .i64 i ∧ Below wo.heap.size wo wr
def TrnS (wo : World) (n : Nat) (v : Value) (wr : World) : Prop := ∃ s : Nat, s ≤ n ∧ v = .int .i64 s ∧ Below wo.heap.size wo wr
def TrnX (wo : World) (K : Nat) (at_ : List Int) (s : Nat) (c v : Value) (wr : World) : Prop := ∃ j : Nat, j ≤ K ∧ v = .int .i64 j ∧ c = .int .i64 (Sec.cAt (at_.take j) ((s : Int) + 1)) ∧ wo = wr
theorem st_cnt (c : Nat) : Sec.stOf ((c : Int), 0) = if 0 < c then 1 else 0 := by
  unfold Sec.stOf
  simp
theorem rot (K i j : Nat) (hi : i < K) (hj : j < K) (hne : i ≠ j) : ∃ q, q < K ∧ ((i : Int) + 1) % (K : Int) = (q : Int) ∧ (if q ≤ j then j - q else j + K - q) < (if i ≤ j then j - i else j + K - i) := by
  by_cases h : i + 1 = K
  · refine ⟨0, by omega, ?_, ?_⟩
    · rw [show ((i : Int) + 1) = (K : Int) by omega]; simp
    · rw [if_pos (by omega), if_neg (by omega)]; omega
  · refine ⟨i + 1, by omega, ?_, ?_⟩
    · rw [Int.emod_eq_of_lt (by omega) (by omega)]; omega
    · split <;> split <;> omega
set_option linter.unusedVariables false in
set_option maxRecDepth 100000 in
set_option maxHeartbeats 8000000 in
theorem walk_SectionTrain (a0 : Option Addr) (len0 cap0 : Nat) (z0 : List Int) (a1 : Int) (w : World) (w0 : IsRow .i64 w a0 len0 cap0 z0) (w1 : (Lit.int .i64 a1).wf = true) :
    Calls Try.prog 5 #[.slice a0 len0 cap0, .int .i64 a1] w fun e w' => e = .returned (.bool true) ∧ Below w.heap.size w w' := by
  obtain ⟨r0, m0, _⟩ := w0.reads
  clear w0
  generalize z0.take len0 = l0 at r0
  obtain ⟨r, hr, hrx⟩ := inM a1 6 (by omega)
  have t0 := tmod_bd a1 6 (by omega)
  obtain ⟨K, hK⟩ : ∃ K : Nat, K = 1 + r := ⟨_, rfl⟩
  have hK1 : 1 ≤ K := by omega
  have hK6 : K ≤ 6 := by omega
  have hKx : (1 : Int) + (r : Int) = (K : Int) := by omega
  clear hK
  go_enter Try.func5, Try.ntmps5
  go_wp2_with fail
  refine (new_c _ _ _ _ _ m0 r0).mono ?_
  rintro e w1 ⟨rfl, hm1, hb1, hz1⟩
  go_wp2_with fail
  refine (from_c w.heap.size w.heap.size 0 1 5 w1 hm1 (by omega) (by omega) (by omega) (by omega)).mono ?_
  rintro e w2 ⟨x, hx2, hx6, rfl, hm2, hg2⟩
  obtain ⟨n, rfl⟩ := Int.eq_ofNat_of_zero_le (show 0 ≤ x by omega)
  have hn1 : 1 ≤ n := by omega
  have hn5 : n ≤ 5 := by omega
  have hb2 := hb1.trans (grown_below hg2 hb1.size (Nat.le_refl _))
  clear hm1 hg2 hz1 hx2 hx6
  go_wp2_with fail
  refine (chain_c _ n w2 (by omega)).mono ?_
  rintro e w3 ⟨v3, rfl, own3, hb3⟩
  have hm3 := hm2.below hb3
  have own3a := own_more own3 hb2.size
  have hb3a := below_step hb2 hb3
  have hV := (Sec.chain_ok n (by omega)).2
  have HV := Lib.hid hV
  clear hV hb3 hm2 own3 hb2
  obtain ⟨T, hT⟩ : ∃ T, K * (n + 1) = T := ⟨_, rfl⟩
  have hTi : (K : Int) * ((n : Int) + 1) = (T : Int) := by rw [← hT]; simp
  have hT36 : T ≤ 36 := by
    have h1 := Nat.mul_le_mul hK6 (show n + 1 ≤ 6 by omega)
    omega
  have hTw : IntKind.i64.wrap (T : Int) = (T : Int) := IntWalk.i64_in _ ⟨by omega, by omega⟩
  have HT := Lib.hid hT
  clear hT
  go_wp2_with (at_make; refine wpList_mkn mk_int5 rfl rfl _ _ rfl w.heap.size _ _ _ _ K rfl rfl rfl rfl (by omega) (by simp only [maxLen]; omega) hb3a.size ?_; intro w4 own4 hb4)
  rw [show List.replicate K (Value.int .i64 0) = (List.replicate K (0 : Int)).map (Value.int .i64) from by rw [List.map_replicate]] at own4
  have hm4 := hm3.below hb4
  have own3b := own_below own3a hb4
  have hb4a := below_step hb3a hb4
  obtain ⟨g, hg⟩ : ∃ g, w3.heap.size = g := ⟨_, rfl⟩
  rw [hg] at own4 ⊢
  clear hm3 hb4 own3a hb3a hg hrx t0 hKx
  go_wp2_with fail
  go_loopw [8, 10, 11] (fun u t v wr => TrnO w n K T g v3 u t v wr) (fun _ _ v _ => T - (intOf v).toNat)
  case atStart => exact (show TrnO _ _ _ _ _ _ _ _ _ _ from ⟨0, _, [], 0, 0 + 1, rfl, rfl, by omega, Sec.Train.start n K, by simp, by omega, by simp, by omega, World.ownsRow_nil _ _ _ _, own3b, own4, hm4, hb4a⟩)
  case round =>
    obtain ⟨step, at_, p, time, c, rfl, rfl, hsT, htr, hlen, ht0, ht1, hc, ownp, ownl, owna, hmk, hbr⟩ := hrel
    clear own4 own3b hm4 hb4a
    by_cases hlt : step < T
    · have Htr := Lib.hid htr
      obtain ⟨j, hj, hfree⟩ := Sec.free_one n at_ (by rw [htr.sum, hlen]; have := HT.out; rw [hTi]; omega)
      rw [hlen] at hj
      clear htr
      have ownx := hmk.ne ownp (by decide)
      have owny := hmk.ne ownl (by decide)
      have ownz := hmk.ne owna (by decide)
      have Hlen := Lib.hid hlen
      clear hlen
      go_wp2_with fail
      refine (next_c w.heap.size w.heap.size c K wr hmk (by omega) (by omega) (by omega)).mono ?_
      rintro e w5 ⟨i0, hi0, hi1, rfl, hm5, hg5⟩
      obtain ⟨i, rfl⟩ := Int.eq_ofNat_of_zero_le hi0
      have ownp5 := ownp.kept hg5 (.inr ownx)
      have ownl5 := ownl.kept hg5 (.inr owny)
      have owna5 := owna.kept hg5 (.inr ownz)
      have hb5 := hbr.trans (grown_below hg5 hbr.size (Nat.le_refl _))
      have hiK : i < K := by omega
      clear ownp ownl owna ownx owny ownz hmk hbr hg5 hi0 hi1
      have Hfree := Lib.hid hfree
      clear hfree
      go_wp2_with fail
      go_loopw [12] (fun v wr => TrnI w5 K v wr) (fun v _ => if (intOf v).toNat ≤ j then j - (intOf v).toNat else j + K - (intOf v).toNat)
      case atStart => exact (show TrnI _ _ _ _ from ⟨i, hiK, rfl, Below.refl _ _⟩)
      case round =>
        clear hiK
        obtain ⟨i, hiK, rfl, hbr⟩ := hrel
        have owna6 := own_below owna5 hbr
        have q1 := own_cell owna6 hiK
        obtain ⟨x, hx⟩ : ∃ x, at_.getD i 0 = x := ⟨_, rfl⟩
        rw [hx] at q1
        have Hx := Lib.hid hx
        clear hx
        by_cases hbig : (n : Int) < x
        · have hne : i ≠ j := by
            rintro rfl
            have := Hfree.out.1
            rw [Hx.out] at this
            omega
          obtain ⟨q, hq, hqx, hqm⟩ := rot K i j hiK hj hne
          have hqw : IntKind.i64.wrap (q : Int) = (q : Int) := IntWalk.i64_in _ ⟨by omega, by omega⟩
          have Hqm := Lib.hid hqm
          have hbg : decide ((n : Int) < x) = true := by simpa using hbig
          clear hqm hne
          go_wp2_with fail
          go_quiet (fail)
          go_wp2_with fail
          go_roundw
          case rel => exact (show TrnI _ _ _ _ from ⟨q, hq, vint hqx, below_drewN hbr _⟩)
          case measure => simp only [intOf, hqx, Int.toNat_natCast]; exact Hqm.out
        · have hbg : decide ((n : Int) < x) = false := by simpa using hbig
          have Hx0 : 0 ≤ x := by
            have h1 := (Htr.out.bd i (by rw [Hlen.out]; exact hiK)).1
            rw [Hx.out] at h1; exact h1
          by_cases hi0 : i = 0
          · have hgi : decide ((0 : Int) < (i : Int)) = false := by simp; omega
            have hgi' : decide (0 < i) = false := by simp; omega
            clear hi0
            go_wp2_with fail
            go_quiet (fail)
            have hb7' := below_drewN hbr nq
            have ownp7 := own_below ownp5 hb7'
            have ownl7 := own_below ownl5 hb7'
            have owna7 := own_below owna5 hb7'
            have m7 := hm5.below hb7'
            have hb7 := below_step hb5 hb7'
            generalize wr.drewN nq = w7 at ownp7 ownl7 owna7 m7 hb7 ⊢
            clear hb7' hbr owna6 q1 hb5 ownp5 ownl5 owna5 hm5
            have q7 := own_cell owna7 hiK
            rw [Hx.out] at q7
            have hxn : x ≤ (n : Int) := by omega
            go_wp2_with (at_builtin; refine wpList_push sl_pulse rfl (.tmp 72) (.tmp 79) rfl w.heap.size _ _ _ rfl ownp7 1 1 rfl rfl rfl (by simp only [maxLen]; omega) (by omega) hb7.size ?_; intro v8 w8 own8 hgr8; have owna8 := hgr8.keep owna7 (own_ne_type owna7 ownp7 (by decide)); have ownl8 := hgr8.keep ownl7 (own_ne_type ownl7 ownp7 (by decide)); have m8 := m7.grown hgr8.grown (m7.ne ownp7 (by decide)) (own_ge ownp7); have hb8 := hb7.trans (hgr8.below (own_ge ownp7) hb7.size); have q8 := own_cell owna8 hiK; rw [Hx.out] at q8; have fz8 := owna8.frozenAt i; have own9a := own_set owna8 (j := i) (x + 1); have own9p := own_set_other own8 (g := g) (j := i) (ne_of_apart (own_ne_type own8 owna8 (by decide)) rfl) (.int .i64 (x + 1)); have own9l := own_set_other ownl8 (g := g) (j := i) (ne_of_apart (own_ne_type ownl8 owna8 (by decide)) rfl) (.int .i64 (x + 1)); have m9 := m8.grown (grown_set w8 g i (.int .i64 (x + 1))) (m8.ne owna8 (by decide)) (own_ge owna8); have hb9 := Below.setCell hb8 (p := ⟨g, i, none⟩) (own_ge owna8 g rfl) (.int .i64 (x + 1)); generalize hw9 : w8.setCell ⟨g, i, none⟩ (.int .i64 (x + 1)) = w9 at own9a own9p own9l m9 hb9; clear own8 hgr8 owna8 ownl8 m8 hb8)
            clear hw9 q8 fz8 ownp7 ownl7 owna7 m7 hb7 q7
            refine (next_c w.heap.size w.heap.size (c + 1) 300 w9 m9 (by omega) (by omega) (by omega)).mono ?_
            rintro e w10 ⟨d, hd0, hd1, rfl, m10, hg10⟩
            have own10p := own9p.kept hg10 (.inr (m9.ne own9p (by decide)))
            have own10l := own9l.kept hg10 (.inr (m9.ne own9l (by decide)))
            have own10a := own9a.kept hg10 (.inr (m9.ne own9a (by decide)))
            have hb10 := hb9.trans (grown_below hg10 hb9.size (Nat.le_refl _))
            clear own9a own9p own9l m9 hb9 hg10
            have htr2 := Htr.out.go (show n < 7 by omega) i (by rw [Hlen.out]; exact hiK) (by rw [Hx.out]; exact hxn) ht0 (by omega) d hd0
            rw [Hx.out] at htr2
            have hlen2 : (at_.set i (x + 1)).length = K := by rw [List.length_set, Hlen.out]
            have hp2 : w10.ownsRow w.heap.size 41 3 v8 (step + 1) (flat3 (p ++ [⟨x, time, 1⟩])) := by rw [flat3_snoc]; exact own10p
            clear own10p
            generalize at_.set i (x + 1) = at2 at htr2 hlen2 own10a
            generalize p ++ [⟨x, time, 1⟩] = p2 at htr2 hp2
            have Htr2 := Lib.hid htr2
            have Hlen2 := Lib.hid hlen2
            clear htr2 hlen2
            obtain ⟨A8, d8, rfl, k8, k8'⟩ := own_form hp2
            obtain ⟨A3, d3, rfl, k3, k3'⟩ := own_form own10l
            have vl := own_VR own10l
            have vp := own_VR hp2
            have va := own_IR own10a
            have Hchk := Lib.hid (fun (s : Nat) (hs : s < n) => Sec.chk_all (l := Sec.chain n) (p := p2) (s := (s : Int)) HV.out (by rw [Sec.chain_len]; omega) Htr2.out.ok (by rw [Htr2.out.len]; omega) (by simp [Sec.inB]; omega))
            go_wp2_with fail
            go_loopw [13] (fun v wr => TrnS w10 n v wr) (fun v _ => n - (intOf v).toNat)
            case atStart => exact (show TrnS _ _ _ _ from ⟨0, by omega, rfl, Below.refl _ _⟩)
            case round =>
              obtain ⟨s, hs, rfl, hbs⟩ := hrel
              by_cases hsn : s < n
              · obtain ⟨w11, hw11⟩ : ∃ w11 : World, w11 = wr := ⟨_, rfl⟩
                subst hw11
                have hsd : decide ((s : Int) < (n : Int)) = true := by simp; omega
                have va1 := va.below hbs
                have Hcs := Lib.hid (Htr2.out.cnt s hsn)
                go_wp2_with fail
                go_loopw [14, 98] (fun c v wr => TrnX w11 K at2 s c v wr) (fun _ v _ => K - (intOf v).toNat)
                case atStart => exact (show TrnX _ _ _ _ _ _ _ from ⟨0, by omega, rfl, rfl, rfl⟩)
                case round =>
                  obtain ⟨jx, hjx, rfl, rfl, rfl⟩ := hrel
                  by_cases hjk : jx < K
                  · have qx := va1.atb hjk
                    have htk : at2.take (jx + 1) = at2.take jx ++ [at2.getD jx 0] := take_snoc_getD at2 jx (by rw [Hlen2.out]; exact hjk)
                    obtain ⟨z, hz⟩ : ∃ z, at2.getD jx 0 = z := ⟨_, rfl⟩
                    rw [hz] at qx htk
                    have hsn2 := Sec.cAt_snoc (at2.take jx) z ((s : Int) + 1)
                    rw [← htk] at hsn2
                    have hcl := Sec.cAt_le (at2.take jx) ((s : Int) + 1)
                    rw [List.length_take] at hcl
                    have Hsn2 := Lib.hid hsn2
                    generalize Sec.cAt (at2.take jx) ((s : Int) + 1) = cc at hcl Hsn2
                    clear htk hz hsn2
                    by_cases hzs : z = (s : Int) + 1
                    · have hf := Lib.hid (show Sec.cAt (at2.take (jx + 1)) ((s : Int) + 1) = cc + 1 by rw [Hsn2.out, if_pos hzs])
                      have e1 : (z == (s : Int) + 1) = true := by simpa using hzs
                      clear hzs
                      go_wp2_with fail
                      go_roundw
                      case rel => exact (show TrnX _ _ _ _ _ _ _ from ⟨jx + 1, by omega, by go_num, by rw [hf.out]; exact vint (by simp), rfl⟩)
                      case measure => simp [intOf]; omega
                    · have hf := Lib.hid (show Sec.cAt (at2.take (jx + 1)) ((s : Int) + 1) = cc by rw [Hsn2.out, if_neg hzs])
                      have e1 : (z == (s : Int) + 1) = false := by simpa using hzs
                      clear hzs
                      go_wp2_with fail
                      go_roundw
                      case rel => exact (show TrnX _ _ _ _ _ _ _ from ⟨jx + 1, by omega, by go_num, by rw [hf.out], rfl⟩)
                      case measure => simp [intOf]; omega
                  · rw [List.take_of_length_le (by rw [Hlen2.out]; omega)]
                    generalize Sec.cAt at2 ((s : Int) + 1) = cc at Hcs
                    have vl1 := vl.below hbs
                    have vp1 := vp.below hbs
                    have Hst := Lib.hid (st_cnt cc)
                    by_cases hcc : cc = 0
                    · subst hcc
                      go_wp2_with fail
                      refine (count_ok _ _ _ _ _ _ (Sec.chain n) p2 s (-1) ((0 : Nat) : Int) _ (by omega) (by omega) vl1 vp1 (Hchk.out s hsn) (by rw [Hcs.out])).mono ?_
                      rintro e w12 ⟨rfl, hb12⟩
                      go_wp2_with fail
                      refine (state_ok _ _ _ _ _ _ (Sec.chain n) p2 s (-1) 0 _ (by omega) (by omega) (vl1.below hb12) (vp1.below hb12) (Hchk.out s hsn) (by rw [Hcs.out, Hst.out]; rfl)).mono ?_
                      rintro e w13 ⟨rfl, hb13⟩
                      go_wp2_with fail
                      go_roundw
                      case rel => exact (show TrnS _ _ _ _ from ⟨s + 1, by omega, by go_num, below_step (below_step hbs hb12) hb13⟩)
                      case measure => simp [intOf]; omega
                    · have ec : ((cc : Int) == 0) = false := by simp; omega
                      have Hcc := Lib.hid hcc
                      clear hcc
                      go_wp2_with fail
                      refine (count_ok _ _ _ _ _ _ (Sec.chain n) p2 s (-1) (cc : Int) _ (by omega) (by omega) vl1 vp1 (Hchk.out s hsn) (by rw [Hcs.out])).mono ?_
                      rintro e w12 ⟨rfl, hb12⟩
                      go_wp2_with fail
                      refine (state_ok _ _ _ _ _ _ (Sec.chain n) p2 s (-1) 1 _ (by omega) (by omega) (vl1.below hb12) (vp1.below hb12) (Hchk.out s hsn) (by rw [Hcs.out, Hst.out, if_pos (Nat.pos_of_ne_zero Hcc.out)])).mono ?_
                      rintro e w13 ⟨rfl, hb13⟩
                      go_wp2_with fail
                      go_roundw
                      case rel => exact (show TrnS _ _ _ _ from ⟨s + 1, by omega, by go_num, below_step (below_step hbs hb12) hb13⟩)
                      case measure => simp [intOf]; omega
              · have ownp11 := own_below hp2 hbs
                have ownl11 := own_below own10l hbs
                have owna11 := own_below own10a hbs
                have m11 := m10.below hbs
                have hb11 := below_step hb10 hbs
                go_wp2_with fail
                go_roundw
                case rel => exact (show TrnO _ _ _ _ _ _ _ _ _ _ from ⟨step + 1, at2, p2, time + d, c + 1 + 1, by go_num, rfl, by omega, Htr2.out, Hlen2.out, by omega, by omega, by omega, ownp11, ownl11, owna11, m11, hb11⟩)
                case measure => simp [intOf]; omega
          · have q2 := own_cell owna6 (show i - 1 < K by omega)
            obtain ⟨y, hy⟩ : ∃ y, at_.getD (i - 1) 0 = y := ⟨_, rfl⟩
            rw [hy] at q2
            have Hy := Lib.hid hy
            have hji : (i : Int) - 1 = ((i - 1 : Nat) : Int) := by omega
            clear hy
            obtain ⟨i', hi'⟩ : ∃ i', i - 1 = i' := ⟨_, rfl⟩
            rw [hi'] at hji q2
            have hi'w : IntKind.i64.wrap (i' : Int) = (i' : Int) := IntWalk.i64_in _ ⟨by omega, by omega⟩
            have hi'0 : (i' : Int) < (K : Int) := by omega
            have hgi : decide ((0 : Int) < (i : Int)) = true := by simp; omega
            have hgi' : decide (0 < i) = true := by simp; omega
            have Hi' := Lib.hid hi'
            clear hi' hi0
            by_cases hle : y ≤ x
            · have hne : i ≠ j := by
                rintro rfl
                rcases Hfree.out.2 with h0 | h0
                · have h4 := of_decide_eq_true hgi'; omega
                · rw [Hi'.out] at h0
                  have h2 := Hx.out
                  have h3 := Hy.out
                  rw [Hi'.out] at h3
                  omega
              obtain ⟨q, hq, hqx, hqm⟩ := rot K i j hiK hj hne
              have hqw : IntKind.i64.wrap (q : Int) = (q : Int) := IntWalk.i64_in _ ⟨by omega, by omega⟩
              have Hqm := Lib.hid hqm
              have hled : decide (y ≤ x) = true := by simpa using hle
              clear hqm hne
              go_wp2_with fail
              go_quiet (fail)
              go_wp2_with fail
              go_roundw
              case rel => exact (show TrnI _ _ _ _ from ⟨q, hq, vint hqx, below_drewN hbr _⟩)
              case measure => simp only [intOf, hqx, Int.toNat_natCast]; exact Hqm.out
            · have hled : decide (y ≤ x) = false := by simpa using hle
              go_wp2_with fail
              go_quiet (fail)
              have hb7' := below_drewN hbr nq
              have ownp7 := own_below ownp5 hb7'
              have ownl7 := own_below ownl5 hb7'
              have owna7 := own_below owna5 hb7'
              have m7 := hm5.below hb7'
              have hb7 := below_step hb5 hb7'
              generalize wr.drewN nq = w7 at ownp7 ownl7 owna7 m7 hb7 ⊢
              clear hb7' hbr owna6 q1 hb5 ownp5 ownl5 owna5 hm5
              have q7 := own_cell owna7 hiK
              rw [Hx.out] at q7
              have hxn : x ≤ (n : Int) := by omega
              go_wp2_with (at_builtin; refine wpList_push sl_pulse rfl (.tmp 72) (.tmp 79) rfl w.heap.size _ _ _ rfl ownp7 1 1 rfl rfl rfl (by simp only [maxLen]; omega) (by omega) hb7.size ?_; intro v8 w8 own8 hgr8; have owna8 := hgr8.keep owna7 (own_ne_type owna7 ownp7 (by decide)); have ownl8 := hgr8.keep ownl7 (own_ne_type ownl7 ownp7 (by decide)); have m8 := m7.grown hgr8.grown (m7.ne ownp7 (by decide)) (own_ge ownp7); have hb8 := hb7.trans (hgr8.below (own_ge ownp7) hb7.size); have q8 := own_cell owna8 hiK; rw [Hx.out] at q8; have fz8 := owna8.frozenAt i; have own9a := own_set owna8 (j := i) (x + 1); have own9p := own_set_other own8 (g := g) (j := i) (ne_of_apart (own_ne_type own8 owna8 (by decide)) rfl) (.int .i64 (x + 1)); have own9l := own_set_other ownl8 (g := g) (j := i) (ne_of_apart (own_ne_type ownl8 owna8 (by decide)) rfl) (.int .i64 (x + 1)); have m9 := m8.grown (grown_set w8 g i (.int .i64 (x + 1))) (m8.ne owna8 (by decide)) (own_ge owna8); have hb9 := Below.setCell hb8 (p := ⟨g, i, none⟩) (own_ge owna8 g rfl) (.int .i64 (x + 1)); generalize hw9 : w8.setCell ⟨g, i, none⟩ (.int .i64 (x + 1)) = w9 at own9a own9p own9l m9 hb9; clear own8 hgr8 owna8 ownl8 m8 hb8)
              clear hw9 q8 fz8 ownp7 ownl7 owna7 m7 hb7 q7
              refine (next_c w.heap.size w.heap.size (c + 1) 300 w9 m9 (by omega) (by omega) (by omega)).mono ?_
              rintro e w10 ⟨d, hd0, hd1, rfl, m10, hg10⟩
              have own10p := own9p.kept hg10 (.inr (m9.ne own9p (by decide)))
              have own10l := own9l.kept hg10 (.inr (m9.ne own9l (by decide)))
              have own10a := own9a.kept hg10 (.inr (m9.ne own9a (by decide)))
              have hb10 := hb9.trans (grown_below hg10 hb9.size (Nat.le_refl _))
              clear own9a own9p own9l m9 hb9 hg10
              have htr2 := Htr.out.go (show n < 7 by omega) i (by rw [Hlen.out]; exact hiK) (by rw [Hx.out]; exact hxn) ht0 (by omega) d hd0
              rw [Hx.out] at htr2
              have hlen2 : (at_.set i (x + 1)).length = K := by rw [List.length_set, Hlen.out]
              have hp2 : w10.ownsRow w.heap.size 41 3 v8 (step + 1) (flat3 (p ++ [⟨x, time, 1⟩])) := by rw [flat3_snoc]; exact own10p
              clear own10p
              generalize at_.set i (x + 1) = at2 at htr2 hlen2 own10a
              generalize p ++ [⟨x, time, 1⟩] = p2 at htr2 hp2
              have Htr2 := Lib.hid htr2
              have Hlen2 := Lib.hid hlen2
              clear htr2 hlen2
              obtain ⟨A8, d8, rfl, k8, k8'⟩ := own_form hp2
              obtain ⟨A3, d3, rfl, k3, k3'⟩ := own_form own10l
              have vl := own_VR own10l
              have vp := own_VR hp2
              have va := own_IR own10a
              have Hchk := Lib.hid (fun (s : Nat) (hs : s < n) => Sec.chk_all (l := Sec.chain n) (p := p2) (s := (s : Int)) HV.out (by rw [Sec.chain_len]; omega) Htr2.out.ok (by rw [Htr2.out.len]; omega) (by simp [Sec.inB]; omega))
              go_wp2_with fail
              go_loopw [13] (fun v wr => TrnS w10 n v wr) (fun v _ => n - (intOf v).toNat)
              case atStart => exact (show TrnS _ _ _ _ from ⟨0, by omega, rfl, Below.refl _ _⟩)
              case round =>
                obtain ⟨s, hs, rfl, hbs⟩ := hrel
                by_cases hsn : s < n
                · obtain ⟨w11, hw11⟩ : ∃ w11 : World, w11 = wr := ⟨_, rfl⟩
                  subst hw11
                  have hsd : decide ((s : Int) < (n : Int)) = true := by simp; omega
                  have va1 := va.below hbs
                  have Hcs := Lib.hid (Htr2.out.cnt s hsn)
                  go_wp2_with fail
                  go_loopw [14, 98] (fun c v wr => TrnX w11 K at2 s c v wr) (fun _ v _ => K - (intOf v).toNat)
                  case atStart => exact (show TrnX _ _ _ _ _ _ _ from ⟨0, by omega, rfl, rfl, rfl⟩)
                  case round =>
                    obtain ⟨jx, hjx, rfl, rfl, rfl⟩ := hrel
                    by_cases hjk : jx < K
                    · have qx := va1.atb hjk
                      have htk : at2.take (jx + 1) = at2.take jx ++ [at2.getD jx 0] := take_snoc_getD at2 jx (by rw [Hlen2.out]; exact hjk)
                      obtain ⟨z, hz⟩ : ∃ z, at2.getD jx 0 = z := ⟨_, rfl⟩
                      rw [hz] at qx htk
                      have hsn2 := Sec.cAt_snoc (at2.take jx) z ((s : Int) + 1)
                      rw [← htk] at hsn2
                      have hcl := Sec.cAt_le (at2.take jx) ((s : Int) + 1)
                      rw [List.length_take] at hcl
                      have Hsn2 := Lib.hid hsn2
                      generalize Sec.cAt (at2.take jx) ((s : Int) + 1) = cc at hcl Hsn2
                      clear htk hz hsn2
                      by_cases hzs : z = (s : Int) + 1
                      · have hf := Lib.hid (show Sec.cAt (at2.take (jx + 1)) ((s : Int) + 1) = cc + 1 by rw [Hsn2.out, if_pos hzs])
                        have e1 : (z == (s : Int) + 1) = true := by simpa using hzs
                        clear hzs
                        go_wp2_with fail
                        go_roundw
                        case rel => exact (show TrnX _ _ _ _ _ _ _ from ⟨jx + 1, by omega, by go_num, by rw [hf.out]; exact vint (by simp), rfl⟩)
                        case measure => simp [intOf]; omega
                      · have hf := Lib.hid (show Sec.cAt (at2.take (jx + 1)) ((s : Int) + 1) = cc by rw [Hsn2.out, if_neg hzs])
                        have e1 : (z == (s : Int) + 1) = false := by simpa using hzs
                        clear hzs
                        go_wp2_with fail
                        go_roundw
                        case rel => exact (show TrnX _ _ _ _ _ _ _ from ⟨jx + 1, by omega, by go_num, by rw [hf.out], rfl⟩)
                        case measure => simp [intOf]; omega
                    · rw [List.take_of_length_le (by rw [Hlen2.out]; omega)]
                      generalize Sec.cAt at2 ((s : Int) + 1) = cc at Hcs
                      have vl1 := vl.below hbs
                      have vp1 := vp.below hbs
                      have Hst := Lib.hid (st_cnt cc)
                      by_cases hcc : cc = 0
                      · subst hcc
                        go_wp2_with fail
                        refine (count_ok _ _ _ _ _ _ (Sec.chain n) p2 s (-1) ((0 : Nat) : Int) _ (by omega) (by omega) vl1 vp1 (Hchk.out s hsn) (by rw [Hcs.out])).mono ?_
                        rintro e w12 ⟨rfl, hb12⟩
                        go_wp2_with fail
                        refine (state_ok _ _ _ _ _ _ (Sec.chain n) p2 s (-1) 0 _ (by omega) (by omega) (vl1.below hb12) (vp1.below hb12) (Hchk.out s hsn) (by rw [Hcs.out, Hst.out]; rfl)).mono ?_
                        rintro e w13 ⟨rfl, hb13⟩
                        go_wp2_with fail
                        go_roundw
                        case rel => exact (show TrnS _ _ _ _ from ⟨s + 1, by omega, by go_num, below_step (below_step hbs hb12) hb13⟩)
                        case measure => simp [intOf]; omega
                      · have ec : ((cc : Int) == 0) = false := by simp; omega
                        have Hcc := Lib.hid hcc
                        clear hcc
                        go_wp2_with fail
                        refine (count_ok _ _ _ _ _ _ (Sec.chain n) p2 s (-1) (cc : Int) _ (by omega) (by omega) vl1 vp1 (Hchk.out s hsn) (by rw [Hcs.out])).mono ?_
                        rintro e w12 ⟨rfl, hb12⟩
                        go_wp2_with fail
                        refine (state_ok _ _ _ _ _ _ (Sec.chain n) p2 s (-1) 1 _ (by omega) (by omega) (vl1.below hb12) (vp1.below hb12) (Hchk.out s hsn) (by rw [Hcs.out, Hst.out, if_pos (Nat.pos_of_ne_zero Hcc.out)])).mono ?_
                        rintro e w13 ⟨rfl, hb13⟩
                        go_wp2_with fail
                        go_roundw
                        case rel => exact (show TrnS _ _ _ _ from ⟨s + 1, by omega, by go_num, below_step (below_step hbs hb12) hb13⟩)
                        case measure => simp [intOf]; omega
                · have ownp11 := own_below hp2 hbs
                  have ownl11 := own_below own10l hbs
                  have owna11 := own_below own10a hbs
                  have m11 := m10.below hbs
                  have hb11 := below_step hb10 hbs
                  go_wp2_with fail
                  go_roundw
                  case rel => exact (show TrnO _ _ _ _ _ _ _ _ _ _ from ⟨step + 1, at2, p2, time + d, c + 1 + 1, by go_num, rfl, by omega, Htr2.out, Hlen2.out, by omega, by omega, by omega, ownp11, ownl11, owna11, m11, hb11⟩)
                  case measure => simp [intOf]; omega
    · go_wp2_with fail
      refine (sane05_c _).mono ?_
      rintro e w5 ⟨rfl, hb5⟩
      go_wp2_with fail
      go_ret
      exact ⟨rfl, below_step hbr hb5⟩
end Go.Proofs.Ytjlfdkkaljlmjaa
