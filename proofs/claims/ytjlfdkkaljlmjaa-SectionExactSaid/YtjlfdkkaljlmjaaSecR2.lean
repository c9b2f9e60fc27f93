/- The reference of layer 5: effect, check, Count, State, Through, Balance. -/
import Derived.Test.YtjlfdkkaljlmjaaSecR1
import Derived.Test.YtjlfdkkaljlmjaaSecThrP
import Derived.Test.YtjlfdkkaljlmjaaDetR1
namespace Go.Proofs.Ytjlfdkkaljlmjaa
open Go.RowKit Go.Maps
set_option maxRecDepth 100000 in
set_option maxHeartbeats 1000000 in
theorem effect_c (A : Option Addr) (n c : Nat) (l : List V3) (a b k s : Int) (w : World) (hn : n ≤ 1000000) (h : VR w A n l) (hok : ∀ b ∈ l, Sec.okB b = true) (hv : Sec.vGo l [] = 0) (hk : k = 1 ∨ k = -1) :
    Calls Try.prog 62 #[.slice A n c, .agg #[.int .i64 a, .int .i64 b, .int .i64 k], .int .i64 s] w fun e w' => e = .returned (.int .i64 (k * Sec.sense l s a)) ∧ Below w.heap.size w w' := by
  have hl := h.len
  have Hse := Lib.hid (show k * Sec.sense l s a = k * Sec.senseF (l.drop 0) s a by rw [Sec.sense_first l [] s a hv]; rfl)
  clear hv
  go_enter Try.func62, Try.ntmps62
  go_wp2_with fail
  go_loopw [7] (fun p wr => ∃ j : Nat, j ≤ n ∧ p = .int .i64 j ∧ Hid (k * Sec.sense l s a = k * Sec.senseF (l.drop j) s a) ∧ Below (w.heap.size + 1) (w.alloc (.cells #[.int .i64 a, .int .i64 b, .int .i64 k] 41)) wr) (fun p _ => n - (intOf p).toNat)
  case atStart => exact ⟨0, by omega, rfl, Hse, Below.refl _ _⟩
  case round =>
    obtain ⟨j, hj, rfl, hse, hb2⟩ := hrel
    have x1 : wr.cell? ⟨w.heap.size, 0, none⟩ = some (.int .i64 a) := (hb2.cell (by simp)).trans ((Blk.new w _ _).cell 0)
    have x3 : wr.cell? ⟨w.heap.size, 2, none⟩ = some (.int .i64 k) := (hb2.cell (by simp)).trans ((Blk.new w _ _).cell 2)
    have hbr : Below w.heap.size w wr := ((Below.refl w.heap.size w).alloc (Nat.le_refl _) (.cells #[.int .i64 a, .int .i64 b, .int .i64 k] 41)).trans (hb2.mono (by omega))
    by_cases hlt : j < n
    · obtain ⟨ad, ⟨qa, qb, qc⟩, rfl, hba, hp, c1, c2, c3⟩ := h.at_ hlt
      have d1 := keep_cell hbr c1
      have d2 := keep_cell hbr c2
      have d3 := keep_cell hbr c3
      have Hsd := Lib.hid (Sec.senseF_drop l j _ s a hp)
      have o5 := (Sec.okB_all (hok _ (List.mem_of_getElem? hp))).2.2
      simp only at d1 d2 d3 o5
      clear hp c1 c2 c3
      by_cases t1 : qa = s
      · by_cases t2 : qb = a
        · have Hf := Lib.hid (show k * Sec.sense l s a = k * qc by rw [hse.out, Hsd.out, if_pos ⟨t1.symm, t2.symm⟩])
          have f1 : (qa == s) = true := by simpa using t1
          have f2 : (qb == a) = true := by simpa using t2
          clear t1 t2
          rcases hk with rfl | rfl <;> rcases o5 with rfl | rfl
          all_goals
            go_wp2_with fail
            go_quiet (fail)
            go_wp2_with fail
            go_quiet (fail)
            go_wp2_with fail
            go_ret
            exact ⟨retv (by rw [Hf.out]; rfl), below_drewN (below_drewN hbr _) _⟩
        · have Hf := Lib.hid (show k * Sec.sense l s a = k * Sec.senseF (l.drop (j + 1)) s a by rw [hse.out, Hsd.out, if_neg (fun e => t2 e.2.symm)])
          have f1 : (qa == s) = true := by simpa using t1
          have f2 : (qb == a) = false := by simpa using t2
          clear t1 t2
          go_wp2_with fail
          go_quiet (fail)
          go_wp2_with fail
          go_roundw
          case rel => exact ⟨j + 1, by omega, by go_num, Hf, below_drewN hb2 _⟩
          case measure => simp [intOf]; omega
      · have Hf := Lib.hid (show k * Sec.sense l s a = k * Sec.senseF (l.drop (j + 1)) s a by rw [hse.out, Hsd.out, if_neg (fun e => t1 e.1.symm)])
        have f1 : (qa == s) = false := by simpa using t1
        clear t1
        go_wp2_with fail
        go_quiet (fail)
        go_wp2_with fail
        go_roundw
        case rel => exact ⟨j + 1, by omega, by go_num, Hf, below_drewN hb2 _⟩
        case measure => simp [intOf]; omega
    · obtain rfl : j = n := by omega
      go_wp2_with fail
      go_ret
      exact ⟨retv (by rw [hse.out, List.drop_eq_nil_of_le (by omega)]; simp [Sec.senseF]), hbr⟩
namespace Sec
theorem cnt_neg (l p : List V3) (s r : Int) (k : Nat) (h : (cnt l (p.take k) s r).2 < 0) : (cnt l p s r).2 < 0 := by
  have H : ∀ d : Nat, (cnt l (p.take (k + d)) s r).2 < 0 := by
    intro d
    induction d with
    | zero => exact h
    | succ d ih => exact cnt_stays l p s r (k + d) ih
  have := H p.length
  rwa [List.take_of_length_le (by omega)] at this
theorem cs_eq (l : List V3) (s r : Int) (x : V3) (h : r < x.b) : cs l s r x = x.c * sense l s x.a := by rw [cs, if_neg (by omega)]
theorem cs_bd (l : List V3) (hl : ∀ b ∈ l, okB b = true) (s : Int) (x : V3) (h : x.c = 1 ∨ x.c = -1) : -1 ≤ x.c * sense l s x.a ∧ x.c * sense l s x.a ≤ 1 := by
  have h2 := sense_range l hl s x.a
  rcases h with h1 | h1 <;> rcases h2 with h2 | h2 | h2 <;> rw [h1, h2] <;> simp
end Sec
set_option maxHeartbeats 1000000 in
theorem rcheck_c (A B : Option Addr) (n c m d : Nat) (l p : List V3) (s : Int) (w : World) (hn : n ≤ maxLen) (hm : m ≤ maxLen) (h : VR w A n l) (hp : VR w B m p) :
    Calls Try.prog 61 #[.slice A n c, .slice B m d, .int .i64 s] w fun e w' => e = .returned (.int .i64 (Sec.chk l p s)) ∧ Below w.heap.size w w' := by
  by_cases h1 : Sec.vErr l = 0
  · by_cases h2 : Det.vErr p = 0
    · have hfin : Sec.chk l p s = if Sec.inB s = true then 0 else 2 := by rw [Sec.chk, if_pos h1, if_pos h2]
      have Hf := Lib.hid hfin
      have H1 := Lib.hid h1
      have H2 := Lib.hid h2
      clear hfin h1 h2
      by_cases hs0 : s < 0
      · have Hi := Lib.hid (show Sec.chk l p s = 2 by rw [Hf.out, if_neg (by simp [Sec.inB]; omega)])
        go_enter Try.func61, Try.ntmps61
        go_wp2_with fail
        refine (rvalid5_c A n c l _ hn h).mono ?_
        rintro e w1 ⟨rfl, hb1⟩
        rw [H1.out]
        go_wp2_with fail
        refine (rvalid4_c B m d p _ hm (hp.below hb1)).mono ?_
        rintro e w2 ⟨rfl, hb2⟩
        rw [H2.out]
        go_wp2_with fail
        go_ret
        exact ⟨retv Hi.out.symm, below_step hb1 hb2⟩
      · by_cases hs1 : 31 < s
        · have Hi := Lib.hid (show Sec.chk l p s = 2 by rw [Hf.out, if_neg (by simp [Sec.inB]; omega)])
          have hs0' : decide (s < 0) = false := by simpa using hs0
          clear hs0
          go_enter Try.func61, Try.ntmps61
          go_wp2_with fail
          refine (rvalid5_c A n c l _ hn h).mono ?_
          rintro e w1 ⟨rfl, hb1⟩
          rw [H1.out]
          go_wp2_with fail
          refine (rvalid4_c B m d p _ hm (hp.below hb1)).mono ?_
          rintro e w2 ⟨rfl, hb2⟩
          rw [H2.out]
          go_wp2_with fail
          go_ret
          exact ⟨retv Hi.out.symm, below_step hb1 hb2⟩
        · have Hi := Lib.hid (show Sec.chk l p s = 0 by rw [Hf.out, if_pos (by simp [Sec.inB]; omega)])
          have hs0' : decide (s < 0) = false := by simpa using hs0
          have hs1' : decide (31 < s) = false := by simpa using hs1
          clear hs0 hs1
          go_enter Try.func61, Try.ntmps61
          go_wp2_with fail
          refine (rvalid5_c A n c l _ hn h).mono ?_
          rintro e w1 ⟨rfl, hb1⟩
          rw [H1.out]
          go_wp2_with fail
          refine (rvalid4_c B m d p _ hm (hp.below hb1)).mono ?_
          rintro e w2 ⟨rfl, hb2⟩
          rw [H2.out]
          go_wp2_with fail
          go_ret
          exact ⟨retv Hi.out.symm, below_step hb1 hb2⟩
    · have hfin : Sec.chk l p s = Det.vErr p := by rw [Sec.chk, if_pos h1, if_neg h2]
      have Hf := Lib.hid hfin
      have H1 := Lib.hid h1
      have e2 : (Det.vErr p != 0) = true := by simpa using h2
      clear hfin h1 h2
      go_enter Try.func61, Try.ntmps61
      go_wp2_with fail
      refine (rvalid5_c A n c l _ hn h).mono ?_
      rintro e w1 ⟨rfl, hb1⟩
      rw [H1.out]
      go_wp2_with fail
      refine (rvalid4_c B m d p _ hm (hp.below hb1)).mono ?_
      rintro e w2 ⟨rfl, hb2⟩
      go_wp2_with fail
      go_ret
      exact ⟨retv Hf.out.symm, below_step hb1 hb2⟩
  · have hfin : Sec.chk l p s = Sec.vErr l := by rw [Sec.chk, if_neg h1]
    have Hf := Lib.hid hfin
    have e2 : (Sec.vErr l != 0) = true := by simpa using h1
    clear hfin h1
    go_enter Try.func61, Try.ntmps61
    go_wp2_with fail
    refine (rvalid5_c A n c l _ hn h).mono ?_
    rintro e w1 ⟨rfl, hb1⟩
    go_wp2_with fail
    go_ret
    exact ⟨retv Hf.out.symm, hb1⟩
set_option maxRecDepth 100000 in
set_option maxHeartbeats 2000000 in
theorem rcount_c (A B : Option Addr) (n c m d : Nat) (l p : List V3) (s r : Int) (w : World) (hn : n ≤ maxLen) (hm : m ≤ maxLen) (h : VR w A n l) (hp : VR w B m p) :
    Calls Try.prog 47 #[.slice A n c, .slice B m d, .int .i64 s, .int .i64 r] w fun e w' => e = .returned (.tuple #[.int .i64 (Sec.cntR l p s r), .int .i64 (Sec.chk l p s)]) ∧ Below w.heap.size w w' := by
  by_cases h1 : Sec.chk l p s = 0
  · have Hf := Lib.hid (show Sec.cntR l p s r = (Sec.cnt l p s r).1 by rw [Sec.cntR, if_pos h1])
    have H1 := Lib.hid h1
    obtain ⟨k1, k2, k3⟩ := Sec.chk_ok h1
    obtain ⟨l1, lv, l3⟩ := Sec.vErr_valid k1
    obtain ⟨p1, _, p3⟩ := Sec.detErr_ok k2
    have hl := h.len
    have hpl := hp.len
    have Lv := Lib.hid lv
    clear h1 k1 k2 lv
    go_enter Try.func47, Try.ntmps47
    go_wp2_with fail
    refine (rcheck_c A B n c m d l p s _ hn hm h hp).mono ?_
    rintro e w1 ⟨rfl, hb1⟩
    rw [H1.out]
    go_wp2_with fail
    go_loopw [11, 12] (fun u q wr => ∃ k : Nat, k ≤ m ∧ q = .int .i64 k ∧ u = .int .i64 (Sec.cnt l (p.take k) s r).1 ∧ Below w.heap.size w wr) (fun _ q _ => m - (intOf q).toNat)
    case atStart => exact ⟨0, by omega, rfl, rfl, hb1⟩
    case round =>
      obtain ⟨k, hk, rfl, rfl, hbr⟩ := hrel
      by_cases hlt : k < m
      · obtain ⟨ad, ⟨pa, pb, pc⟩, rfl, hba, hp', c1, c2, c3⟩ := hp.at_ hlt
        have d1 := keep_cell hbr c1
        have d2 := keep_cell hbr c2
        have d3 := keep_cell hbr c3
        have hox := (Det.okP_all (p3 _ (List.mem_of_getElem? hp'))).2.2.2.2
        have hcb := Sec.cs_bd l l3 s _ hox
        have Hst := Lib.hid (show Sec.cnt l (p.take (k + 1)) s r = Sec.cstep l s r (Sec.cnt l (p.take k) s r) ⟨pa, pb, pc⟩ by rw [take_snoc3 hp', Sec.cnt_snoc])
        have hcr := Sec.cnt_range l l3 s r k (p.take k) (by simp; omega) (fun x hx => (Det.okP_all (p3 x (List.mem_of_mem_take hx))).2.2.2.2)
        simp only at d1 d2 d3 hox hcb
        clear hp' c1 c2 c3
        generalize Sec.cnt l (p.take k) s r = x at hcr Hst
        obtain ⟨x1, x2⟩ := x
        simp only at hcr
        obtain ⟨g1, g2, _, _⟩ := hcr
        by_cases hr : r < pb
        · have Hf2 := Lib.hid (show (Sec.cnt l (p.take (k + 1)) s r).1 = x1 + pc * Sec.sense l s pa by rw [Hst.out, Sec.cstep, if_neg (by simp only; omega)])
          have he := Lib.hid (fun W (hW : VR W A n l) => effect_c A n c l pa pb pc s W (by omega) hW l3 Lv.out hox)
          generalize pc * Sec.sense l s pa = y at hcb Hf2 he
          clear hox
          go_wp2_with fail
          refine (he.out _ (h.below hbr)).mono ?_
          rintro e w2 ⟨rfl, hb2⟩
          go_wp2_with fail
          go_roundw
          case rel => exact ⟨k + 1, by omega, by go_num, by rw [Hf2.out], below_step hbr hb2⟩
          case measure => simp [intOf]; omega
        · have Hf2 := Lib.hid (show (Sec.cnt l (p.take (k + 1)) s r).1 = x1 by rw [Hst.out, Sec.cstep, if_pos (by simp only; omega)])
          clear hox hcb
          go_wp2_with fail
          go_roundw
          case rel => exact ⟨k + 1, by omega, by go_num, by rw [Hf2.out], hbr⟩
          case measure => simp [intOf]; omega
      · obtain rfl : k = m := by omega
        have Htk := Lib.hid (List.take_of_length_le (l := p) (i := k) (by omega))
        go_wp2_with fail
        go_ret2
        exact ⟨ret2v (by rw [Hf.out, Htk.out]) H1.out.symm, hbr⟩
  · have Hf := Lib.hid (show Sec.cntR l p s r = 0 by rw [Sec.cntR, if_neg h1])
    have e2 : (Sec.chk l p s != 0) = true := by simpa using h1
    clear h1
    go_enter Try.func47, Try.ntmps47
    go_wp2_with fail
    refine (rcheck_c A B n c m d l p s _ hn hm h hp).mono ?_
    rintro e w1 ⟨rfl, hb1⟩
    go_wp2_with fail
    go_ret2
    exact ⟨ret2v Hf.out.symm rfl, hb1⟩
set_option maxRecDepth 100000 in
set_option maxHeartbeats 2000000 in
theorem rstate_c (A B : Option Addr) (n c m d : Nat) (l p : List V3) (s r : Int) (w : World) (hn : n ≤ maxLen) (hm : m ≤ maxLen) (h : VR w A n l) (hp : VR w B m p) :
    Calls Try.prog 48 #[.slice A n c, .slice B m d, .int .i64 s, .int .i64 r] w fun e w' => e = .returned (.tuple #[.int .i64 (Sec.stR l p s r), .int .i64 (Sec.chk l p s)]) ∧ Below w.heap.size w w' := by
  by_cases h1 : Sec.chk l p s = 0
  · have Hf := Lib.hid (show Sec.stR l p s r = Sec.stOf (Sec.cnt l p s r) by rw [Sec.stR, if_pos h1])
    have H1 := Lib.hid h1
    obtain ⟨k1, k2, k3⟩ := Sec.chk_ok h1
    obtain ⟨l1, lv, l3⟩ := Sec.vErr_valid k1
    obtain ⟨p1, _, p3⟩ := Sec.detErr_ok k2
    have hl := h.len
    have hpl := hp.len
    have Lv := Lib.hid lv
    clear h1 k1 k2 lv
    go_enter Try.func48, Try.ntmps48
    go_wp2_with fail
    refine (rcheck_c A B n c m d l p s _ hn hm h hp).mono ?_
    rintro e w1 ⟨rfl, hb1⟩
    rw [H1.out]
    go_wp2_with fail
    go_loopw [11, 12] (fun u q wr => ∃ (k : Nat) (x : Int), k ≤ m ∧ q = .int .i64 k ∧ u = .int .i64 x ∧ 0 ≤ x ∧ Hid (Sec.cnt l (p.take k) s r = (x, 0)) ∧ Below w.heap.size w wr) (fun _ q _ => m - (intOf q).toNat)
    case atStart => exact ⟨0, 0, by omega, rfl, rfl, by omega, Lib.hid rfl, hb1⟩
    case round =>
      obtain ⟨k, x, hk, rfl, rfl, hx0, hcn, hbr⟩ := hrel
      by_cases hlt : k < m
      · obtain ⟨ad, ⟨pa, pb, pc⟩, rfl, hba, hp', c1, c2, c3⟩ := hp.at_ hlt
        have d1 := keep_cell hbr c1
        have d2 := keep_cell hbr c2
        have d3 := keep_cell hbr c3
        have hox := (Det.okP_all (p3 _ (List.mem_of_getElem? hp'))).2.2.2.2
        have hcb := Sec.cs_bd l l3 s _ hox
        have Hst := Lib.hid (show Sec.cnt l (p.take (k + 1)) s r = Sec.cstep l s r (x, 0) ⟨pa, pb, pc⟩ by rw [take_snoc3 hp', Sec.cnt_snoc, hcn.out])
        have hcr := Sec.cnt_range l l3 s r k (p.take k) (by simp; omega) (fun x hx => (Det.okP_all (p3 x (List.mem_of_mem_take hx))).2.2.2.2)
        rw [hcn.out] at hcr
        simp only at d1 d2 d3 hox hcb hcr
        clear hp' c1 c2 c3
        obtain ⟨g1, g2, _, _⟩ := hcr
        by_cases hr : r < pb
        · have he := Lib.hid (fun W (hW : VR W A n l) => effect_c A n c l pa pb pc s W (by omega) hW l3 Lv.out hox)
          have Hf2 := Lib.hid (show Sec.cnt l (p.take (k + 1)) s r = (x + pc * Sec.sense l s pa, min 0 (x + pc * Sec.sense l s pa)) by rw [Hst.out, Sec.cstep, if_neg (by simp only; omega)])
          generalize pc * Sec.sense l s pa = y at hcb Hf2 he
          clear hox
          by_cases hneg : x + y < 0
          · have Hs := Lib.hid (show Sec.stR l p s r = 2 by
              rw [Hf.out, Sec.stOf, if_pos (Sec.cnt_neg l p s r (k + 1) (by rw [Hf2.out]; simp only; omega))])
            go_wp2_with fail
            refine (he.out _ (h.below hbr)).mono ?_
            rintro e w2 ⟨rfl, hb2⟩
            go_wp2_with fail
            go_ret2
            exact ⟨ret2v Hs.out.symm H1.out.symm, below_step hbr hb2⟩
          · have Hf3 := Lib.hid (show Sec.cnt l (p.take (k + 1)) s r = (x + y, 0) by rw [Hf2.out]; exact Prod.ext rfl (by simp only; omega))
            go_wp2_with fail
            refine (he.out _ (h.below hbr)).mono ?_
            rintro e w2 ⟨rfl, hb2⟩
            go_wp2_with fail
            go_roundw
            case rel => exact ⟨k + 1, x + y, by omega, by go_num, rfl, by omega, Hf3, below_step hbr hb2⟩
            case measure => simp [intOf]; omega
        · have Hf2 := Lib.hid (show Sec.cnt l (p.take (k + 1)) s r = (x, 0) by rw [Hst.out, Sec.cstep, if_pos (by simp only; omega)])
          clear hox hcb
          go_wp2_with fail
          go_roundw
          case rel => exact ⟨k + 1, x, by omega, by go_num, rfl, hx0, Hf2, hbr⟩
          case measure => simp [intOf]; omega
      · obtain rfl : k = m := by omega
        have Htk := Lib.hid (List.take_of_length_le (l := p) (i := k) (by omega))
        have Hs := Lib.hid (show Sec.stR l p s r = if 0 < x then 1 else 0 by rw [Hf.out, ← Htk.out, hcn.out, Sec.stOf, if_neg (by simp)])
        by_cases hpos : 0 < x
        · go_wp2_with fail
          go_ret2
          exact ⟨ret2v (by rw [Hs.out, if_pos hpos]) H1.out.symm, hbr⟩
        · go_wp2_with fail
          go_ret2
          exact ⟨ret2v (by rw [Hs.out, if_neg (by omega)]) H1.out.symm, hbr⟩
  · have Hf := Lib.hid (show Sec.stR l p s r = 0 by rw [Sec.stR, if_neg h1])
    have e2 : (Sec.chk l p s != 0) = true := by simpa using h1
    clear h1
    go_enter Try.func48, Try.ntmps48
    go_wp2_with fail
    refine (rcheck_c A B n c m d l p s _ hn hm h hp).mono ?_
    rintro e w1 ⟨rfl, hb1⟩
    go_wp2_with fail
    go_ret2
    exact ⟨ret2v Hf.out.symm rfl, hb1⟩
end Go.Proofs.Ytjlfdkkaljlmjaa
