/- The walks of layer 5: check, Count, State, Through, Balance. -/
import Derived.Test.YtjlfdkkaljlmjaaSecW2
import Derived.Test.YtjlfdkkaljlmjaaGen1
namespace Go.Proofs.Ytjlfdkkaljlmjaa
open Go.RowKit Go.Maps
set_option maxHeartbeats 1000000 in
theorem check_c (A B : Option Addr) (n c m d : Nat) (l p : List V3) (s : Int) (w : World) (hn : n ≤ maxLen) (hm : m ≤ maxLen) (h : VR w A n l) (hp : VR w B m p) :
    Calls Try.prog 45 #[.slice A n c, .slice B m d, .int .i64 s] w fun e w' => e = .returned (.int .i64 (Sec.chk l p s)) ∧ Below w.heap.size w w' := by
  by_cases h1 : Sec.vErr l = 0
  · by_cases h2 : Det.vErr p = 0
    · have hfin : Sec.chk l p s = if Sec.inB s = true then 0 else 2 := by rw [Sec.chk, if_pos h1, if_pos h2]
      have Hf := Lib.hid hfin
      have H1 := Lib.hid h1
      have H2 := Lib.hid h2
      clear hfin h1 h2
      cases h3 : Sec.inB s
      all_goals
        go_enter Try.func45, Try.ntmps45
        go_wp2_with fail
        refine (svalid_c A n c l _ hn h).mono ?_
        rintro e w1 ⟨rfl, hb1⟩
        rw [H1.out]
        go_wp2_with fail
        refine (valid_c B m d p _ hm (hp.below hb1)).mono ?_
        rintro e w2 ⟨rfl, hb2⟩
        rw [H2.out]
        go_wp2_with (go_at_call 43; refine (in_c _ _).mono ?_; rintro e w3 ⟨rfl, rfl⟩)
        go_ret
        exact ⟨by rw [Hf.out, h3]; rfl, below_step hb1 hb2⟩
    · have hfin : Sec.chk l p s = Det.vErr p := by rw [Sec.chk, if_pos h1, if_neg h2]
      have Hf := Lib.hid hfin
      have H1 := Lib.hid h1
      have e2 : (Det.vErr p != 0) = true := by simpa using h2
      clear hfin h1 h2
      go_enter Try.func45, Try.ntmps45
      go_wp2_with fail
      refine (svalid_c A n c l _ hn h).mono ?_
      rintro e w1 ⟨rfl, hb1⟩
      rw [H1.out]
      go_wp2_with fail
      refine (valid_c B m d p _ hm (hp.below hb1)).mono ?_
      rintro e w2 ⟨rfl, hb2⟩
      go_wp2_with fail
      go_ret
      exact ⟨retv Hf.out.symm, below_step hb1 hb2⟩
  · have hfin : Sec.chk l p s = Sec.vErr l := by rw [Sec.chk, if_neg h1]
    have Hf := Lib.hid hfin
    have e2 : (Sec.vErr l != 0) = true := by simpa using h1
    clear hfin h1
    go_enter Try.func45, Try.ntmps45
    go_wp2_with fail
    refine (svalid_c A n c l _ hn h).mono ?_
    rintro e w1 ⟨rfl, hb1⟩
    go_wp2_with fail
    go_ret
    exact ⟨retv Hf.out.symm, hb1⟩
def Sec.cntR (l p : List V3) (s r : Int) : Int := if Sec.chk l p s = 0 then (Sec.cnt l p s r).1 else 0
def Sec.stR (l p : List V3) (s r : Int) : Int := if Sec.chk l p s = 0 then Sec.stOf (Sec.cnt l p s r) else 0
def Sec.thrR (l : List V3) : List Int := if Sec.vErr l = 0 then Sec.thr l else []
def Sec.balR (l p : List V3) : Int := if Sec.chk l p 0 = 0 then Sec.bal l p else 0
set_option maxHeartbeats 1000000 in
theorem scount_c (A B : Option Addr) (n c m d : Nat) (l p : List V3) (s r : Int) (w : World) (hn : n ≤ maxLen) (hm : m ≤ maxLen) (h : VR w A n l) (hp : VR w B m p) :
    Calls Try.prog 23 #[.slice A n c, .slice B m d, .int .i64 s, .int .i64 r] w fun e w' => e = .returned (.tuple #[.int .i64 (Sec.cntR l p s r), .int .i64 (Sec.chk l p s)]) ∧ Below w.heap.size w w' := by
  by_cases h1 : Sec.chk l p s = 0
  · have Hf := Lib.hid (show Sec.cntR l p s r = (Sec.cnt l p s r).1 by rw [Sec.cntR, if_pos h1])
    have H1 := Lib.hid h1
    obtain ⟨k1, k2, k3⟩ := Sec.chk_ok h1
    obtain ⟨l1, _, l3⟩ := Sec.vErr_valid k1
    obtain ⟨p1, _, p3⟩ := Sec.detErr_ok k2
    have hl := h.len
    have hpl := hp.len
    clear h1 k1 k2
    go_enter Try.func23, Try.ntmps23
    go_wp2_with fail
    refine (check_c A B n c m d l p s _ hn hm h hp).mono ?_
    rintro e w1 ⟨rfl, hb1⟩
    rw [H1.out]
    go_wp2_with fail
    refine (count_c A B n c m d l p s r _ (by omega) (by omega) (h.below hb1) (hp.below hb1) l3 p3 k3).mono ?_
    rintro e w2 ⟨rfl, hb2⟩
    go_wp2_with fail
    go_ret2
    exact ⟨ret2v Hf.out.symm H1.out.symm, below_step hb1 hb2⟩
  · have Hf := Lib.hid (show Sec.cntR l p s r = 0 by rw [Sec.cntR, if_neg h1])
    have e2 : (Sec.chk l p s != 0) = true := by simpa using h1
    clear h1
    go_enter Try.func23, Try.ntmps23
    go_wp2_with fail
    refine (check_c A B n c m d l p s _ hn hm h hp).mono ?_
    rintro e w1 ⟨rfl, hb1⟩
    go_wp2_with fail
    go_ret2
    exact ⟨ret2v Hf.out.symm rfl, hb1⟩
set_option maxHeartbeats 1000000 in
theorem sstate_c (A B : Option Addr) (n c m d : Nat) (l p : List V3) (s r : Int) (w : World) (hn : n ≤ maxLen) (hm : m ≤ maxLen) (h : VR w A n l) (hp : VR w B m p) :
    Calls Try.prog 26 #[.slice A n c, .slice B m d, .int .i64 s, .int .i64 r] w fun e w' => e = .returned (.tuple #[.int .i64 (Sec.stR l p s r), .int .i64 (Sec.chk l p s)]) ∧ Below w.heap.size w w' := by
  by_cases h1 : Sec.chk l p s = 0
  · have Hf := Lib.hid (show Sec.stR l p s r = Sec.stOf (Sec.cnt l p s r) by rw [Sec.stR, if_pos h1])
    have H1 := Lib.hid h1
    obtain ⟨k1, k2, k3⟩ := Sec.chk_ok h1
    obtain ⟨l1, _, l3⟩ := Sec.vErr_valid k1
    obtain ⟨p1, _, p3⟩ := Sec.detErr_ok k2
    have hl := h.len
    have hpl := hp.len
    clear h1 k1 k2
    generalize hX : Sec.cnt l p s r = x at Hf
    have HX := Lib.hid hX
    clear hX
    obtain ⟨x1, x2⟩ := x
    by_cases g1 : x2 < 0
    · have HS := Lib.hid (show Sec.stOf (x1, x2) = 2 by rw [Sec.stOf, if_pos g1])
      go_enter Try.func26, Try.ntmps26
      go_wp2_with fail
      refine (check_c A B n c m d l p s _ hn hm h hp).mono ?_
      rintro e w1 ⟨rfl, hb1⟩
      rw [H1.out]
      go_wp2_with fail
      refine (count_c A B n c m d l p s r _ (by omega) (by omega) (h.below hb1) (hp.below hb1) l3 p3 k3).mono ?_
      rintro e w2 ⟨rfl, hb2⟩
      rw [HX.out]
      go_wp2_with fail
      go_ret2
      exact ⟨ret2v (by rw [Hf.out, HS.out]) H1.out.symm, below_step hb1 hb2⟩
    · by_cases g2 : 0 < x1
      · have HS := Lib.hid (show Sec.stOf (x1, x2) = 1 by rw [Sec.stOf, if_neg g1, if_pos g2])
        go_enter Try.func26, Try.ntmps26
        go_wp2_with fail
        refine (check_c A B n c m d l p s _ hn hm h hp).mono ?_
        rintro e w1 ⟨rfl, hb1⟩
        rw [H1.out]
        go_wp2_with fail
        refine (count_c A B n c m d l p s r _ (by omega) (by omega) (h.below hb1) (hp.below hb1) l3 p3 k3).mono ?_
        rintro e w2 ⟨rfl, hb2⟩
        rw [HX.out]
        go_wp2_with fail
        go_ret2
        exact ⟨ret2v (by rw [Hf.out, HS.out]) H1.out.symm, below_step hb1 hb2⟩
      · have HS := Lib.hid (show Sec.stOf (x1, x2) = 0 by rw [Sec.stOf, if_neg g1, if_neg g2])
        go_enter Try.func26, Try.ntmps26
        go_wp2_with fail
        refine (check_c A B n c m d l p s _ hn hm h hp).mono ?_
        rintro e w1 ⟨rfl, hb1⟩
        rw [H1.out]
        go_wp2_with fail
        refine (count_c A B n c m d l p s r _ (by omega) (by omega) (h.below hb1) (hp.below hb1) l3 p3 k3).mono ?_
        rintro e w2 ⟨rfl, hb2⟩
        rw [HX.out]
        go_wp2_with fail
        go_ret2
        exact ⟨ret2v (by rw [Hf.out, HS.out]) H1.out.symm, below_step hb1 hb2⟩
  · have Hf := Lib.hid (show Sec.stR l p s r = 0 by rw [Sec.stR, if_neg h1])
    have e2 : (Sec.chk l p s != 0) = true := by simpa using h1
    clear h1
    go_enter Try.func26, Try.ntmps26
    go_wp2_with fail
    refine (check_c A B n c m d l p s _ hn hm h hp).mono ?_
    rintro e w1 ⟨rfl, hb1⟩
    go_wp2_with fail
    go_ret2
    exact ⟨ret2v Hf.out.symm rfl, hb1⟩
set_option maxRecDepth 100000 in
set_option maxHeartbeats 2000000 in
theorem through_c (A : Option Addr) (n c : Nat) (l : List V3) (w : World) (hn : n ≤ maxLen) (h : VR w A n l) :
    Calls Try.prog 16 #[.slice A n c] w fun e w' => ∃ v, e = .returned (.tuple #[v, .int .i64 (Sec.vErr l)]) ∧ w'.ownsRow w.heap.size 3 1 v (Sec.thrR l).length ((Sec.thrR l).map (Value.int .i64)) ∧ Below w.heap.size w w' := by
  by_cases h1 : Sec.vErr l = 0
  · have Hf := Lib.hid (show Sec.thrR l = Sec.thr l by rw [Sec.thrR, if_pos h1])
    have H1 := Lib.hid h1
    obtain ⟨l1, _, l3⟩ := Sec.vErr_valid h1
    have hl := h.len
    clear h1
    go_enter Try.func16, Try.ntmps16
    go_wp2_with fail
    refine (svalid_c A n c l _ hn h).mono ?_
    rintro e w1 ⟨rfl, hb1⟩
    rw [H1.out]
    go_wp2_with fail
    go_loopw [5, 6] (fun u v wr => ∃ k : Nat, k ≤ 32 ∧ v = .int .i64 k ∧ wr.ownsRow w.heap.size 3 1 u (Sec.thrTo l k).length ((Sec.thrTo l k).map (Value.int .i64)) ∧ Below w.heap.size w wr) (fun _ v _ => 32 - (intOf v).toNat)
    case atStart => exact ⟨0, by omega, rfl, World.ownsRow_nil _ _ _ _, hb1⟩
    case round =>
      obtain ⟨k, hk, rfl, hown, hbr⟩ := hrel
      by_cases hlt : k < 32
      · have htl := Sec.thrTo_len l k
        have Hb := Lib.hid (show Sec.thrB l k = (decide ((Sec.atN l k).1 = 2) && decide ((Sec.atN l k).2 = 0)) from rfl)
        have Hyes := Lib.hid (Sec.thrTo_yes l k)
        have Hno := Lib.hid (Sec.thrTo_no l k)
        obtain ⟨q, hq⟩ : ∃ q, Sec.thrTo l k = q := ⟨_, rfl⟩
        rw [hq] at hown htl Hyes Hno
        obtain ⟨qn, hqn⟩ : ∃ qn, q.length = qn := ⟨_, rfl⟩
        rw [hqn] at hown htl
        have Hqn := Lib.hid hqn
        clear hq hqn
        obtain ⟨wo, rfl⟩ : ∃ wo : World, wo = wr := ⟨_, rfl⟩
        go_wp2_with fail
        go_loopw [7, 8, 10, 22] (fun a b _ v wr => ∃ j : Nat, j ≤ n ∧ v = .int .i64 j ∧ a = .int .i64 (Sec.atN (l.take j) k).1 ∧ b = .int .i64 (Sec.atN (l.take j) k).2 ∧ Below wo.heap.size wo wr) (fun _ _ _ v _ => n - (intOf v).toNat)
        case atStart => exact ⟨0, by omega, rfl, rfl, rfl, Below.refl _ _⟩
        case round =>
          obtain ⟨j, hj, rfl, rfl, rfl, hbr2⟩ := hrel
          by_cases hjl : j < n
          · obtain ⟨ad, ⟨pa, pb, pc⟩, rfl, hba, hp, c1, c2, c3⟩ := (h.below hbr).at_ hjl
            have d1 := keep_cell hbr2 c1
            have d2 := keep_cell hbr2 c2
            have d3 := keep_cell hbr2 c3
            have Htk := Lib.hid (take_snoc3 hp)
            have o5 := (Sec.okB_all (l3 _ (List.mem_of_getElem? hp))).2.2
            have Hst := Lib.hid (Sec.atN_snoc (l.take j) ⟨pa, pb, pc⟩ k)
            have hbd := Sec.atN_bd j (l.take j) (by simp; omega) (fun b hb => (Sec.okB_all (l3 b (List.mem_of_mem_take hb))).2.2) k
            simp only at d1 d2 d3 o5
            generalize Sec.atN (l.take j) k = x at hbd Hst
            obtain ⟨x1, x2⟩ := x
            simp only at hbd
            obtain ⟨g1, g2, g3⟩ := hbd
            have o6 : -1 ≤ pc ∧ pc ≤ 1 := by omega
            clear hp c1 c2 c3 o5
            by_cases hd : pb = (k : Int)
            · have Hf2 := Lib.hid (show Sec.atN (l.take (j + 1)) k = (x1 + 1, x2 + pc) by rw [Htk.out, Hst.out, if_pos hd])
              have e1 : (pb == (k : Int)) = true := by simpa using hd
              clear hd
              go_wp2_with fail
              go_roundw
              case rel => exact ⟨j + 1, by omega, by go_num, by rw [Hf2.out]; exact vint (by simp), by rw [Hf2.out], hbr2.alloc hbr2.size _⟩
              case measure => simp [intOf]; omega
            · have Hf2 := Lib.hid (show Sec.atN (l.take (j + 1)) k = (x1, x2) by rw [Htk.out, Hst.out, if_neg hd])
              have e1 : (pb == (k : Int)) = false := by simpa using hd
              clear hd
              go_wp2_with fail
              go_roundw
              case rel => exact ⟨j + 1, by omega, by go_num, by rw [Hf2.out], by rw [Hf2.out], hbr2.alloc hbr2.size _⟩
              case measure => simp [intOf]; omega
          · obtain rfl : j = n := by omega
            rw [List.take_of_length_le (by omega)]
            generalize Sec.atN l k = x at Hb
            obtain ⟨x1, x2⟩ := x
            simp only at Hb
            have hown2 := own_below hown hbr2
            have hbr3 := below_step hbr hbr2
            by_cases t1 : x1 = 2
            · by_cases t2 : x2 = 0
              · have Hq := Hyes.out (by rw [Hb.out]; simp [t1, t2])
                have HQ := Lib.hid Hq
                have e1 : ((x1 : Int) == 2) = true := by simp; omega
                have e2 : (x2 == 0) = true := by simpa using t2
                clear t1 t2 Hq Hb Hyes Hno
                go_wp2_with (at_builtin; refine wpList_push sl_int rfl (.tmp 43) (.tmp 45) rfl w.heap.size _ _ _ rfl hown2 1 1 rfl rfl rfl (by simp only [maxLen]; omega) (by omega) hbr3.size ?_; intro v6 w6 own6 hgr6)
                go_roundw
                case rel => exact ⟨k + 1, by omega, by go_num, by rw [HQ.out]; simpa [Hqn.out] using own6, hbr3.trans (hgr6.below (own_ge hown2) hbr3.size)⟩
                case measure => simp [intOf]; omega
              · have Hq := Hno.out (by rw [Hb.out]; simp [t2])
                have HQ := Lib.hid Hq
                have e1 : ((x1 : Int) == 2) = true := by simp; omega
                have e2 : (x2 == 0) = false := by simpa using t2
                clear t1 t2 Hq Hb Hyes Hno
                go_wp2_with fail
                go_roundw
                case rel => exact ⟨k + 1, by omega, by go_num, by rw [HQ.out, Hqn.out]; exact hown2, hbr3⟩
                case measure => simp [intOf]; omega
            · have Hq := Hno.out (by rw [Hb.out]; simp [t1])
              have HQ := Lib.hid Hq
              have e1 : ((x1 : Int) == 2) = false := by simp; omega
              clear t1 Hq Hb Hyes Hno
              go_wp2_with fail
              go_roundw
              case rel => exact ⟨k + 1, by omega, by go_num, by rw [HQ.out, Hqn.out]; exact hown2, hbr3⟩
              case measure => simp [intOf]; omega
      · obtain rfl : k = 32 := by omega
        go_wp2_with fail
        go_ret2
        exact ⟨_, by rw [H1.out]; rfl, by rw [Hf.out]; exact hown, hbr⟩
  · have Hf := Lib.hid (show Sec.thrR l = [] by rw [Sec.thrR, if_neg h1])
    have e2 : (Sec.vErr l != 0) = true := by simpa using h1
    clear h1
    go_enter Try.func16, Try.ntmps16
    go_wp2_with fail
    refine (svalid_c A n c l _ hn h).mono ?_
    rintro e w1 ⟨rfl, hb1⟩
    go_wp2_with fail
    go_ret2
    exact ⟨_, rfl, by rw [Hf.out]; exact World.ownsRow_nil _ _ _ _, hb1⟩
set_option maxHeartbeats 1000000 in
theorem balance_c (A B : Option Addr) (n c m d : Nat) (l p : List V3) (w : World) (hn : n ≤ maxLen) (hm : m ≤ maxLen) (h : VR w A n l) (hp : VR w B m p) :
    Calls Try.prog 29 #[.slice A n c, .slice B m d] w fun e w' => e = .returned (.tuple #[.int .i64 (Sec.balR l p), .int .i64 (Sec.chk l p 0)]) ∧ Below w.heap.size w w' := by
  by_cases h1 : Sec.chk l p 0 = 0
  · have Hf := Lib.hid (show Sec.balR l p = Sec.bal l p by rw [Sec.balR, if_pos h1])
    have H1 := Lib.hid h1
    obtain ⟨k1, k2, k3⟩ := Sec.chk_ok h1
    obtain ⟨l1, _, l3⟩ := Sec.vErr_valid k1
    obtain ⟨p1, _, p3⟩ := Sec.detErr_ok k2
    have hl := h.len
    have hpl := hp.len
    clear h1 k1 k2
    go_enter Try.func29, Try.ntmps29
    go_wp2_with fail
    refine (check_c A B n c m d l p 0 _ hn hm h hp).mono ?_
    rintro e w1 ⟨rfl, hb1⟩
    rw [H1.out]
    go_wp2_with fail
    go_loopw [7, 8] (fun u v wr => ∃ k : Nat, k ≤ 32 ∧ v = .int .i64 k ∧ u = .int .i64 (Sec.balTo l p k) ∧ -(4096 : Int) * k ≤ Sec.balTo l p k ∧ Sec.balTo l p k ≤ 4096 * k ∧ Below w.heap.size w wr) (fun _ v _ => 32 - (intOf v).toNat)
    case atStart => exact ⟨0, by omega, rfl, rfl, by simp [Sec.balTo], by simp [Sec.balTo], hb1⟩
    case round =>
      obtain ⟨k, hk, rfl, rfl, g1, g2, hbr⟩ := hrel
      by_cases hlt : k < 32
      · have Hst := Lib.hid (show Sec.balTo l p (k + 1) = Sec.balTo l p k + (Sec.cnt l p k (-1)).1 from rfl)
        obtain ⟨r1, r2, _, _⟩ := Sec.cnt_range l l3 k (-1) p.length p rfl (fun x hx => (Det.okP_all (p3 x hx)).2.2.2.2)
        have hin : Sec.inB (k : Int) = true := by simp [Sec.inB]; omega
        generalize hY : Sec.balTo l p k = y at g1 g2
        generalize hX : Sec.cnt l p k (-1) = x at r1 r2
        have HX := Lib.hid hX
        have HY := Lib.hid hY
        clear hX hY
        obtain ⟨x1, x2⟩ := x
        simp only at r1 r2
        go_wp2_with fail
        refine (count_c A B n c m d l p k (-1) _ (by omega) (by omega) (h.below hbr) (hp.below hbr) l3 p3 hin).mono ?_
        rintro e w2 ⟨rfl, hb2⟩
        rw [HX.out]
        go_wp2_with fail
        go_roundw
        case rel =>
          have he : Sec.balTo l p (k + 1) = y + x1 := by rw [Hst.out, HY.out, HX.out]
          exact ⟨k + 1, by omega, by go_num, vint he.symm, by rw [he]; omega, by rw [he]; omega, below_step hbr hb2⟩
        case measure => simp [intOf]; omega
      · obtain rfl : k = 32 := by omega
        clear g1 g2
        go_wp2_with fail
        go_ret2
        exact ⟨ret2v Hf.out.symm H1.out.symm, hbr⟩
  · have Hf := Lib.hid (show Sec.balR l p = 0 by rw [Sec.balR, if_neg h1])
    have e2 : (Sec.chk l p 0 != 0) = true := by simpa using h1
    clear h1
    go_enter Try.func29, Try.ntmps29
    go_wp2_with fail
    refine (check_c A B n c m d l p 0 _ hn hm h hp).mono ?_
    rintro e w1 ⟨rfl, hb1⟩
    go_wp2_with fail
    go_ret2
    exact ⟨ret2v Hf.out.symm rfl, hb1⟩
end Go.Proofs.Ytjlfdkkaljlmjaa
