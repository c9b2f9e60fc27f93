/- The walk of humpyardlaw05.exact: program and reference agree at any borders and pulses. -/
import Derived.Test.YtjlfdkkaljlmjaaSecR3
import Derived.Test.YtjlfdkkaljlmjaaSecS
namespace Go.Proofs.Ytjlfdkkaljlmjaa
open Go.RowKit
set_option maxRecDepth 100000 in
set_option maxHeartbeats 4000000 in
theorem exact05_c (A B : Option Addr) (n c m d : Nat) (l p : List V3) (s r : Int) (w : World) (hn : n ≤ maxLen) (hm : m ≤ maxLen) (h : VR w A n l) (hp : VR w B m p) :
    Calls Try.prog 28 #[.slice A n c, .slice B m d, .int .i64 s, .int .i64 r] w fun e w' => e = .returned (.bool true) ∧ Below w.heap.size w w' := by
  have H1 := Lib.hid (fun W (hW : Below w.heap.size w W) => scount_c A B n c m d l p s r W hn hm (h.below hW) (hp.below hW))
  have H2 := Lib.hid (fun W (hW : Below w.heap.size w W) => rcount_c A B n c m d l p s r W hn hm (h.below hW) (hp.below hW))
  have H3 := Lib.hid (fun W (hW : Below w.heap.size w W) => sstate_c A B n c m d l p s r W hn hm (h.below hW) (hp.below hW))
  have H4 := Lib.hid (fun W (hW : Below w.heap.size w W) => rstate_c A B n c m d l p s r W hn hm (h.below hW) (hp.below hW))
  have H5 := Lib.hid (fun W (hW : Below w.heap.size w W) => through_c A n c l W hn (h.below hW))
  have H6 := Lib.hid (fun W (hW : Below w.heap.size w W) => rthrough_c A n c l W hn (h.below hW))
  have H7 := Lib.hid (fun W (hW : Below w.heap.size w W) => balance_c A B n c m d l p W hn hm (h.below hW) (hp.below hW))
  have H8 := Lib.hid (fun W (hW : Below w.heap.size w W) => rbalance_c A B n c m d l p W hn hm (h.below hW) (hp.below hW))
  have H9 := Lib.hid (fun W (hW : Below w.heap.size w W) => svalid_c A n c l W hn (h.below hW))
  have H10 := Lib.hid (fun W (hW : Below w.heap.size w W) => rvalid5_c A n c l W hn (h.below hW))
  have hthl : (Sec.thrR l).length ≤ 32 := by unfold Sec.thrR; split; exact Sec.thrTo_len l 32; simp
  generalize Sec.cntR l p s r = x1 at H1 H2
  generalize Sec.chk l p s = x2 at H1 H2 H3 H4
  generalize Sec.stR l p s r = x3 at H3 H4
  generalize Sec.vErr l = x4 at H5 H6 H9 H10
  generalize Sec.thrR l = x5 at H5 H6 hthl
  generalize Sec.balR l p = x6 at H7 H8
  generalize Sec.chk l p 0 = x7 at H7 H8
  obtain ⟨k5, hk5⟩ : ∃ k5, x5.length = k5 := ⟨_, rfl⟩
  rw [hk5] at H5 H6 hthl
  clear hk5
  go_enter Try.func28, Try.ntmps28
  go_wp2_with fail
  refine (H1.out _ (Below.refl _ _)).mono ?_
  rintro e w1 ⟨rfl, hb1⟩
  go_wp2_with fail
  refine (H2.out _ hb1).mono ?_
  rintro e w2 ⟨rfl, hb⟩
  have hb2 := below_step hb1 hb
  clear hb hb1
  go_wp2_with fail
  refine (H3.out _ hb2).mono ?_
  rintro e w3 ⟨rfl, hb⟩
  have hb3 := below_step hb2 hb
  clear hb hb2
  go_wp2_with fail
  refine (H4.out _ hb3).mono ?_
  rintro e w4 ⟨rfl, hb⟩
  have hb4 := below_step hb3 hb
  clear hb hb3
  go_wp2_with fail
  refine (H5.out _ hb4).mono ?_
  rintro e w5 ⟨v5, rfl, own5, hb⟩
  have hb5 := below_step hb4 hb
  clear hb hb4
  obtain ⟨A5, d5, rfl, k5a, k5b⟩ := own_form own5
  go_wp2_with fail
  refine (H6.out _ hb5).mono ?_
  rintro e w6 ⟨v6, rfl, own6, hb⟩
  have own5b := own_below own5 hb
  have hb6 := below_step hb5 hb
  clear hb hb5 own5
  obtain ⟨A6, d6, rfl, k6a, k6b⟩ := own_form own6
  go_wp2_with fail
  refine (H7.out _ hb6).mono ?_
  rintro e w7 ⟨rfl, hb⟩
  have own5c := own_below own5b hb
  have own6c := own_below own6 hb
  have hb7 := below_step hb6 hb
  clear hb hb6 own5b own6
  go_wp2_with fail
  refine (H8.out _ hb7).mono ?_
  rintro e w8 ⟨rfl, hb⟩
  have own5d := own_below own5c hb
  have own6d := own_below own6c hb
  have hb8 := below_step hb7 hb
  clear hb hb7 own5c own6c
  go_wp2_with fail
  refine (H9.out _ hb8).mono ?_
  rintro e w9 ⟨rfl, hb⟩
  have own5e := own_below own5d hb
  have own6e := own_below own6d hb
  have hb9 := below_step hb8 hb
  clear hb hb8 own5d own6d
  go_wp2_with fail
  refine (H10.out _ hb9).mono ?_
  rintro e w10 ⟨rfl, hb⟩
  have own5f := own_below own5e hb
  have own6f := own_below own6e hb
  have hb10 := below_step hb9 hb
  clear hb hb9 own5e own6e
  go_wp2_with fail
  refine (ints_eq _ _ _ _ _ _ _ _ (by simp only [maxLen]; omega) (own_IR own5f) (own_IR own6f)).mono ?_
  rintro e w11 ⟨rfl, hb⟩
  have hb11 := below_step hb10 hb
  go_wp2_with fail
  go_ret
  exact ⟨rfl, hb11⟩
end Go.Proofs.Ytjlfdkkaljlmjaa
