/- What the laws of layer 5 share: 'sane'. -/
import Derived.Test.YtjlfdkkaljlmjaaSecW3
import Derived.Test.YtjlfdkkaljlmjaaDetS
namespace Go.Proofs.Ytjlfdkkaljlmjaa
open Go.RowKit
namespace Sec
def L1 : List V3 := [⟨0, 1, 1⟩, ⟨0, 2, -1⟩]
def P1 : List V3 := [⟨1, 1, 1⟩, ⟨1, 2, 1⟩, ⟨2, 3, 1⟩]
def Q1 : List V3 := [⟨2, 1, 1⟩, ⟨1, 2, 1⟩]
def T1 : List V3 := [⟨0, 2, -1⟩, ⟨1, 2, 1⟩]
theorem s1 : cntR L1 P1 0 0 = 1 ∧ chk L1 P1 0 = 0 ∧ stR L1 P1 0 0 = 1 := by decide +kernel
theorem s2 : cntR L1 Q1 0 0 = 0 ∧ chk L1 Q1 0 = 0 ∧ stR L1 Q1 0 0 = 2 := by decide +kernel
theorem s3 : thrR T1 = [2] ∧ vErr T1 = 0 := by decide +kernel
end Sec
theorem s_count (A B : Option Addr) (n m c d : Nat) (l p : List V3) (x y : Int) (w : World) (hn : n ≤ maxLen) (hm : m ≤ maxLen) (h : VR w A n l) (hp : VR w B m p) (e : Sec.cntR l p 0 0 = x ∧ Sec.chk l p 0 = 0 ∧ Sec.stR l p 0 0 = y) :
    Calls Try.prog 23 #[.slice A n c, .slice B m d, .int .i64 0, .int .i64 0] w fun e w' => e = .returned (.tuple #[.int .i64 x, .int .i64 0]) ∧ Below w.heap.size w w' :=
  (scount_c A B n c m d l p 0 0 w hn hm h hp).mono fun _ _ ⟨h1, h2⟩ => ⟨by rw [h1, e.1, e.2.1], h2⟩
theorem s_state (A B : Option Addr) (n m c d : Nat) (l p : List V3) (x y : Int) (w : World) (hn : n ≤ maxLen) (hm : m ≤ maxLen) (h : VR w A n l) (hp : VR w B m p) (e : Sec.cntR l p 0 0 = x ∧ Sec.chk l p 0 = 0 ∧ Sec.stR l p 0 0 = y) :
    Calls Try.prog 26 #[.slice A n c, .slice B m d, .int .i64 0, .int .i64 0] w fun e w' => e = .returned (.tuple #[.int .i64 y, .int .i64 0]) ∧ Below w.heap.size w w' :=
  (sstate_c A B n c m d l p 0 0 w hn hm h hp).mono fun _ _ ⟨h1, h2⟩ => ⟨by rw [h1, e.2.2, e.2.1], h2⟩
theorem s_through (A : Option Addr) (c : Nat) (w : World) (h : VR w A 2 Sec.T1) :
    Calls Try.prog 16 #[.slice A 2 c] w fun e w' => ∃ v, e = .returned (.tuple #[v, .int .i64 0]) ∧ w'.ownsRow w.heap.size 3 1 v 1 ([2].map (Value.int .i64)) ∧ Below w.heap.size w w' := by
  refine (through_c A 2 c Sec.T1 w (by decide) h).mono fun e w' ⟨v, h1, h2, h3⟩ => ⟨v, by rw [h1, Sec.s3.2], ?_, h3⟩
  rw [Sec.s3.1] at h2
  exact h2
set_option maxRecDepth 100000 in
set_option maxHeartbeats 2000000 in
theorem sane05_c (w : World) : Calls Try.prog 17 #[] w fun e w' => e = .returned (.bool true) ∧ Below w.heap.size w w' := by
  go_enter Try.func17, Try.ntmps17
  go_wp2_with fail
  have hl := VR.new (w := w) (cs := #[.int .i64 0, .int .i64 1, .int .i64 1, .int .i64 0, .int .i64 2, .int .i64 (-1)]) (t := 24) Sec.L1 2 rfl rfl (by decide)
  have hb0 := (Below.refl w.heap.size w).alloc (Nat.le_refl _) (.cells #[.int .i64 0, .int .i64 1, .int .i64 1, .int .i64 0, .int .i64 2, .int .i64 (-1)] 24)
  obtain ⟨wa, hwa⟩ : ∃ wa, w.alloc (.cells #[.int .i64 0, .int .i64 1, .int .i64 1, .int .i64 0, .int .i64 2, .int .i64 (-1)] 24) = wa := ⟨_, rfl⟩
  have hza : wa.heap.size = w.heap.size + 1 := by rw [← hwa]; simp
  rw [hwa] at hl hb0 ⊢
  have hp := VR.new (w := wa) (cs := #[.int .i64 1, .int .i64 1, .int .i64 1, .int .i64 1, .int .i64 2, .int .i64 1, .int .i64 2, .int .i64 3, .int .i64 1]) (t := 41) Sec.P1 3 rfl rfl (by decide)
  have hl2 := hl.below ((Below.refl _ _).alloc (Nat.le_refl _) (.cells #[.int .i64 1, .int .i64 1, .int .i64 1, .int .i64 1, .int .i64 2, .int .i64 1, .int .i64 2, .int .i64 3, .int .i64 1] 41))
  have hb1 := hb0.alloc hb0.size (.cells #[.int .i64 1, .int .i64 1, .int .i64 1, .int .i64 1, .int .i64 2, .int .i64 1, .int .i64 2, .int .i64 3, .int .i64 1] 41)
  rw [hza] at hp
  generalize wa.alloc (.cells #[.int .i64 1, .int .i64 1, .int .i64 1, .int .i64 1, .int .i64 2, .int .i64 1, .int .i64 2, .int .i64 3, .int .i64 1] 41) = w1 at hp hl2 hb1 ⊢
  clear hl hb0 hwa hza
  refine (s_count _ _ 2 3 _ _ _ _ 1 1 _ (by decide) (by decide) hl2 hp Sec.s1).mono ?_
  rintro e w2 ⟨rfl, hb2⟩
  have hl3 := hl2.below hb2
  have hp3 := hp.below hb2
  have hb3 := below_step hb1 hb2
  clear hl2 hp hb2 hb1
  go_wp2_with fail
  refine (s_state _ _ 2 3 _ _ _ _ 1 1 _ (by decide) (by decide) hl3 hp3 Sec.s1).mono ?_
  rintro e w4 ⟨rfl, hb4⟩
  have hl5 := hl3.below hb4
  have hb5 := below_step hb3 hb4
  clear hl3 hp3 hb4 hb3
  go_wp2_with fail
  have hq := VR.new (w := w4) (cs := #[.int .i64 2, .int .i64 1, .int .i64 1, .int .i64 1, .int .i64 2, .int .i64 1]) (t := 41) Sec.Q1 2 rfl rfl (by decide)
  have hl6 := hl5.below ((Below.refl _ _).alloc (Nat.le_refl _) (.cells #[.int .i64 2, .int .i64 1, .int .i64 1, .int .i64 1, .int .i64 2, .int .i64 1] 41))
  have hb6 := hb5.alloc hb5.size (.cells #[.int .i64 2, .int .i64 1, .int .i64 1, .int .i64 1, .int .i64 2, .int .i64 1] 41)
  generalize w4.alloc (.cells #[.int .i64 2, .int .i64 1, .int .i64 1, .int .i64 1, .int .i64 2, .int .i64 1] 41) = w6 at hq hl6 hb6 ⊢
  clear hl5 hb5
  refine (s_count _ _ 2 2 _ _ _ _ 0 2 _ (by decide) (by decide) hl6 hq Sec.s2).mono ?_
  rintro e w7 ⟨rfl, hb7⟩
  have hl8 := hl6.below hb7
  have hq8 := hq.below hb7
  have hb8 := below_step hb6 hb7
  clear hl6 hq hb7 hb6
  go_wp2_with fail
  refine (s_state _ _ 2 2 _ _ _ _ 0 2 _ (by decide) (by decide) hl8 hq8 Sec.s2).mono ?_
  rintro e w9 ⟨rfl, hb9⟩
  have hb10 := below_step hb8 hb9
  clear hl8 hq8 hb9 hb8
  go_wp2_with fail
  have ht := VR.new (w := w9) (cs := #[.int .i64 0, .int .i64 2, .int .i64 (-1), .int .i64 1, .int .i64 2, .int .i64 1]) (t := 24) Sec.T1 2 rfl rfl (by decide)
  have hb11 := hb10.alloc hb10.size (.cells #[.int .i64 0, .int .i64 2, .int .i64 (-1), .int .i64 1, .int .i64 2, .int .i64 1] 24)
  generalize w9.alloc (.cells #[.int .i64 0, .int .i64 2, .int .i64 (-1), .int .i64 1, .int .i64 2, .int .i64 1] 24) = w11 at ht hb11 ⊢
  clear hb10
  refine (s_through _ _ _ ht).mono ?_
  rintro e w12 ⟨v12, rfl, own12, hb12⟩
  obtain ⟨A12, c12, rfl, k1, k2⟩ := own_form own12
  have hb13 := below_step hb11 hb12
  clear ht hb12 hb11
  go_wp2_with fail
  have hi := IR.new (k := .i64) (w := w12) (cs := #[.int .i64 2]) (t := 3) [2] 1 rfl rfl (by decide)
  refine (ints_eq _ _ _ _ _ _ _ _ (by decide) (own_IR (own12.alloc _)) hi).mono ?_
  rintro e w14 ⟨rfl, hb14⟩
  have hb15 := below_step (hb13.alloc hb13.size (.cells #[.int .i64 2] 3)) hb14
  clear hb14 hb13 own12 hi
  go_wp2_with fail
  go_ret
  exact ⟨rfl, hb15⟩
end Go.Proofs.Ytjlfdkkaljlmjaa
