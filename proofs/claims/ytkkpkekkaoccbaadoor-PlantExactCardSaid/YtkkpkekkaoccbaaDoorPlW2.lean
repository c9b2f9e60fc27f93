/- The walks of plant's ends, sound. -/
import Derived.Test.YtkkpkekkaoccbaaDoorPlW1
namespace Go.Proofs.YtkkpkekkaoccbaaDoor
open Go.RowKit
def EndsR (x : PE) (w : World) (e : Ending) (w' : World) : Prop := ∃ v, e = .returned v ∧ w'.ownsRow w.heap.size 3 1 v (Pl.ends x).length ((Pl.ends x).map (Value.int .i64)) ∧ (Pl.ends x = [] → v = .slice none 0 0) ∧ Below w.heap.size w w'
theorem ends_two {x : PE} (h : x.k = 1 ∨ x.k = 3) : Pl.ends x = [x.a, x.b] := by unfold Pl.ends; rw [if_pos h]
theorem ends_three {x : PE} (h : x.k = 2) : Pl.ends x = [x.a, x.b, x.c] := by unfold Pl.ends; rw [if_neg (by omega), if_pos h]
theorem ends_none {x : PE} (h : x.k ≠ 1 ∧ x.k ≠ 2 ∧ x.k ≠ 3) : Pl.ends x = [] := by unfold Pl.ends; rw [if_neg (by omega), if_neg (by omega)]
theorem own_new_ints (w : World) (B t : Nat) (l : List Int) (n : Nat) (hn : l.length = n) (hm : n ≤ maxLen) (hB : B ≤ w.heap.size) : (w.alloc (.cells (l.map (Value.int .i64)).toArray t)).ownsRow B t 1 (.slice (some ⟨w.heap.size, 0, none⟩) n n) n (l.map (Value.int .i64)) := by
  have := World.ownsRow_lit (base := B) (e := t) (size := 1) w (l.map (Value.int .i64)).toArray n hB hm (by simp [hn])
  simpa using this
theorem EndsR.two {x : PE} {w w1 : World} {e : Ending} {bk : Nat} (h : x.k = 1 ∨ x.k = 3) (hb : Below w.heap.size w w1) (he : e = .returned (.slice (some ⟨bk, 0, none⟩) 2 2)) (hbk : bk = w1.heap.size) : EndsR x w e (w1.alloc (.cells #[.int .i64 x.a, .int .i64 x.b] 3)) := by
  subst he hbk
  have e := ends_two h
  refine ⟨_, rfl, ?_, (fun h0 => by rw [e] at h0; cases h0), hb.alloc hb.size _⟩
  rw [e]
  exact own_new_ints w1 w.heap.size _ [x.a, x.b] 2 rfl (by decide) hb.size
theorem EndsR.three {x : PE} {w w1 : World} {e : Ending} {bk : Nat} (h : x.k = 2) (hb : Below w.heap.size w w1) (he : e = .returned (.slice (some ⟨bk, 0, none⟩) 3 3)) (hbk : bk = w1.heap.size) : EndsR x w e (w1.alloc (.cells #[.int .i64 x.a, .int .i64 x.b, .int .i64 x.c] 3)) := by
  subst he hbk
  have e := ends_three h
  refine ⟨_, rfl, ?_, (fun h0 => by rw [e] at h0; cases h0), hb.alloc hb.size _⟩
  rw [e]
  exact own_new_ints w1 w.heap.size _ [x.a, x.b, x.c] 3 rfl (by decide) hb.size
theorem EndsR.none_ {x : PE} {w w1 : World} (h : x.k ≠ 1 ∧ x.k ≠ 2 ∧ x.k ≠ 3) (hb : Below w.heap.size w w1) : EndsR x w (.returned (.slice none 0 0)) w1 := by
  have e := ends_none h
  refine ⟨_, rfl, ?_, fun _ => rfl, hb⟩
  rw [e]
  exact World.ownsRow_nil _ _ _ _
set_option maxHeartbeats 1000000 in
theorem ends_c (k a b c len : Int) (nm : ByteArray) (w : World) :
    Calls Tryd.prog 35 #[.agg #[.int .i64 k, .string nm, .int .i64 a, .int .i64 b, .int .i64 c, .int .i64 len]] w (EndsR ⟨k, nm, a, b, c, len⟩ w) := by
  have hk : k = 1 ∨ k = 2 ∨ k = 3 ∨ (k ≠ 1 ∧ k ≠ 2 ∧ k ≠ 3) := by omega
  rcases hk with hk | hk | hk | hk
  · have e1 : (k == 1) = true := by simp [hk]
    have Hk := Lib.hid hk
    clear hk
    go_enter Tryd.func35, Tryd.ntmps35
    go_wp2_with fail
    go_ret
    exact EndsR.two (x := ⟨k, nm, a, b, c, len⟩) (w1 := w.alloc _) (bk := w.heap.size + 1) (.inl Hk.out) ((Below.refl _ _).alloc (Nat.le_refl _) _) rfl (by simp)
  · have e1 : (k == 1) = false := by simp [hk]
    have e2 : (k == 3) = false := by simp [hk]
    have e3 : (k == 2) = true := by simp [hk]
    have Hk := Lib.hid hk
    clear hk
    go_enter Tryd.func35, Tryd.ntmps35
    go_wp2_with fail
    go_ret
    exact EndsR.three (x := ⟨k, nm, a, b, c, len⟩) (w1 := w.alloc _) (bk := w.heap.size + 1) Hk.out ((Below.refl _ _).alloc (Nat.le_refl _) _) rfl (by simp)
  · have e1 : (k == 1) = false := by simp [hk]
    have e2 : (k == 3) = true := by simp [hk]
    have Hk := Lib.hid hk
    clear hk
    go_enter Tryd.func35, Tryd.ntmps35
    go_wp2_with fail
    go_ret
    exact EndsR.two (x := ⟨k, nm, a, b, c, len⟩) (w1 := w.alloc _) (bk := w.heap.size + 1) (.inr Hk.out) ((Below.refl _ _).alloc (Nat.le_refl _) _) rfl (by simp)
  · have e1 : (k == 1) = false := by simp [hk]
    have e2 : (k == 3) = false := by simp [hk]
    have e3 : (k == 2) = false := by simp [hk]
    have Hk := Lib.hid hk
    clear hk
    go_enter Tryd.func35, Tryd.ntmps35
    go_wp2_with fail
    go_ret
    exact EndsR.none_ (x := ⟨k, nm, a, b, c, len⟩) Hk.out ((Below.refl _ _).alloc (Nat.le_refl _) _)
end Go.Proofs.YtkkpkekkaoccbaaDoor
