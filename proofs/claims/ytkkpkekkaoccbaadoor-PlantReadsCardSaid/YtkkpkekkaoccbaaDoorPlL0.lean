/- Arrays of integers in a block of the call's own; the lengths of pieces. -/
import Derived.Test.YtkkpkekkaoccbaaDoorPlL1
namespace Go.Proofs.YtkkpkekkaoccbaaDoor
open Go.RowKit
def ArrAt (w : World) (b m : Nat) (f : Nat → Int) : Prop := b < w.heap.size ∧ (∀ i : Nat, i < m → w.cell? ⟨b, i, none⟩ = some (.int .i64 (f i))) ∧ ∀ i, w.frozen? ⟨b, i, none⟩ = false
theorem ArrAt.below {w w' : World} {b m : Nat} {f : Nat → Int} (h : ArrAt w b m f) (hb : Below w.heap.size w w') : ArrAt w' b m f :=
  ⟨Nat.lt_of_lt_of_le h.1 hb.size, fun i hi => (hb.cell (p := ⟨b, i, none⟩) h.1).trans (h.2.1 i hi), fun i => (hb.frozen (p := ⟨b, i, none⟩) h.1).trans (h.2.2 i)⟩
theorem ArrAt.set {w : World} {b m : Nat} {f : Nat → Int} (h : ArrAt w b m f) (j : Nat) (v : Int) {f' : Nat → Int} (h1 : f' j = v) (h2 : ∀ i, i < m → i ≠ j → f' i = f i) : ArrAt (w.setCell ⟨b, j, none⟩ (.int .i64 v)) b m f' := by
  refine ⟨by simpa [World.setCell] using h.1, fun i hi => ?_, fun i => ?_⟩
  · by_cases e : i = j
    · subst e
      rw [h1]
      exact World.cell?_setCell_same _ _ _ (h.2.1 i hi)
    · rw [World.cell?_setCell_other _ _ _ _ (fun e' => e (by injection e' with _ h' _; exact h'.symm)), h2 i hi e]
      exact h.2.1 i hi
  · rw [World.frozen?_setCell]
    exact h.2.2 i
theorem zeros_at (w : World) (t : TypeId) (m : Nat) (cs : Array Value) (h : cs = Array.replicate m (.int .i64 0)) : ArrAt (w.alloc (.cells cs t)) w.heap.size m (fun _ => 0) := by
  have hB := Blk.new w t cs
  refine ⟨by simp, fun i hi => ?_, fun i => hB.frozen i⟩
  rw [hB.cell, h, Array.getElem?_replicate, if_pos hi]
theorem Tx.piece_len (c : UInt8) : ∀ (l : List UInt8), ∀ p ∈ Tx.cutAt c l, p.length ≤ l.length := by
  intro l
  induction l with
  | nil => intro p hp; simp [Tx.cutAt] at hp; subst hp; simp
  | cons b r ih =>
    intro p hp
    by_cases hb : b = c
    · subst hb
      rw [Tx.cut_hit, List.mem_cons] at hp
      rcases hp with rfl | hp
      · simp
      · have := ih p hp; rw [List.length_cons]; omega
    · rw [Tx.cut_miss hb] at hp
      have hne := Tx.cutAt_ne c r
      cases hc : Tx.cutAt c r with
      | nil => exact absurd hc hne
      | cons a t =>
        rw [hc] at hp ih
        simp only [Tx.glue, List.mem_cons] at hp
        rcases hp with rfl | hp
        · have := ih a List.mem_cons_self
          simp
          omega
        · have := ih p (List.mem_cons_of_mem _ hp)
          rw [List.length_cons]; omega
theorem wd_size (s : ByteArray) (i : Nat) : (Pl.wd (Pl.wordsB s) i).size ≤ s.size := by
  unfold Pl.wd
  rw [List.getD_eq_getElem?_getD]
  cases h : (Pl.wordsB s)[i]? with
  | none => exact Nat.zero_le _
  | some p =>
    have hm := List.mem_of_getElem? h
    unfold Pl.wordsB at hm
    obtain ⟨q, hq, rfl⟩ := List.mem_map.1 hm
    have := Tx.piece_len 32 _ q hq
    show (baOf q).size ≤ s.size
    have h1 : (baOf q).size = q.length := by simp [baOf, ByteArray.size]
    have h2 : s.data.toList.length = s.size := by simp
    omega
end Go.Proofs.YtkkpkekkaoccbaaDoor
