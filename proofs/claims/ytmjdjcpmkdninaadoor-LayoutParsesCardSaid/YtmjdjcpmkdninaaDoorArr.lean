/- Arrays of integers in a block of the call's own. -/
import Derived.Test.YtmjdjcpmkdninaaDoorMem
namespace Go.Proofs.YtmjdjcpmkdninaaDoor
open Go.RowKit
def ArrAt (w : World) (b m : Nat) (f : Nat → Int) : Prop := b < w.heap.size ∧ (∀ i : Nat, i < m → w.cell? ⟨b, i, none⟩ = some (.int .i64 (f i))) ∧ ∀ i, w.frozen? ⟨b, i, none⟩ = false
theorem ArrAt.below {w w' : World} {b m : Nat} {f : Nat → Int} (h : ArrAt w b m f) (hb : Below w.heap.size w w') : ArrAt w' b m f :=
  ⟨Nat.lt_of_lt_of_le h.1 hb.size, fun i hi => (hb.cell (p := ⟨b, i, none⟩) h.1).trans (h.2.1 i hi), fun i => (hb.frozen (p := ⟨b, i, none⟩) h.1).trans (h.2.2 i)⟩
theorem ArrAt.set {w : World} {b m : Nat} {f : Nat → Int} (h : ArrAt w b m f) (j : Nat) (v : Int) {f' : Nat → Int} (h1 : f' j = v) (h2 : ∀ i, i < m → i ≠ j → f' i = f i) : ArrAt (w.setCell ⟨b, j, none⟩ (.int .i64 v)) b m f' := by
  refine ⟨by simpa [World.setCell] using h.1, fun i hi => ?_, fun i => ?_⟩
  · by_cases e : i = j
    · subst e
      rw [h1]
      exact World.cell?_setCell_same _ _ _ (h.2.1 i hi)
    · rw [World.cell?_setCell_other _ _ _ _ (fun e' => e (by injection e' with _ h' _; exact h'.symm)), h2 i hi e]
      exact h.2.1 i hi
  · rw [World.frozen?_setCell]
    exact h.2.2 i
theorem zeros_at (w : World) (t : TypeId) (m : Nat) (cs : Array Value) (h : cs = Array.replicate m (.int .i64 0)) : ArrAt (w.alloc (.cells cs t)) w.heap.size m (fun _ => 0) := by
  have hB := Blk.new w t cs
  refine ⟨by simp, fun i hi => ?_, fun i => hB.frozen i⟩
  rw [hB.cell, h, Array.getElem?_replicate, if_pos hi]
end Go.Proofs.YtmjdjcpmkdninaaDoor
