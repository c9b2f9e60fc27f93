/- A row of the call's own behind slices.SortFunc (the first three laws are the library's on integers, at any enc). -/
import Derived.Test.YtlljanbhbnempaaTlSort
import Derived.Sort.OwnSortedInts
import Derived.Shelf.SlSortCmp.NoneTotal
namespace Go.Proofs.Ytlljanbhbnempaa
open Go.Proofs Go.Shelf Go.RowKit Go.Lib Go.Sort
section
variable {α : Type} [Inhabited α] {enc : α → Value}
theorem heap_sortedE {w : World} {g n : Nat} {cur : Array Value} {e : TypeId} {fr : Nat × Nat} (d : Array α) (hb : w.heap[g]? = some (.cells cur e fr)) :
    ((Sort.putRow enc w g 0 d).drewN n).heap[g]? = some (.cells (Sort.putCells enc 0 d cur) e fr) := by
  show (Sort.putRow enc w g 0 d).heap[g]? = _
  simp [Sort.putRow, mapBlock, Array.getElem?_modify, hb, onCells]
theorem grownBy_sortedE {w : World} {g n : Nat} (d : Array α) : w.grownBy ((Sort.putRow enc w g 0 d).drewN n) (some g) := by
  refine ⟨rfl, rfl, rfl, by show _ ≤ (Sort.putRow enc w g 0 d).heap.size; simp, fun k hk hne => ?_⟩
  have : g ≠ k := fun e => hne (by rw [e])
  show (Sort.putRow enc w g 0 d).heap[k]? = _
  simp [Sort.putRow, mapBlock, Array.getElem?_modify, this]
theorem take_putCellsE (cur : Array Value) (d : Array α) (h : d.size ≤ cur.size) : (Sort.putCells enc 0 d cur).toList.take d.size = d.toList.map enc := by
  apply List.ext_getElem?
  intro j
  by_cases hj : j < d.size
  · rw [List.getElem?_take_of_lt hj, Array.getElem?_toList]
    simp [Sort.putCells, hj, show j < cur.size by omega]
  · rw [List.getElem?_take_eq_none (by omega), List.getElem?_eq_none (by simp; omega)]
theorem own_sortedE {w : World} {B g cap n m : Nat} {e : TypeId} {xs : List Value} (h : w.ownsRow B e 1 (.slice (some ⟨g, 0, none⟩) m cap) m xs) (d : Array α) (hd : d.size = m) :
    ((Sort.putRow enc w g 0 d).drewN n).ownsRow B e 1 (.slice (some ⟨g, 0, none⟩) m cap) m (d.toList.map enc) := by
  rcases h.2 with ⟨h0, _⟩ | ⟨g', cap', cur, hv, hB, hb, h1, h2, h3, h4⟩
  · cases h0
  · cases hv
    exact ⟨by simp [hd], .inr ⟨_, _, _, rfl, hB, heap_sortedE d hb, h1, h2, by simp [Sort.putCells, h3], by rw [Nat.mul_one, ← hd]; exact take_putCellsE cur d (by omega)⟩⟩
end
end Go.Proofs.Ytlljanbhbnempaa
