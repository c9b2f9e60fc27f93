/- Deleting from a row of the call's own; its head alone. -/
import Derived.Test.YtmjdjcpmkdninaaDoorMem
import Derived.Deep.RegionLaw
namespace Go.Proofs.YtmjdjcpmkdninaaDoor
open Go.RowKit
theorem own_of_cells {w : World} {B e g n cap : Nat} {cur : Array Value} {xs : List Value} (hB : B ≤ g) (hb : w.heap[g]? = some (.cells cur e (0, 0))) (hs : cur.size = cap) (hn : n ≤ cap) (hm : cap ≤ maxLen) (hl : xs.length = n) (hc : ∀ j, j < n → w.cell? ⟨g, j, none⟩ = xs[j]?) :
    w.ownsRow B e 1 (.slice (some ⟨g, 0, none⟩) n cap) n xs := by
  refine ⟨by omega, .inr ⟨g, cap, cur, rfl, hB, hb, hn, hm, by omega, ?_⟩⟩
  refine List.ext_getElem? fun j => ?_
  rw [List.getElem?_take]
  by_cases hj : j < n * 1
  · rw [if_pos hj]
    have h1 := hc j (by omega)
    rw [cell_of_row w g j cur e (0, 0) hb] at h1
    rw [← h1]
    simp
  · rw [if_neg hj, List.getElem?_eq_none (by omega)]
theorem setCells_block : ∀ (vs : List Value) (w : World) (g o : Nat) (cur : Array Value) (e : TypeId) (fz : Nat × Nat), w.heap[g]? = some (.cells cur e fz) → ∃ cur', cur'.size = cur.size ∧ (w.setCells g o vs).heap[g]? = some (.cells cur' e fz) := by
  intro vs
  induction vs with
  | nil => intro w g o cur e fz h; exact ⟨cur, rfl, h⟩
  | cons v r ih =>
    intro w g o cur e fz h
    have h2 : (w.setCell ⟨g, o, none⟩ v).heap[g]? = some (.cells (cur.setIfInBounds o v) e fz) := by simp [World.setCell, Array.getElem?_modify, h]
    obtain ⟨cur', h3, h4⟩ := ih _ g (o + 1) _ e fz h2
    exact ⟨cur', by rw [h3]; simp, h4⟩
theorem setCells_grown : ∀ (vs : List Value) (w : World) (g o : Nat), w.grownBy (w.setCells g o vs) (some g) := by
  intro vs
  induction vs with
  | nil => intro w g o; exact World.grownBy.refl w _
  | cons v r ih =>
    intro w g o
    refine World.grownBy.trans ?_ (ih (w.setCell ⟨g, o, none⟩ v) g (o + 1))
    exact ⟨rfl, rfl, rfl, by simp [World.setCell], fun j _ hne => Below.heap_setCell w ⟨g, o, none⟩ v j (fun e => hne (by rw [e]))⟩
theorem own_del {w : World} {B e g n cap i : Nat} {L : List Int} (h : w.ownsRow B e 1 (.slice (some ⟨g, 0, none⟩) n cap) n (L.map (Value.int .i64))) (hi : i < n) :
    (w.setCells g i ((L.drop (i + 1)).map (Value.int .i64))).ownsRow B e 1 (.slice (some ⟨g, 0, none⟩) (i + (n - (i + 1))) cap) (i + (n - (i + 1))) ((L.take i ++ L.drop (i + 1)).map (Value.int .i64)) := by
  have hl := own_len h
  obtain ⟨g', cap', cur, hv, hB, hb, hn, hm, hs, ht⟩ : ∃ g' cap' cur, (Value.slice (some ⟨g, 0, none⟩) n cap) = .slice (some ⟨g', 0, none⟩) n cap' ∧ B ≤ g' ∧ w.heap[g']? = some (.cells cur e (0, 0)) ∧ n ≤ cap' ∧ cap' ≤ maxLen ∧ cur.size = cap' * 1 ∧ cur.toList.take (n * 1) = L.map (Value.int .i64) := by
    rcases h.2 with ⟨h0, _⟩ | h0
    · cases h0
    · exact h0
  injection hv with h1 _ h2
  injection h1 with h1
  injection h1 with h1 _ _
  subst h1; subst h2
  obtain ⟨cur', hs', hb'⟩ := setCells_block ((L.drop (i + 1)).map (Value.int .i64)) w g i cur e (0, 0) hb
  refine own_of_cells hB hb' (by omega) (by omega) hm (by simp; omega) (fun j hj => ?_)
  have hti : (L.take i).length = i := by rw [List.length_take]; omega
  by_cases hji : j < i
  · rw [World.cell?_setCells_out _ _ _ _ _ (fun _ _ => .inl hji), own_cell h (by omega), List.getElem?_map, List.getElem?_append_left (by omega), List.getElem?_take, if_pos hji, List.getElem?_eq_getElem (by omega), List.getD_eq_getElem?_getD, List.getElem?_eq_getElem (by omega)]
    rfl
  · obtain ⟨t, rfl⟩ : ∃ t, j = i + t := ⟨j - i, by omega⟩
    rw [World.cell?_setCells_in g _ i w (fun q hq => ?_) t (by simp; omega), List.getElem?_map, List.getElem?_append_right (by omega), hti, show i + t - i = t by omega, List.getElem?_eq_getElem (by simp; omega)]
    · simp
    · simp only [List.length_map, List.length_drop] at hq
      rw [own_cell h (by omega)]; rfl
/-- A row's head. -/
theorem own_init {w : World} {B e size n cap : Nat} {A : Option Addr} {xs ys : List Value} (h : w.ownsRow B e size (.slice A (n + 1) cap) (n + 1) (xs ++ ys)) (hx : xs.length = n * size) : w.ownsRow B e size (.slice A n cap) n xs := by
  refine ⟨hx, .inr ?_⟩
  rcases h.2 with ⟨h0, _⟩ | ⟨g, cap', cur, hv, hB, hb, hn, hm, hs, ht⟩
  · cases h0
  · injection hv with h1 _ h2
    subst h1; subst h2
    refine ⟨g, cap, cur, rfl, hB, hb, by omega, hm, hs, ?_⟩
    have := congrArg (List.take (n * size)) ht
    rw [List.take_take, Nat.min_eq_left (Nat.mul_le_mul_right _ (by omega)), List.take_left' hx] at this
    exact this
end Go.Proofs.YtmjdjcpmkdninaaDoor
