/- What the walk of a layout's Valid keeps, plainly. -/
import Derived.Test.YtmjdjcpmkdninaaDoorLyMap
import Derived.Test.YtmjdjcpmkdninaaDoorLyW2
import Derived.Test.YtmjdjcpmkdninaaDoorLyMake
namespace Go.Proofs.YtmjdjcpmkdninaaDoor
open Go.RowKit Go.Maps
namespace Ly
theorem vGo_drop {l : List LE} {t : Nat} {x : LE} (hx : l[t]? = some x) : vGo (l.drop t) (l.take t) = if fitE (l.take t) x ≠ 0 then fitE (l.take t) x else vGo (l.drop (t + 1)) (l.take (t + 1)) := by
  obtain ⟨hl, he⟩ := List.getElem?_eq_some_iff.1 hx
  have e : l.take (t + 1) = l.take t ++ [x] := by rw [List.take_add_one, hx]; rfl
  rw [List.drop_eq_getElem_cons hl, he, vGo, e]
theorem take_nil {l : List LE} {t : Nat} (h : t < l.length) : l.take t = [] ↔ t = 0 := by
  constructor
  · intro e
    have := congrArg List.length e
    rw [List.length_take, List.length_nil, Nat.min_eq_left (by omega)] at this
    exact this
  · rintro rfl; rfl
/-- What is wrong with element t, case by case. -/
theorem fit_1 {l : List LE} {t : Nat} {x : LE} (ht : t < l.length) (h : sound x = false ∨ ¬ (x.k = 0 ↔ t = 0)) : fitE (l.take t) x = 1 := by
  unfold fitE
  rw [if_pos]
  rcases h with h | h
  · exact .inl h
  · right; rw [take_nil ht]; exact h
section
variable {l : List LE} {t : Nat} {x : LE}
theorem fit_not1 (ht : t < l.length) (h1 : sound x = true) (h2 : x.k = 0 ↔ t = 0) : ¬ (sound x = false ∨ ¬ (x.k = 0 ↔ l.take t = [])) := by
  rw [take_nil ht, h1]
  rintro (h | h)
  · cases h
  · exact h h2
theorem fit_8 (ht : t < l.length) (h1 : sound x = true) (h2 : x.k = 0 ↔ t = 0) (h3 : named (l.take t) x.nm = true) : fitE (l.take t) x = 8 := by
  unfold fitE
  rw [if_neg (fit_not1 ht h1 h2), if_pos h3]
theorem fit_first (ht : t < l.length) (h1 : sound x = true) (h2 : x.k = 0 ↔ t = 0) (h3 : named (l.take t) x.nm = false) (h0 : t = 0) : fitE (l.take t) x = 0 := by
  unfold fitE
  rw [if_neg (fit_not1 ht h1 h2), if_neg (by rw [h3]; decide), if_pos ((take_nil ht).2 h0)]
theorem fit_12 (ht : t < l.length) (h1 : sound x = true) (h2 : x.k = 0 ↔ t = 0) (h3 : named (l.take t) x.nm = false) (h0 : t ≠ 0) (h4 : x.p < 0 ∨ (t : Int) ≤ x.p) : fitE (l.take t) x = 12 := by
  unfold fitE
  rw [if_neg (fit_not1 ht h1 h2), if_neg (by rw [h3]; decide), if_neg (fun e => h0 ((take_nil ht).1 e)), if_pos (by rw [List.length_take, Nat.min_eq_left (by omega)]; exact h4)]
theorem fit_17 (ht : t < l.length) (h1 : sound x = true) (h2 : x.k = 0 ↔ t = 0) (h3 : named (l.take t) x.nm = false) (h0 : t ≠ 0) (h4 : 0 ≤ x.p ∧ x.p < (t : Int)) (h5 : kAt (l.take t) x.p = 4 ∨ (kAt (l.take t) x.p = 3 ↔ x.sd = 0) ∨ taken (l.take t) x.p x.sd = true) : fitE (l.take t) x = 17 := by
  unfold fitE
  rw [if_neg (fit_not1 ht h1 h2), if_neg (by rw [h3]; decide), if_neg (fun e => h0 ((take_nil ht).1 e)), if_neg (by rw [List.length_take, Nat.min_eq_left (by omega)]; omega), if_pos h5]
theorem fit_ok (ht : t < l.length) (h1 : sound x = true) (h2 : x.k = 0 ↔ t = 0) (h3 : named (l.take t) x.nm = false) (h0 : t ≠ 0) (h4 : 0 ≤ x.p ∧ x.p < (t : Int)) (h5 : ¬ (kAt (l.take t) x.p = 4 ∨ (kAt (l.take t) x.p = 3 ↔ x.sd = 0) ∨ taken (l.take t) x.p x.sd = true)) : fitE (l.take t) x = 0 := by
  unfold fitE
  rw [if_neg (fit_not1 ht h1 h2), if_neg (by rw [h3]; decide), if_neg (fun e => h0 ((take_nil ht).1 e)), if_neg (by rw [List.length_take, Nat.min_eq_left (by omega)]; omega), if_neg h5]
theorem kAt_take {y : LE} {p : Nat} (hp : p < t) (hy : l[p]? = some y) : kAt (l.take t) (p : Int) = y.k := by
  unfold kAt
  rw [Int.toNat_natCast, List.getElem?_take, if_pos hp, hy]
theorem named_take (hx : l[t]? = some x) (s : ByteArray) : named (l.take (t + 1)) s = (named (l.take t) s || decide (x.nm = s)) := by
  rw [List.take_add_one, hx]
  unfold named
  rw [List.any_append]
  simp
theorem named_new (hx : l[t]? = some x) : named (l.take (t + 1)) x.nm = true := by rw [named_take hx]; simp
theorem named_old (hx : l[t]? = some x) {s : ByteArray} (h : s ≠ x.nm) : named (l.take (t + 1)) s = named (l.take t) s := by rw [named_take hx]; simp [show ¬ x.nm = s from fun e => h e.symm]
theorem taken_take (hx : l[t]? = some x) (h0 : 1 ≤ t) (p sd : Int) : taken (l.take (t + 1)) p sd = (taken (l.take t) p sd || (decide (x.p = p) && decide (x.sd = sd))) := by
  unfold taken
  rw [take_drop_succ hx h0, List.any_append]
  simp
theorem taken_first (p sd : Int) : taken (l.take 1) p sd = taken (l.take 0) p sd := by
  unfold taken
  have : (l.take 1).drop 1 = [] := by cases l <;> simp
  rw [this]
  simp
theorem kids_take (hx : l[t]? = some x) (h0 : 1 ≤ t) (i : Nat) : kids (l.take (t + 1)) i = kids (l.take t) i + if x.p = (i : Int) then 1 else 0 := by
  unfold kids
  rw [take_drop_succ hx h0, List.countP_append, List.countP_cons, List.countP_nil]
  by_cases e : x.p = (i : Int) <;> simp [e]
theorem kids_first (i : Nat) : kids (l.take 1) i = kids (l.take 0) i := by
  unfold kids
  have : (l.take 1).drop 1 = [] := by cases l <;> simp
  rw [this]
  simp
theorem tracks_take (hx : l[t]? = some x) : tracks (l.take (t + 1)) = tracks (l.take t) + if x.k = 4 then 1 else 0 := by
  unfold tracks
  rw [List.take_add_one, hx]
  show List.countP _ (l.take t ++ [x]) = _
  rw [List.countP_append, List.countP_cons, List.countP_nil]
  by_cases e : x.k = 4 <;> simp [e]
theorem tracks_le : tracks (l.take t) ≤ t := by
  unfold tracks
  refine Nat.le_trans List.countP_le_length ?_
  rw [List.length_take]; omega
theorem kids_le_len (i : Nat) : kids (l.take t) i ≤ t := by
  unfold kids
  refine Nat.le_trans List.countP_le_length ?_
  rw [List.length_drop, List.length_take]; omega
end
/-- The children of all, once t elements have been seen. -/
def kidsL (l : List LE) (t n : Nat) : List Int := (List.range n).map fun i => (kids (l.take t) i : Int)
theorem kidsL_len (l : List LE) (t n : Nat) : (kidsL l t n).length = n := by simp [kidsL]
theorem kidsL_zero (l : List LE) (n : Nat) : kidsL l 0 n = List.replicate n 0 := by
  refine List.ext_getElem (by simp [kidsL]) fun i h1 h2 => ?_
  simp [kidsL, kids]
theorem kidsL_first (l : List LE) (n : Nat) : kidsL l 1 n = kidsL l 0 n := by
  unfold kidsL
  refine List.map_congr_left fun i _ => ?_
  rw [kids_first]
theorem kidsL_get (l : List LE) (t n i : Nat) (h : i < n) : (kidsL l t n).getD i 0 = (kids (l.take t) i : Int) := by
  rw [List.getD_eq_getElem?_getD, List.getElem?_eq_getElem (by rw [kidsL_len]; exact h)]
  simp [kidsL]
theorem kidsL_step {l : List LE} {t n p : Nat} {x : LE} (hx : l[t]? = some x) (h0 : 1 ≤ t) (hp : x.p = (p : Int)) (_hn : p < n) : (kidsL l t n).set p ((kids (l.take t) p : Int) + 1) = kidsL l (t + 1) n := by
  refine List.ext_getElem (by simp [kidsL]) fun i h1 h2 => ?_
  rw [kidsL_len] at h2
  rw [List.getElem_set]
  simp only [kidsL, List.getElem_map, List.getElem_range]
  rw [kids_take hx h0, hp]
  by_cases e : p = i
  · subst e; simp
  · rw [if_neg e, if_neg (by omega)]
    simp
theorem lacks_drop {l M : List LE} {t : Nat} {x : LE} (hx : M[t]? = some x) : lacks l (M.drop t) t = (decide (kids l t < want x.k) || lacks l (M.drop (t + 1)) (t + 1)) := by
  obtain ⟨hl, he⟩ := List.getElem?_eq_some_iff.1 hx
  rw [List.drop_eq_getElem_cons hl, he, lacks]
end Ly
/-- What holds at the head of the first loop. -/
def LVa (w : World) (n : Nat) (l : List LE) (tr i : Value) (wr : World) : Prop :=
  ∃ (t m : Nat), t ≤ n ∧ i = .int .i64 (t : Int) ∧ tr = .int .i64 (Ly.tracks (l.take t) : Int) ∧ Hid (Ly.vGo l [] = Ly.vGo (l.drop t) (l.take t)) ∧
    MapB keyS 4 wr w.heap.size t (fun s => Ly.named (l.take t) s) ∧ m ≤ t ∧ MapB keyP 4 wr (w.heap.size + 1) m (fun q => Ly.taken (l.take t) q.1 q.2) ∧
    wr.ownsRow (w.heap.size + 2) 3 1 (.slice (some ⟨w.heap.size + 2, 0, none⟩) n n) n ((Ly.kidsL l t n).map (Value.int .i64)) ∧ Below w.heap.size w wr ∧ w.heap.size + 3 ≤ wr.heap.size
def LVb (w : World) (n : Nat) (l : List LE) (i : Value) (wr : World) : Prop :=
  ∃ t : Nat, t ≤ n ∧ i = .int .i64 (t : Int) ∧ Hid (Ly.lacks l l 0 = Ly.lacks l (l.drop t) t) ∧
    wr.ownsRow (w.heap.size + 2) 3 1 (.slice (some ⟨w.heap.size + 2, 0, none⟩) n n) n ((Ly.kidsL l n n).map (Value.int .i64)) ∧ Below w.heap.size w wr ∧ w.heap.size + 3 ≤ wr.heap.size
end Go.Proofs.YtmjdjcpmkdninaaDoor
