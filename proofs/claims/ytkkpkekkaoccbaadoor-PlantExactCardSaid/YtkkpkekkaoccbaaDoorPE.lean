/- Slices of elements of a plant: reading, rows of the call's own. -/
import Derived.Test.YtkkpkekkaoccbaaDoorMem
import Derived.Test.YtkkpkekkaoccbaaDoorPlPlain
namespace Go.Proofs.YtkkpkekkaoccbaaDoor
open Go.RowKit
def cells6 (p : PE) : List Value := [.int .i64 p.k, .string p.nm, .int .i64 p.a, .int .i64 p.b, .int .i64 p.c, .int .i64 p.len]
def peV (p : PE) : Value := .agg #[.int .i64 p.k, .string p.nm, .int .i64 p.a, .int .i64 p.b, .int .i64 p.c, .int .i64 p.len]
def flat6 (l : List PE) : List Value := l.flatMap cells6
theorem flat6_cons (p : PE) (r : List PE) : flat6 (p :: r) = .int .i64 p.k :: .string p.nm :: .int .i64 p.a :: .int .i64 p.b :: .int .i64 p.c :: .int .i64 p.len :: flat6 r := rfl
theorem flat6_len (l : List PE) : (flat6 l).length = l.length * 6 := by
  induction l with
  | nil => rfl
  | cons p r ih => rw [flat6_cons]; simp only [List.length_cons, ih]; omega
theorem flat6_append (l m : List PE) : flat6 (l ++ m) = flat6 l ++ flat6 m := by simp [flat6]
theorem flat6_snoc (l : List PE) (p : PE) : flat6 (l ++ [p]) = flat6 l ++ cells6 p := by simp [flat6]
theorem one_flat6 (l : List PE) : ∀ u ∈ flat6 l, u.oneCell' = true := by
  intro u hu
  obtain ⟨p, _, hp⟩ := List.mem_flatMap.1 hu
  simp only [cells6, List.mem_cons, List.not_mem_nil, or_false] at hp
  rcases hp with rfl | rfl | rfl | rfl | rfl | rfl <;> rfl
theorem flat6_at (l : List PE) : ∀ (i : Nat) (p : PE), l[i]? = some p → ∀ j u, (cells6 p)[j]? = some u → (flat6 l)[i * 6 + j]? = some u := by
  induction l with
  | nil => intro i p h; simp at h
  | cons q r ih =>
    intro i p h j u hu
    have hj : j < 6 := (List.getElem?_eq_some_iff.1 hu).1
    cases i with
    | zero =>
      simp at h
      subst h
      have e : flat6 (q :: r) = cells6 q ++ flat6 r := rfl
      rw [e, Nat.zero_mul, Nat.zero_add, List.getElem?_append_left (by simpa [cells6] using hj)]
      exact hu
    | succ i =>
      have e : flat6 (q :: r) = cells6 q ++ flat6 r := rfl
      rw [e, List.getElem?_append_right (by simp [cells6]; omega)]
      have := ih i p (by simpa using h) j u hu
      rw [show (i + 1) * 6 + j - (cells6 q).length = i * 6 + j by simp [cells6]; omega]
      exact this
/-- The slice (address A, n elements) reads as l. -/
def PR6 (w : World) (A : Option Addr) (n : Nat) (l : List PE) : Prop := Reads w w.heap.size 6 A n (flat6 l)
section
variable {w w' : World} {A : Option Addr} {n : Nat} {l : List PE}
theorem PR6.len (h : PR6 w A n l) : l.length = n := by have := h.1; rw [flat6_len] at this; omega
theorem add_ne {ad : Addr} (j : Nat) (hj : j ≠ 0) : ad.add j = ⟨ad.block, ad.off + j, none⟩ := by simp [Addr.add, hj]
theorem PR6.at_ (h : PR6 w A n l) {i : Nat} (hi : i < n) : ∃ ad p, A = some ad ∧ ad.block < w.heap.size ∧ l[i]? = some p ∧ w.cell? (ad.add (i * 6)) = some (.int .i64 p.k) ∧
    w.cell? ⟨(ad.add (i * 6)).block, (ad.add (i * 6)).off + 1, none⟩ = some (.string p.nm) ∧ w.cell? ⟨(ad.add (i * 6)).block, (ad.add (i * 6)).off + 2, none⟩ = some (.int .i64 p.a) ∧
    w.cell? ⟨(ad.add (i * 6)).block, (ad.add (i * 6)).off + 3, none⟩ = some (.int .i64 p.b) ∧ w.cell? ⟨(ad.add (i * 6)).block, (ad.add (i * 6)).off + 4, none⟩ = some (.int .i64 p.c) ∧
    w.cell? ⟨(ad.add (i * 6)).block, (ad.add (i * 6)).off + 5, none⟩ = some (.int .i64 p.len) := by
  have hl := h.len
  obtain ⟨ad, e, hb, hc⟩ := h.2 (by omega)
  have hp : l[i]? = some l[i] := List.getElem?_eq_getElem (by omega)
  have key := fun j u hu => hc _ _ (flat6_at l i _ hp j u hu)
  have k0 := key 0 _ rfl
  rw [Nat.add_zero] at k0
  have kj : ∀ j, j ≠ 0 → ∀ u, (cells6 l[i])[j]? = some u → w.cell? ⟨(ad.add (i * 6)).block, (ad.add (i * 6)).off + j, none⟩ = some u := by
    intro j hj u hu
    have := key j u hu
    rw [← add_of_add, add_ne j hj] at this
    exact this
  exact ⟨ad, _, e, hb, hp, k0, kj 1 (by decide) _ rfl, kj 2 (by decide) _ rfl, kj 3 (by decide) _ rfl, kj 4 (by decide) _ rfl, kj 5 (by decide) _ rfl⟩
theorem PR6.below (h : PR6 w A n l) (hb : Below w.heap.size w w') : PR6 w' A n l := (Reads.below h hb).more hb.size
theorem PR6.nil_ : PR6 w A 0 [] := ⟨by simp [flat6], fun h => absurd h (by omega)⟩
end
theorem own_PR6 {w0 : World} {B e n c : Nat} {A : Option Addr} {l : List PE} (h : w0.ownsRow B e 6 (.slice A n c) n (flat6 l)) : PR6 w0 A n l := Reads.of_own h
theorem own6_len {w0 : World} {B e n : Nat} {v : Value} {l : List PE} (h : w0.ownsRow B e 6 v n (flat6 l)) : l.length = n := by have := h.1; rw [flat6_len] at this; omega
end Go.Proofs.YtkkpkekkaoccbaaDoor
