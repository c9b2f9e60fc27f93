/- Slices of elements of a layout: reading, rows of the call's own. -/
import Derived.Test.YtmjdjcpmkdninaaDoorMem
import Derived.Test.YtmjdjcpmkdninaaDoorLyPlain
namespace Go.Proofs.YtmjdjcpmkdninaaDoor
open Go.RowKit
def cells8 (p : LE) : List Value := [.int .i64 p.k, .string p.nm, .int .i64 p.p, .int .i64 p.sd, .int .i64 p.len, .int .i64 p.g, .int .i64 p.c, .int .i64 p.pw]
def leV (p : LE) : Value := .agg #[.int .i64 p.k, .string p.nm, .int .i64 p.p, .int .i64 p.sd, .int .i64 p.len, .int .i64 p.g, .int .i64 p.c, .int .i64 p.pw]
def flat8 (l : List LE) : List Value := l.flatMap cells8
theorem flat8_cons (p : LE) (r : List LE) : flat8 (p :: r) = cells8 p ++ flat8 r := rfl
theorem flat8_len (l : List LE) : (flat8 l).length = l.length * 8 := by
  induction l with
  | nil => rfl
  | cons p r ih => rw [flat8_cons]; simp only [List.length_append, List.length_cons, ih, cells8, List.length_nil]; omega
theorem flat8_append (l m : List LE) : flat8 (l ++ m) = flat8 l ++ flat8 m := by simp [flat8]
theorem flat8_snoc (l : List LE) (p : LE) : flat8 (l ++ [p]) = flat8 l ++ cells8 p := by simp [flat8]
theorem one_flat8 (l : List LE) : ∀ u ∈ flat8 l, u.oneCell' = true := by
  intro u hu
  obtain ⟨p, _, hp⟩ := List.mem_flatMap.1 hu
  simp only [cells8, List.mem_cons, List.not_mem_nil, or_false] at hp
  rcases hp with rfl | rfl | rfl | rfl | rfl | rfl | rfl | rfl <;> rfl
theorem flat8_at (l : List LE) : ∀ (i : Nat) (p : LE), l[i]? = some p → ∀ j u, (cells8 p)[j]? = some u → (flat8 l)[i * 8 + j]? = some u := by
  induction l with
  | nil => intro i p h; simp at h
  | cons q r ih =>
    intro i p h j u hu
    have hj : j < 8 := (List.getElem?_eq_some_iff.1 hu).1
    cases i with
    | zero =>
      simp at h
      subst h
      rw [flat8_cons, Nat.zero_mul, Nat.zero_add, List.getElem?_append_left (by simpa [cells8] using hj)]
      exact hu
    | succ i =>
      rw [flat8_cons, List.getElem?_append_right (by simp [cells8]; omega)]
      have := ih i p (by simpa using h) j u hu
      rw [show (i + 1) * 8 + j - (cells8 q).length = i * 8 + j by simp [cells8]; omega]
      exact this
/-- The slice (address A, n elements) reads as l. -/
def LR (w : World) (A : Option Addr) (n : Nat) (l : List LE) : Prop := Reads w w.heap.size 8 A n (flat8 l)
/-- The cells of an element at an address, as the walk spells them. -/
def LAt (w : World) (ad : Addr) (p : LE) : Prop := w.cell? ad = some (.int .i64 p.k) ∧ w.cell? ⟨ad.block, ad.off + 1, none⟩ = some (.string p.nm) ∧ w.cell? ⟨ad.block, ad.off + 2, none⟩ = some (.int .i64 p.p) ∧
    w.cell? ⟨ad.block, ad.off + 3, none⟩ = some (.int .i64 p.sd) ∧ w.cell? ⟨ad.block, ad.off + 4, none⟩ = some (.int .i64 p.len) ∧ w.cell? ⟨ad.block, ad.off + 5, none⟩ = some (.int .i64 p.g) ∧
    w.cell? ⟨ad.block, ad.off + 6, none⟩ = some (.int .i64 p.c) ∧ w.cell? ⟨ad.block, ad.off + 7, none⟩ = some (.int .i64 p.pw)
section
variable {w w' : World} {A : Option Addr} {n : Nat} {l : List LE}
theorem LR.len (h : LR w A n l) : l.length = n := by have := h.1; rw [flat8_len] at this; omega
theorem add_ne8 {ad : Addr} (j : Nat) (hj : j ≠ 0) : ad.add j = ⟨ad.block, ad.off + j, none⟩ := by simp [Addr.add, hj]
theorem LR.at_ (h : LR w A n l) {i : Nat} (hi : i < n) : ∃ ad p, A = some ad ∧ ad.block < w.heap.size ∧ l[i]? = some p ∧ LAt w (ad.add (i * 8)) p := by
  have hl := h.len
  obtain ⟨ad, e, hb, hc⟩ := h.2 (by omega)
  have hp : l[i]? = some l[i] := List.getElem?_eq_getElem (by omega)
  have key := fun j u hu => hc _ _ (flat8_at l i _ hp j u hu)
  have k0 := key 0 _ rfl
  rw [Nat.add_zero] at k0
  have kj : ∀ j, j ≠ 0 → ∀ u, (cells8 l[i])[j]? = some u → w.cell? ⟨(ad.add (i * 8)).block, (ad.add (i * 8)).off + j, none⟩ = some u := by
    intro j hj u hu
    have := key j u hu
    rw [← add_of_add, add_ne8 j hj] at this
    exact this
  exact ⟨ad, _, e, hb, hp, k0, kj 1 (by decide) _ rfl, kj 2 (by decide) _ rfl, kj 3 (by decide) _ rfl, kj 4 (by decide) _ rfl, kj 5 (by decide) _ rfl, kj 6 (by decide) _ rfl, kj 7 (by decide) _ rfl⟩
theorem LR.below (h : LR w A n l) (hb : Below w.heap.size w w') : LR w' A n l := (Reads.below h hb).more hb.size
theorem LR.nil_ : LR w A 0 [] := ⟨by simp [flat8], fun h => absurd h (by omega)⟩
end
theorem own_LR {w0 : World} {B e n c : Nat} {A : Option Addr} {l : List LE} (h : w0.ownsRow B e 8 (.slice A n c) n (flat8 l)) : LR w0 A n l := Reads.of_own h
theorem own8_len {w0 : World} {B e n : Nat} {v : Value} {l : List LE} (h : w0.ownsRow B e 8 v n (flat8 l)) : l.length = n := by have := h.1; rw [flat8_len] at this; omega
end Go.Proofs.YtmjdjcpmkdninaaDoor
