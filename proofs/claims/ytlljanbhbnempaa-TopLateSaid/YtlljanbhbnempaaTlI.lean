/- Slices of items: reading, rows of the call's own. -/
import Derived.Test.YtlljanbhbnempaaMem
import Derived.Test.YtlljanbhbnempaaTlSolve
namespace Go.Proofs.Ytlljanbhbnempaa
open Go.RowKit
def cells4 (p : IT) : List Value := [.int .i64 p.tr, .int .i64 p.bl, .int .i64 p.rd, .int .i64 p.ln]
def itV (p : IT) : Value := .agg #[.int .i64 p.tr, .int .i64 p.bl, .int .i64 p.rd, .int .i64 p.ln]
def flat4 (l : List IT) : List Value := l.flatMap cells4
theorem flat4_cons (p : IT) (r : List IT) : flat4 (p :: r) = .int .i64 p.tr :: .int .i64 p.bl :: .int .i64 p.rd :: .int .i64 p.ln :: flat4 r := rfl
theorem flat4_len (l : List IT) : (flat4 l).length = l.length * 4 := by
  induction l with
  | nil => rfl
  | cons p r ih => rw [flat4_cons]; simp only [List.length_cons, ih]; omega
theorem flat4_append (l m : List IT) : flat4 (l ++ m) = flat4 l ++ flat4 m := by simp [flat4]
theorem flat4_snoc (l : List IT) (p : IT) : flat4 (l ++ [p]) = flat4 l ++ cells4 p := by simp [flat4]
theorem one_flat4 (l : List IT) : ∀ u ∈ flat4 l, u.oneCell' = true := by
  intro u hu
  obtain ⟨p, _, hp⟩ := List.mem_flatMap.1 hu
  simp only [cells4, List.mem_cons, List.not_mem_nil, or_false] at hp
  rcases hp with rfl | rfl | rfl | rfl <;> rfl
theorem flat4_at (l : List IT) : ∀ (i : Nat) (p : IT), l[i]? = some p → ∀ j u, (cells4 p)[j]? = some u → (flat4 l)[i * 4 + j]? = some u := by
  induction l with
  | nil => intro i p h; simp at h
  | cons q r ih =>
    intro i p h j u hu
    have hj : j < 4 := (List.getElem?_eq_some_iff.1 hu).1
    cases i with
    | zero =>
      simp at h
      subst h
      have e : flat4 (q :: r) = cells4 q ++ flat4 r := rfl
      rw [e, Nat.zero_mul, Nat.zero_add, List.getElem?_append_left (by simpa [cells4] using hj)]
      exact hu
    | succ i =>
      have e : flat4 (q :: r) = cells4 q ++ flat4 r := rfl
      rw [e, List.getElem?_append_right (by simp [cells4]; omega)]
      have := ih i p (by simpa using h) j u hu
      rw [show (i + 1) * 4 + j - (cells4 q).length = i * 4 + j by simp [cells4]; omega]
      exact this
/-- The slice (address A, n items) reads as l. -/
def IR4 (w : World) (A : Option Addr) (n : Nat) (l : List IT) : Prop := Reads w w.heap.size 4 A n (flat4 l)
section
variable {w w' : World} {A : Option Addr} {n : Nat} {l : List IT}
theorem IR4.len (h : IR4 w A n l) : l.length = n := by have := h.1; rw [flat4_len] at this; omega
theorem add_ne {ad : Addr} (j : Nat) (hj : j ≠ 0) : ad.add j = ⟨ad.block, ad.off + j, none⟩ := by simp [Addr.add, hj]
theorem IR4.at_ (h : IR4 w A n l) {i : Nat} (hi : i < n) : ∃ ad p, A = some ad ∧ ad.block < w.heap.size ∧ l[i]? = some p ∧ w.cell? (ad.add (i * 4)) = some (.int .i64 p.tr) ∧
    w.cell? ⟨(ad.add (i * 4)).block, (ad.add (i * 4)).off + 1, none⟩ = some (.int .i64 p.bl) ∧ w.cell? ⟨(ad.add (i * 4)).block, (ad.add (i * 4)).off + 2, none⟩ = some (.int .i64 p.rd) ∧
    w.cell? ⟨(ad.add (i * 4)).block, (ad.add (i * 4)).off + 3, none⟩ = some (.int .i64 p.ln) := by
  have hl := h.len
  obtain ⟨ad, e, hb, hc⟩ := h.2 (by omega)
  have hp : l[i]? = some l[i] := List.getElem?_eq_getElem (by omega)
  have key := fun j u hu => hc _ _ (flat4_at l i _ hp j u hu)
  have k0 := key 0 _ rfl
  rw [Nat.add_zero] at k0
  have kj : ∀ j, j ≠ 0 → ∀ u, (cells4 l[i])[j]? = some u → w.cell? ⟨(ad.add (i * 4)).block, (ad.add (i * 4)).off + j, none⟩ = some u := by
    intro j hj u hu
    have := key j u hu
    rw [← add_of_add, add_ne j hj] at this
    exact this
  exact ⟨ad, _, e, hb, hp, k0, kj 1 (by decide) _ rfl, kj 2 (by decide) _ rfl, kj 3 (by decide) _ rfl⟩
theorem IR4.below (h : IR4 w A n l) (hb : Below w.heap.size w w') : IR4 w' A n l := (Reads.below h hb).more hb.size
theorem IR4.nil_ : IR4 w A 0 [] := ⟨by simp [flat4], fun h => absurd h (by omega)⟩
end
theorem own_IR4 {w0 : World} {B e n c : Nat} {A : Option Addr} {l : List IT} (h : w0.ownsRow B e 4 (.slice A n c) n (flat4 l)) : IR4 w0 A n l := Reads.of_own h
theorem own4_len {w0 : World} {B e n : Nat} {v : Value} {l : List IT} (h : w0.ownsRow B e 4 v n (flat4 l)) : l.length = n := by have := h.1; rw [flat4_len] at this; omega
/-- What a job is. -/
def jobV (A : Option Addr) (n c : Nat) (k : Nat) : Value := .agg #[.slice A n c, .int .i64 k]
end Go.Proofs.Ytlljanbhbnempaa
