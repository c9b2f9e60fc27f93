/- Slices of structs of three integers: reading, appending. -/
import Derived.Test.YtjlfdkkaljlmjaaMem
import Derived.Test.YtjlfdkkaljlmjaaDetPlain
namespace Go.Proofs.Ytjlfdkkaljlmjaa
open Go.RowKit
def cells3 (p : V3) : List Value := [.int .i64 p.a, .int .i64 p.b, .int .i64 p.c]
def flat3 (l : List V3) : List Value := l.flatMap cells3
theorem flat3_len (l : List V3) : (flat3 l).length = l.length * 3 := by
  induction l with
  | nil => rfl
  | cons p r ih => simp only [flat3, List.flatMap_cons, List.length_append] at *; rw [ih]; simp [cells3]; omega
theorem flat3_append (l m : List V3) : flat3 (l ++ m) = flat3 l ++ flat3 m := by simp [flat3]
theorem flat3_snoc (l : List V3) (p : V3) : flat3 (l ++ [p]) = flat3 l ++ cells3 p := by simp [flat3]
theorem flat3_at (l : List V3) : ∀ (i : Nat) (p : V3), l[i]? = some p → (flat3 l)[i * 3]? = some (.int .i64 p.a) ∧ (flat3 l)[i * 3 + 1]? = some (.int .i64 p.b) ∧ (flat3 l)[i * 3 + 2]? = some (.int .i64 p.c) := by
  induction l with
  | nil => intro i p h; simp at h
  | cons q r ih =>
    intro i p h
    have e : flat3 (q :: r) = .int .i64 q.a :: .int .i64 q.b :: .int .i64 q.c :: flat3 r := rfl
    rw [e]
    cases i with
    | zero => simp at h; subst h; exact ⟨rfl, rfl, rfl⟩
    | succ i =>
      simp only [List.getElem?_cons_succ] at h
      obtain ⟨h1, h2, h3⟩ := ih i p h
      have e1 : (i + 1) * 3 = i * 3 + 3 := by omega
      rw [e1]
      exact ⟨h1, h2, h3⟩
/-- The slice (address A, n structs) reads as l. -/
def VR (w : World) (A : Option Addr) (n : Nat) (l : List V3) : Prop := Reads w w.heap.size 3 A n (flat3 l)
section
variable {w w' : World} {A : Option Addr} {n : Nat} {l : List V3}
theorem VR.len (h : VR w A n l) : l.length = n := by have := h.1; rw [flat3_len] at this; omega
theorem VR.at_ (h : VR w A n l) {i : Nat} (hi : i < n) :
    ∃ ad p, A = some ad ∧ ad.block < w.heap.size ∧ l[i]? = some p ∧ w.cell? (ad.add (i * 3)) = some (.int .i64 p.a) ∧ w.cell? ⟨(ad.add (i * 3)).block, (ad.add (i * 3)).off + 1, none⟩ = some (.int .i64 p.b) ∧ w.cell? ⟨(ad.add (i * 3)).block, (ad.add (i * 3)).off + 2, none⟩ = some (.int .i64 p.c) := by
  have hl := h.len
  obtain ⟨ad, e, hb, hc⟩ := h.2 (by omega)
  have hp : l[i]? = some l[i] := List.getElem?_eq_getElem (by omega)
  obtain ⟨h1, h2, h3⟩ := flat3_at l i _ hp
  have e1 := hc _ _ h2
  have e2 := hc _ _ h3
  rw [← add_of_add] at e1 e2
  exact ⟨ad, _, e, hb, hp, hc _ _ h1, by simpa [Addr.add] using e1, by simpa [Addr.add] using e2⟩
theorem VR.below (h : VR w A n l) (hb : Below w.heap.size w w') : VR w' A n l := (Reads.below h hb).more hb.size
theorem VR.take (h : VR w A n l) {g : Nat} (hg : g ≤ n) : VR w A g (l.take g) := by
  have hl := h.len
  refine ⟨by rw [flat3_len, List.length_take]; omega, fun hg0 => ?_⟩
  obtain ⟨ad, e, hb, hc⟩ := h.2 (by omega)
  refine ⟨ad, e, hb, fun j u hu => hc j u ?_⟩
  have he : flat3 l = flat3 (l.take g) ++ flat3 (l.drop g) := by rw [← flat3_append, List.take_append_drop]
  rw [he, List.getElem?_append_left (by have := (List.getElem?_eq_some_iff.1 hu).1; exact this)]
  exact hu
theorem flat3_drop (l : List V3) (g : Nat) : (flat3 l).drop (g * 3) = flat3 (l.drop g) := by
  by_cases h : g ≤ l.length
  · have he : flat3 l = flat3 (l.take g) ++ flat3 (l.drop g) := by rw [← flat3_append, List.take_append_drop]
    rw [he, List.drop_append_of_le_length (by rw [flat3_len, List.length_take]; omega), List.drop_of_length_le (by rw [flat3_len, List.length_take]; omega)]
    rfl
  · rw [List.drop_of_length_le (by rw [flat3_len]; omega), List.drop_of_length_le (by omega)]; rfl
theorem VR.cut (h : VR w A n l) {g cap : Nat} (hg : g ≤ n) (hc : n ≤ cap) : VR w (if cap = g then A else A.map (·.add (g * 3))) (n - g) (l.drop g) := by
  have := Reads.cut h hg hc
  rwa [flat3_drop] at this
theorem VR.nil_ : VR w A 0 [] := ⟨by simp [flat3], fun h => absurd h (by omega)⟩
end
theorem own_VR {w0 : World} {B e n c : Nat} {A : Option Addr} {l : List V3} (h : w0.ownsRow B e 3 (.slice A n c) n (flat3 l)) : VR w0 A n l := Reads.of_own h
theorem own3_len {w0 : World} {B e n : Nat} {v : Value} {l : List V3} (h : w0.ownsRow B e 3 v n (flat3 l)) : l.length = n := by have := h.1; rw [flat3_len] at this; omega
end Go.Proofs.Ytjlfdkkaljlmjaa
