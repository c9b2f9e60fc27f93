/- Rows of structs of three integers that the call made: reading and storing. -/
import Derived.Test.YtjlfdkkaljlmjaaV3
import Derived.Test.YtjlfdkkaljlmjaaRegion
namespace Go.Proofs.Ytjlfdkkaljlmjaa
open Go.RowKit
theorem own3_at {w : World} {B e n g cap : Nat} {l : List V3} (h : w.ownsRow B e 3 (.slice (some ⟨g, 0, none⟩) n cap) n (flat3 l)) {j : Nat} {p : V3} (hp : l[j]? = some p) :
    w.cell? ⟨g, j * 3, none⟩ = some (.int .i64 p.a) ∧ w.cell? ⟨g, j * 3 + 1, none⟩ = some (.int .i64 p.b) ∧ w.cell? ⟨g, j * 3 + 2, none⟩ = some (.int .i64 p.c) := by
  obtain ⟨h1, h2, h3⟩ := flat3_at l j p hp
  have hl : (flat3 l).length = n * 3 := h.1
  have hb := (List.getElem?_eq_some_iff.1 h3).1
  refine ⟨?_, ?_, ?_⟩
  · rw [h.cellAt _ (by omega)]; exact h1
  · rw [h.cellAt _ (by omega)]; exact h2
  · rw [h.cellAt _ (by omega)]; exact h3
theorem flat3_sets : ∀ (l : List V3) (j : Nat) (a b c : Int), j < l.length → (((flat3 l).set (j * 3) (.int .i64 a)).set (j * 3 + 1) (.int .i64 b)).set (j * 3 + 2) (.int .i64 c) = flat3 (l.set j ⟨a, b, c⟩) := by
  intro l
  induction l with
  | nil => intro j a b c h; simp at h
  | cons q r ih =>
    intro j a b c h
    have e : flat3 (q :: r) = .int .i64 q.a :: .int .i64 q.b :: .int .i64 q.c :: flat3 r := rfl
    cases j with
    | zero => rfl
    | succ j =>
      rw [e, List.set_cons_succ, show (j + 1) * 3 = j * 3 + 3 by omega]
      have := ih j a b c (by simpa using h)
      simp only [List.set_cons_succ]
      rw [this]
      rfl
theorem own3_set {w : World} {B e n g cap : Nat} {l : List V3} (h : w.ownsRow B e 3 (.slice (some ⟨g, 0, none⟩) n cap) n (flat3 l)) (j : Nat) (hj : j < n) (a b c : Int) :
    (((w.setCell ⟨g, j * 3, none⟩ (.int .i64 a)).setCell ⟨g, j * 3 + 1, none⟩ (.int .i64 b)).setCell ⟨g, j * 3 + 2, none⟩ (.int .i64 c)).ownsRow B e 3 (.slice (some ⟨g, 0, none⟩) n cap) n (flat3 (l.set j ⟨a, b, c⟩)) := by
  rw [← flat3_sets l j a b c (by have := own3_len h; omega)]
  exact (((h.stored (j * 3) (.int .i64 a)).1).stored (j * 3 + 1) (.int .i64 b)).1.stored (j * 3 + 2) (.int .i64 c) |>.1
theorem own3_set1 {w : World} {B e n g cap : Nat} {l : List V3} (h : w.ownsRow B e 3 (.slice (some ⟨g, 0, none⟩) n cap) n (flat3 l)) (j : Nat) (hj : j < n) (k : Nat) (hk : k < 3) (a : Int) :
    ∃ l', (w.setCell ⟨g, j * 3 + k, none⟩ (.int .i64 a)).ownsRow B e 3 (.slice (some ⟨g, 0, none⟩) n cap) n (flat3 l') := by
  have hl := own3_len h
  have hset := (h.stored (j * 3 + k) (.int .i64 a)).1
  obtain ⟨p, hp⟩ : ∃ p, l[j]? = some p := ⟨_, List.getElem?_eq_getElem (by omega)⟩
  obtain ⟨h1, h2, h3⟩ := flat3_at l j p hp
  have hf := (List.getElem?_eq_some_iff.1 h3).1
  have key : ∀ (l0 : List Value) (i : Nat) (u : Value), l0[i]? = some u → l0.set i u = l0 := by
    intro l0 i u hu
    obtain ⟨hi, rfl⟩ := List.getElem?_eq_some_iff.1 hu
    exact List.set_getElem_self hi
  have hk3 : k = 0 ∨ k = 1 ∨ k = 2 := by omega
  rcases hk3 with rfl | rfl | rfl
  · refine ⟨l.set j ⟨a, p.b, p.c⟩, ?_⟩
    rw [← flat3_sets l j a p.b p.c (by omega), key _ (j * 3 + 2) _ (by rw [List.getElem?_set_ne (by omega), List.getElem?_set_ne (by omega)]; exact h3)]
    rw [key _ (j * 3 + 1) _ (by rw [List.getElem?_set_ne (by omega)]; exact h2)]
    exact hset
  · refine ⟨l.set j ⟨p.a, a, p.c⟩, ?_⟩
    rw [← flat3_sets l j p.a a p.c (by omega), key _ (j * 3 + 2) _ (by rw [List.getElem?_set_ne (by omega), List.getElem?_set_ne (by omega)]; exact h3)]
    rw [key _ (j * 3) _ h1]
    exact hset
  · refine ⟨l.set j ⟨p.a, p.b, a⟩, ?_⟩
    rw [← flat3_sets l j p.a p.b a (by omega), key _ (j * 3) _ h1, key _ (j * 3 + 1) _ h2]
    exact hset
end Go.Proofs.Ytjlfdkkaljlmjaa
