/- Late items, plainly and in memory. -/
import Derived.Test.YtlljanbhbnempaaTlG
import Derived.Test.YtlljanbhbnempaaTlSolve
namespace Go.Proofs.Ytlljanbhbnempaa
open Go.RowKit
namespace Tl
/-- The items from a place on, up to another one, come some rounds later. -/
def lateTo (l : List IT) (a b i : Nat) : List IT := l.mapIdx fun x p => if a ≤ x ∧ x < i then { p with rd := p.rd + b } else p
theorem lateTo_len (l : List IT) (a b i : Nat) : (lateTo l a b i).length = l.length := by simp [lateTo]
theorem lateTo_get (l : List IT) (a b i x : Nat) : (lateTo l a b i)[x]? = l[x]?.map fun p => if a ≤ x ∧ x < i then { p with rd := p.rd + b } else p := by
  unfold lateTo
  rw [List.getElem?_mapIdx]
theorem lateTo_start (l : List IT) (a b : Nat) : lateTo l a b a = l := by
  refine List.ext_getElem? fun x => ?_
  rw [lateTo_get]
  cases l[x]? with
  | none => rfl
  | some p =>
    simp only [Option.map_some]
    rw [if_neg (by omega)]
theorem lateTo_succ (l : List IT) (a b i : Nat) (hai : a ≤ i) (p : IT) (hp : (lateTo l a b i)[i]? = some p) : (lateTo l a b i).set i { p with rd := p.rd + b } = lateTo l a b (i + 1) := by
  refine List.ext_getElem? fun x => ?_
  rw [List.getElem?_set, lateTo_len, lateTo_get, lateTo_get]
  rw [lateTo_get] at hp
  by_cases e : i = x
  · subst e
    cases hl : l[i]? with
    | none => rw [hl] at hp; cases hp
    | some q =>
      rw [hl] at hp
      have hlt := (List.getElem?_eq_some_iff.1 hl).1
      rw [if_pos rfl, if_pos hlt]
      simp only [Option.map_some, Option.some.injEq] at hp ⊢
      rw [if_neg (by omega)] at hp
      rw [if_pos ⟨hai, by omega⟩, ← hp]
  · rw [if_neg e]
    cases l[x]? with
    | none => rfl
    | some q =>
      simp only [Option.map_some, Option.some.injEq]
      by_cases h : a ≤ x ∧ x < i
      · rw [if_pos h, if_pos ⟨h.1, by omega⟩]
      · rw [if_neg h, if_neg (by omega)]
theorem lateTo_it (l : List IT) (a b i x : Nat) (hx : x < l.length) : it (lateTo l a b i) x = if a ≤ x ∧ x < i then { it l x with rd := (it l x).rd + b } else it l x := by
  unfold it
  rw [List.getD_eq_getElem?_getD, lateTo_get, List.getD_eq_getElem?_getD, List.getElem?_eq_getElem hx]
  rfl
theorem it_out {l : List IT} {x : Nat} (h : l.length ≤ x) : it l x = itZ := by
  unfold it
  rw [List.getD_eq_getElem?_getD, List.getElem?_eq_none h]
  rfl
theorem lateTo_late (l : List IT) (a b i : Nat) : Late l (lateTo l a b i) := by
  have key : ∀ x, it (lateTo l a b i) x = it l x ∨ it (lateTo l a b i) x = { it l x with rd := (it l x).rd + b } := by
    intro x
    rcases Nat.lt_or_ge x l.length with hx | hx
    · rw [lateTo_it l a b i x hx]
      split
      · exact .inr rfl
      · exact .inl rfl
    · rw [it_out hx, it_out (by rw [lateTo_len]; exact hx)]
      exact .inl rfl
  refine ⟨(lateTo_len l a b i).symm, fun x => ?_, fun x => ?_, fun x => ?_⟩
  · rcases key x with e | e <;> rw [e]
  · rcases key x with e | e <;> rw [e]
  · rcases key x with e | e <;> rw [e]
    · exact Nat.le_refl _
    · exact Nat.le_add_right _ _
theorem made_ok {l : List IT} {r : Nat} (h : MadeI l r) (hr : r ≤ 12) (hl : l.length ≤ 96) : JobOk l 12 := by
  refine ⟨hl, Nat.le_refl _, fun x hx => ?_, fun x y hxy hy => ?_⟩
  · obtain ⟨h1, h2, h3, h4⟩ := h.its x hx
    exact ⟨by omega, by omega, by omega, h4⟩
  · have := List.pairwise_iff_getElem.1 h.rds x y (by omega) hy hxy
    unfold it
    rw [List.getD_eq_getElem?_getD, List.getD_eq_getElem?_getD, List.getElem?_eq_getElem (by omega), List.getElem?_eq_getElem hy]
    exact this
theorem late_ok {l : List IT} {a b : Nat} (h : MadeI l 4) (hb : b ≤ 3) (hl : l.length ≤ 96) : JobOk (lateTo l a b l.length) 12 := by
  have h0 := made_ok h (by omega) hl
  refine ⟨by rw [lateTo_len]; exact hl, Nat.le_refl _, fun p hp => ?_, fun x y hxy hy => ?_⟩
  · obtain ⟨x, hx, e⟩ := List.getElem_of_mem hp
    rw [lateTo_len] at hx
    have h1 : it (lateTo l a b l.length) x = p := by
      unfold it
      rw [List.getD_eq_getElem?_getD, List.getElem?_eq_getElem (by rw [lateTo_len]; exact hx), e]
      rfl
    obtain ⟨q1, q2, q3, q4⟩ := h.its _ (it_mem hx)
    rw [lateTo_it l a b _ x hx] at h1
    rw [← h1]
    split
    · exact ⟨by show (it l x).tr ≤ 15; omega, by show (it l x).bl ≤ 31; omega, by show (it l x).rd + b ≤ 12; omega, q4⟩
    · exact ⟨by omega, by omega, by omega, q4⟩
  · rw [lateTo_len] at hy
    have h1 := h0.mono x y hxy hy
    rw [lateTo_it l a b _ x (by omega), lateTo_it l a b _ y hy]
    by_cases hx : a ≤ x ∧ x < l.length
    · rw [if_pos hx, if_pos ⟨by omega, hy⟩]
      show (it l x).rd + b ≤ (it l y).rd + b
      omega
    · rw [if_neg hx]
      split
      · show (it l x).rd ≤ (it l y).rd + b
        omega
      · exact h1
end Tl
theorem flat4_set (l : List IT) : ∀ (i : Nat) (p : IT) (r : Nat), l[i]? = some p → (flat4 l).set (i * 4 + 2) (.int .i64 (r : Int)) = flat4 (l.set i { p with rd := r }) := by
  induction l with
  | nil => intro i p r h; simp at h
  | cons q t ih =>
    intro i p r h
    cases i with
    | zero =>
      simp at h
      subst h
      rfl
    | succ i =>
      have h2 := ih i p r (by simpa using h)
      rw [List.set_cons_succ, flat4_cons, flat4_cons, ← h2, show (i + 1) * 4 + 2 = (i * 4 + 2) + 1 + 1 + 1 + 1 by omega]
      rfl
end Go.Proofs.Ytlljanbhbnempaa
