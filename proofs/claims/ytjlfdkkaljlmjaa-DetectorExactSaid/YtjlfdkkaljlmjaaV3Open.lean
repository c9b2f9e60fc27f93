/- Slices of structs of three integers that came in: what they read as. (The first theorem is the guide's extra-structs, section 1, given to be copied.) -/
import Derived.Test.YtjlfdkkaljlmjaaV3
import Derived.Deep.Slices
import Derived.Deep.Fields
import Derived.ChangeSame
namespace Go.Proofs.Ytjlfdkkaljlmjaa
open Go.RowKit Go.ChangeShapes Go.WideShapes Go.Deep
section
variable {H : Type} {enc : TypeId × Value → H} {P : Program} {w : World} {base : Nat} {spare : Nat → Bool} {held : Bool}
theorem open_slice_fields {t e : TypeId} {fs : Array Field} {fuel : Nat} {cs : List Value} {x : DataW H × List MemPlace} (ht : P.underlying t = some (.slice e)) (he : P.underlying e = some (.struct fs))
    (hone : oneCellFields P fs = true) (hC : P.cellsOf e = fs.size) (h : DataW.trod enc P w base spare held fuel t cs = some x) :
    (cs = [.slice none 0 0] ∧ x = (.nil, [])) ∨
    ∃ (a : Addr) (len cap m : Nat) (D : Nat → DataW H) (Pl : Nat → List MemPlace), cs = [.slice (some a) len cap] ∧ base ≤ a.block ∧ len ≤ cap ∧ cap ≤ maxLen ∧ m = (if spare a.block then cap else len) ∧
      x = (.slice ((List.range len).map D) ((List.range (m - len)).map fun j => D (len + j)), MemPlace.row a (m * fs.size) ++ (List.range m).flatMap Pl) ∧
      ∀ i, i < m → ∃ (ys : List (DataW H × List MemPlace)) (n : Nat), D i = .agg (ys.map (·.1)) ∧ Pl i = ys.flatMap (·.2) ∧ ys.length = fs.size ∧
        ∀ (j : Nat) (f : Field), fs[j]? = some f → ∃ (v : Value) (y : DataW H × List MemPlace), w.cell? (a.add (i * fs.size + j)) = some v ∧ ys[j]? = some y ∧ DataW.trod enc P w base spare held n f.type [v] = some y := by
  rcases open_slice ht h with h0 | ⟨a, len, cap, m, n, D, Pl, hcs, hb, hl, hm, hmm, hx, hi⟩
  · exact .inl h0
  · refine .inr ⟨a, len, cap, m, D, Pl, hcs, hb, hl, hm, hmm, by rw [hC] at hx; exact hx, fun i him => ?_⟩
    obtain ⟨cs', hc, ht'⟩ := hi i him
    rw [hC] at hc
    obtain ⟨ys, n', hn', hy, hlen, hyl, hf⟩ := DataW.trod_struct he ht'
    obtain ⟨_, hcl, hat⟩ := World.cells?_some hc
    simp only [Prod.mk.injEq] at hy
    refine ⟨ys, n', hy.1, hy.2, hyl, fun j f hj => ?_⟩
    obtain ⟨ho, hk⟩ := hone_of hone j f hj
    have hjl : j < fs.size := (Array.getElem?_eq_some_iff.1 hj).1
    have hcell := hat j hjl
    have hv : cs'[j]? = some (cs'[j]'(by omega)) := List.getElem?_eq_getElem (by omega)
    have h1 := hf j f hj
    rw [ho, hk] at h1
    have hone' : (cs'.drop j).take 1 = [cs'[j]'(by omega)] := by
      rw [List.drop_eq_getElem_cons (by omega)]
      rfl
    rw [hone'] at h1
    have hys : ys[j]? = some (ys[j]'(by omega)) := List.getElem?_eq_getElem (by omega)
    refine ⟨_, _, ?_, hys, h1.trans hys⟩
    rw [← Go.Deep.add_add, hcell, hv]
end

theorem list_of {α : Type} (Q : Nat → α → Prop) : ∀ n : Nat, (∀ i, i < n → ∃ x, Q i x) → ∃ l : List α, l.length = n ∧ ∀ i x, l[i]? = some x → Q i x := by
  intro n
  induction n with
  | zero => intro _; exact ⟨[], rfl, by simp⟩
  | succ n ih =>
    intro h
    obtain ⟨l, h1, h2⟩ := ih (fun i hi => h i (by omega))
    obtain ⟨x, hx⟩ := h n (by omega)
    refine ⟨l ++ [x], by simp [h1], fun i y hy => ?_⟩
    by_cases hi : i < n
    · rw [List.getElem?_append_left (by omega)] at hy
      exact h2 i y hy
    · rw [List.getElem?_append_right (by omega), h1] at hy
      have h0 : i = n := by
        have := (List.getElem?_eq_some_iff.1 hy).1
        simp at this; omega
      subst h0
      simp at hy
      subst hy
      exact hx
theorem flat3_getElem : ∀ (l : List V3) (j : Nat) (u : Value), (flat3 l)[j]? = some u → ∃ p, l[j / 3]? = some p ∧ (j % 3 = 0 ∧ u = .int .i64 p.a ∨ j % 3 = 1 ∧ u = .int .i64 p.b ∨ j % 3 = 2 ∧ u = .int .i64 p.c) := by
  intro l j u h
  have hj : j < (flat3 l).length := (List.getElem?_eq_some_iff.1 h).1
  rw [flat3_len] at hj
  have hi : j / 3 < l.length := by omega
  have hp : l[j / 3]? = some l[j / 3] := List.getElem?_eq_getElem hi
  obtain ⟨h1, h2, h3⟩ := flat3_at l (j / 3) _ hp
  refine ⟨_, hp, ?_⟩
  have e : j % 3 = 0 ∨ j % 3 = 1 ∨ j % 3 = 2 := by omega
  rcases e with e | e | e
  · rw [show j / 3 * 3 = j by omega, h] at h1; exact .inl ⟨e, Option.some.inj h1⟩
  · rw [show j / 3 * 3 + 1 = j by omega, h] at h2; exact .inr (.inl ⟨e, Option.some.inj h2⟩)
  · rw [show j / 3 * 3 + 2 = j by omega, h] at h3; exact .inr (.inr ⟨e, Option.some.inj h3⟩)
section
variable {H : Type} {enc : TypeId × Value → H} {P : Program} {w : World} {base : Nat} {spare : Nat → Bool} {held : Bool}
theorem open_V3c {t e : TypeId} {f0 f1 f2 : Field} {fuel : Nat} {A : Option Addr} {n c : Nat} {x : DataW H × List MemPlace} (ht : P.underlying t = some (.slice e)) (he : P.underlying e = some (.struct #[f0, f1, f2]))
    (hone : oneCellFields P #[f0, f1, f2] = true) (hC : P.cellsOf e = 3) (u0 : P.underlying f0.type = some (.int .i64)) (u1 : P.underlying f1.type = some (.int .i64)) (u2 : P.underlying f2.type = some (.int .i64))
    (h : DataW.trod enc P w base spare held fuel t [.slice A n c] = some x) : ∃ l, VR w A n l ∧ n ≤ maxLen ∧ n ≤ c ∧ c ≤ maxLen := by
  rcases open_slice_fields ht he hone (by rw [hC]; rfl) h with ⟨hcs, _⟩ | ⟨a, len, cap, m, D, Pl, hcs, hb, hl, hm, hmm, _, hi⟩
  · simp at hcs
    obtain ⟨rfl, rfl, rfl⟩ := hcs
    exact ⟨[], VR.nil_, by simp [maxLen], by omega, by simp [maxLen]⟩
  · simp at hcs
    obtain ⟨rfl, rfl, rfl⟩ := hcs
    have hnm : n ≤ m := by rw [hmm]; split <;> omega
    have key : ∀ i, i < n → ∃ p : V3, w.cell? (a.add (i * 3)) = some (.int .i64 p.a) ∧ w.cell? (a.add (i * 3 + 1)) = some (.int .i64 p.b) ∧ w.cell? (a.add (i * 3 + 2)) = some (.int .i64 p.c) := by
      intro i hin
      obtain ⟨ys, k, _, _, _, hf⟩ := hi i (by omega)
      obtain ⟨v0, y0, g0, _, t0⟩ := hf 0 f0 rfl
      obtain ⟨v1, y1, g1, _, t1⟩ := hf 1 f1 rfl
      obtain ⟨v2, y2, g2, _, t2⟩ := hf 2 f2 rfl
      obtain ⟨n0, e0, _, _⟩ := DataW.trod_int u0 t0
      obtain ⟨n1, e1, _, _⟩ := DataW.trod_int u1 t1
      obtain ⟨n2, e2, _, _⟩ := DataW.trod_int u2 t2
      simp at e0 e1 e2
      subst e0; subst e1; subst e2
      exact ⟨⟨n0, n1, n2⟩, g0, g1, g2⟩
    obtain ⟨l, h1, h2⟩ := list_of _ n key
    refine ⟨l, ⟨by rw [flat3_len, h1], fun hn => ⟨a, rfl, ?_, fun j u hu => ?_⟩⟩, by omega, by omega, by omega⟩
    · obtain ⟨p, g0, _, _⟩ := key 0 hn
      have := cell_lt g0
      rwa [block_of_add] at this
    · obtain ⟨p, hp, hc⟩ := flat3_getElem l j u hu
      obtain ⟨q0, q1, q2⟩ := h2 _ p hp
      rcases hc with ⟨e, rfl⟩ | ⟨e, rfl⟩ | ⟨e, rfl⟩
      · rw [show j = j / 3 * 3 by omega]; exact q0
      · rw [show j = j / 3 * 3 + 1 by omega]; exact q1
      · rw [show j = j / 3 * 3 + 2 by omega]; exact q2
theorem open_V3 {t e : TypeId} {f0 f1 f2 : Field} {fuel : Nat} {A : Option Addr} {n c : Nat} {x : DataW H × List MemPlace} (ht : P.underlying t = some (.slice e)) (he : P.underlying e = some (.struct #[f0, f1, f2]))
    (hone : oneCellFields P #[f0, f1, f2] = true) (hC : P.cellsOf e = 3) (u0 : P.underlying f0.type = some (.int .i64)) (u1 : P.underlying f1.type = some (.int .i64)) (u2 : P.underlying f2.type = some (.int .i64))
    (h : DataW.trod enc P w base spare held fuel t [.slice A n c] = some x) : ∃ l, VR w A n l ∧ n ≤ maxLen :=
  (open_V3c ht he hone hC u0 u1 u2 h).imp fun _ h => ⟨h.1, h.2.1⟩
end
theorem int_under3 : Try.prog.underlying 3 = some (.int .i64) := by kernel_rfl
theorem pulse_under : Try.prog.underlying 41 = some (.struct #[⟨"Detector", 3, 0, false, "", "", 0⟩, ⟨"Time", 3, 1, false, "", "", 8⟩, ⟨"Direction", 3, 2, false, "", "", 16⟩]) := by kernel_rfl
theorem border_under : Try.prog.underlying 24 = some (.struct #[⟨"Section", 3, 0, false, "", "", 0⟩, ⟨"Detector", 3, 1, false, "", "", 8⟩, ⟨"Sense", 3, 2, false, "", "", 16⟩]) := by kernel_rfl
section
variable {H : Type} {enc : TypeId × Value → H} {w : World} {base : Nat} {spare : Nat → Bool} {held : Bool}
theorem open_pulses {fuel : Nat} {A : Option Addr} {n c : Nat} {x : DataW H × List MemPlace} (h : DataW.trod enc Try.prog w base spare held fuel 35 [.slice A n c] = some x) : ∃ l, VR w A n l ∧ n ≤ maxLen :=
  open_V3 Try.underlying35 pulse_under (by kernel_rfl) (by kernel_rfl) int_under3 int_under3 int_under3 h
theorem open_pulses_c {fuel : Nat} {A : Option Addr} {n c : Nat} {x : DataW H × List MemPlace} (h : DataW.trod enc Try.prog w base spare held fuel 35 [.slice A n c] = some x) : ∃ l, VR w A n l ∧ n ≤ maxLen ∧ n ≤ c ∧ c ≤ maxLen :=
  open_V3c Try.underlying35 pulse_under (by kernel_rfl) (by kernel_rfl) int_under3 int_under3 int_under3 h
theorem open_borders {fuel : Nat} {A : Option Addr} {n c : Nat} {x : DataW H × List MemPlace} (h : DataW.trod enc Try.prog w base spare held fuel 22 [.slice A n c] = some x) : ∃ l, VR w A n l ∧ n ≤ maxLen :=
  open_V3 Try.underlying22 border_under (by kernel_rfl) (by kernel_rfl) int_under3 int_under3 int_under3 h
end
end Go.Proofs.Ytjlfdkkaljlmjaa
