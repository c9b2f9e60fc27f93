/- A slice of elements that came in. (Its theorem open_slice_fields is the guide's extra-structs, section 1, given to be copied.) -/
import Derived.Test.YtmjdjcpmkdninaaDoorLyTied
import Derived.Test.YtmjdjcpmkdninaaDoorLyWr
namespace Go.Proofs.YtmjdjcpmkdninaaDoor
section
open Go.RowKit Go.ChangeShapes Go.WideShapes Go.Deep
section
variable {H : Type} {enc : TypeId × Value → H} {P : Program} {w : World} {base : Nat} {spare : Nat → Bool} {held : Bool}
theorem open_slice_fields {t e : TypeId} {fs : Array Field} {fuel : Nat} {cs : List Value} {x : DataW H × List MemPlace} (ht : P.underlying t = some (.slice e)) (he : P.underlying e = some (.struct fs))
    (hone : oneCellFields P fs = true) (hC : P.cellsOf e = fs.size) (h : DataW.trod enc P w base spare held fuel t cs = some x) :
    (cs = [.slice none 0 0] ∧ x = (.nil, [])) ∨
    ∃ (a : Addr) (len cap m : Nat) (D : Nat → DataW H) (Pl : Nat → List MemPlace), cs = [.slice (some a) len cap] ∧ base ≤ a.block ∧ len ≤ cap ∧ cap ≤ maxLen ∧ m = (if spare a.block then cap else len) ∧
      x = (.slice ((List.range len).map D) ((List.range (m - len)).map fun j => D (len + j)), MemPlace.row a (m * fs.size) ++ (List.range m).flatMap Pl) ∧
      ∀ i, i < m → ∃ (ys : List (DataW H × List MemPlace)) (n : Nat), D i = .agg (ys.map (·.1)) ∧ Pl i = ys.flatMap (·.2) ∧ ys.length = fs.size ∧
        ∀ (j : Nat) (f : Field), fs[j]? = some f → ∃ (v : Value) (y : DataW H × List MemPlace), w.cell? (a.add (i * fs.size + j)) = some v ∧ ys[j]? = some y ∧ DataW.trod enc P w base spare held n f.type [v] = some y := by
  rcases open_slice ht h with h0 | ⟨a, len, cap, m, n, D, Pl, hcs, hb, hl, hm, hmm, hx, hi⟩
  · exact .inl h0
  · refine .inr ⟨a, len, cap, m, D, Pl, hcs, hb, hl, hm, hmm, by rw [hC] at hx; exact hx, fun i him => ?_⟩
    obtain ⟨cs', hc, ht'⟩ := hi i him
    rw [hC] at hc
    obtain ⟨ys, n', hn', hy, hlen, hyl, hf⟩ := DataW.trod_struct he ht'
    obtain ⟨_, hcl, hat⟩ := World.cells?_some hc
    simp only [Prod.mk.injEq] at hy
    refine ⟨ys, n', hy.1, hy.2, hyl, fun j f hj => ?_⟩
    obtain ⟨ho, hk⟩ := hone_of hone j f hj
    have hjl : j < fs.size := (Array.getElem?_eq_some_iff.1 hj).1
    have hcell := hat j hjl
    have hv : cs'[j]? = some (cs'[j]'(by omega)) := List.getElem?_eq_getElem (by omega)
    have h1 := hf j f hj
    rw [ho, hk] at h1
    have hone' : (cs'.drop j).take 1 = [cs'[j]'(by omega)] := by
      rw [List.drop_eq_getElem_cons (by omega)]
      rfl
    rw [hone'] at h1
    have hys : ys[j]? = some (ys[j]'(by omega)) := List.getElem?_eq_getElem (by omega)
    refine ⟨_, _, ?_, hys, h1.trans hys⟩
    rw [← Go.Deep.add_add, hcell, hv]
end

theorem list_of {α : Type} (Q : Nat → α → Prop) : ∀ n : Nat, (∀ i, i < n → ∃ x, Q i x) → ∃ l : List α, l.length = n ∧ ∀ i x, l[i]? = some x → Q i x := by
  intro n
  induction n with
  | zero => intro _; exact ⟨[], rfl, by simp⟩
  | succ n ih =>
    intro h
    obtain ⟨l, h1, h2⟩ := ih (fun i hi => h i (by omega))
    obtain ⟨x, hx⟩ := h n (by omega)
    refine ⟨l ++ [x], by simp [h1], fun i y hy => ?_⟩
    by_cases hi : i < n
    · rw [List.getElem?_append_left (by omega)] at hy
      exact h2 i y hy
    · rw [List.getElem?_append_right (by omega), h1] at hy
      have h0 : i = n := by
        have := (List.getElem?_eq_some_iff.1 hy).1
        simp at this; omega
      subst h0
      simp at hy
      subst hy
      exact hx
theorem flat8_getElem : ∀ (l : List LE) (j : Nat) (u : Value), (flat8 l)[j]? = some u → ∃ p, l[j / 8]? = some p ∧ (cells8 p)[j % 8]? = some u := by
  intro l j u h
  have hj : j < (flat8 l).length := (List.getElem?_eq_some_iff.1 h).1
  rw [flat8_len] at hj
  have hp : l[j / 8]? = some l[j / 8] := List.getElem?_eq_getElem (by omega)
  have hc : (cells8 l[j / 8])[j % 8]? = some ((cells8 l[j / 8])[j % 8]'(by simp [cells8]; omega)) := List.getElem?_eq_getElem _
  have := flat8_at l (j / 8) _ hp (j % 8) _ hc
  rw [show j / 8 * 8 + j % 8 = j by omega, h] at this
  exact ⟨_, hp, by rw [hc, ← this]⟩
section
variable {H : Type} {enc : TypeId × Value → H} {P : Program} {w : World} {base : Nat} {spare : Nat → Bool} {held : Bool}
theorem open_LE {t e : TypeId} {f0 f1 f2 f3 f4 f5 f6 f7 : Field} {fuel : Nat} {A : Option Addr} {n c : Nat} {x : DataW H × List MemPlace} (ht : P.underlying t = some (.slice e)) (he : P.underlying e = some (.struct #[f0, f1, f2, f3, f4, f5, f6, f7]))
    (hone : oneCellFields P #[f0, f1, f2, f3, f4, f5, f6, f7] = true) (hC : P.cellsOf e = 8) (u0 : P.underlying f0.type = some (.int .i64)) (u1 : P.underlying f1.type = some .string) (u2 : P.underlying f2.type = some (.int .i64)) (u3 : P.underlying f3.type = some (.int .i64)) (u4 : P.underlying f4.type = some (.int .i64)) (u5 : P.underlying f5.type = some (.int .i64)) (u6 : P.underlying f6.type = some (.int .i64)) (u7 : P.underlying f7.type = some (.int .i64))
    (h : DataW.trod enc P w base spare held fuel t [.slice A n c] = some x) : ∃ l, LR w A n l ∧ n ≤ maxLen ∧ ∀ x ∈ l, LeWf x := by
  rcases open_slice_fields ht he hone (by rw [hC]; rfl) h with ⟨hcs, _⟩ | ⟨a, len, cap, m, D, Pl, hcs, hb, hl, hm, hmm, _, hi⟩
  · simp at hcs
    obtain ⟨rfl, rfl, rfl⟩ := hcs
    exact ⟨[], LR.nil_, by simp [maxLen], by simp⟩
  · simp at hcs
    obtain ⟨rfl, rfl, rfl⟩ := hcs
    have hnm : n ≤ m := by rw [hmm]; split <;> omega
    have key : ∀ i, i < n → ∃ p : LE, (∀ j u, (cells8 p)[j]? = some u → w.cell? (a.add (i * 8 + j)) = some u) ∧ LeWf p := by
      intro i hin
      obtain ⟨ys, k, _, _, _, hf⟩ := hi i (by omega)
      obtain ⟨v0, y0, g0, _, t0⟩ := hf 0 f0 rfl
      obtain ⟨v1, y1, g1, _, t1⟩ := hf 1 f1 rfl
      obtain ⟨v2, y2, g2, _, t2⟩ := hf 2 f2 rfl
      obtain ⟨v3, y3, g3, _, t3⟩ := hf 3 f3 rfl
      obtain ⟨v4, y4, g4, _, t4⟩ := hf 4 f4 rfl
      obtain ⟨v5, y5, g5, _, t5⟩ := hf 5 f5 rfl
      obtain ⟨v6, y6, g6, _, t6⟩ := hf 6 f6 rfl
      obtain ⟨v7, y7, g7, _, t7⟩ := hf 7 f7 rfl
      obtain ⟨n0, e0, _, _⟩ := DataW.trod_int u0 t0
      obtain ⟨n1, e1, _, hs1⟩ := DataW.trod_string u1 t1
      obtain ⟨n2, e2, _, hw2⟩ := DataW.trod_int u2 t2
      obtain ⟨n3, e3, _, hw3⟩ := DataW.trod_int u3 t3
      obtain ⟨n4, e4, _, _⟩ := DataW.trod_int u4 t4
      obtain ⟨n5, e5, _, _⟩ := DataW.trod_int u5 t5
      obtain ⟨n6, e6, _, _⟩ := DataW.trod_int u6 t6
      obtain ⟨n7, e7, _, _⟩ := DataW.trod_int u7 t7
      simp only [List.cons.injEq, and_true] at e0 e1 e2 e3 e4 e5 e6 e7
      subst e0; subst e1; subst e2; subst e3; subst e4; subst e5; subst e6; subst e7
      refine ⟨⟨n0, n1, n2, n3, n4, n5, n6, n7⟩, fun j u hu => ?_, ⟨hs1, hw2, hw3⟩⟩
      have hj : j < 8 := (List.getElem?_eq_some_iff.1 hu).1
      have hj6 : j = 0 ∨ j = 1 ∨ j = 2 ∨ j = 3 ∨ j = 4 ∨ j = 5 ∨ j = 6 ∨ j = 7 := by omega
      rcases hj6 with rfl | rfl | rfl | rfl | rfl | rfl | rfl | rfl
      · exact g0.trans hu
      · exact g1.trans hu
      · exact g2.trans hu
      · exact g3.trans hu
      · exact g4.trans hu
      · exact g5.trans hu
      · exact g6.trans hu
      · exact g7.trans hu
    obtain ⟨l, h1, h2⟩ := list_of _ n key
    refine ⟨l, ⟨by rw [flat8_len, h1], fun hn => ⟨a, rfl, ?_, fun j u hu => ?_⟩⟩, by omega, fun x hx => ?_⟩
    · obtain ⟨p, g, _⟩ := key 0 hn
      have := cell_lt (g 0 _ rfl)
      rwa [block_of_add] at this
    · obtain ⟨p, hp, hc⟩ := flat8_getElem l j u hu
      have := (h2 _ p hp).1 _ u hc
      rwa [show j / 8 * 8 + j % 8 = j by omega] at this
    · obtain ⟨i, hi'⟩ := List.mem_iff_getElem?.1 hx
      exact (h2 i x hi').2
end
theorem int_underL : Tryd.prog.underlying 3 = some (.int .i64) := by kernel_rfl
theorem str_underL : Tryd.prog.underlying 9 = some .string := by kernel_rfl
theorem le_under : Tryd.prog.underlying 48 = some (.struct #[⟨"Kind", 3, 0, false, "", "", 0⟩, ⟨"Name", 9, 1, false, "", "", 8⟩, ⟨"Parent", 3, 2, false, "", "", 24⟩, ⟨"Side", 3, 3, false, "", "", 32⟩, ⟨"Length", 3, 4, false, "", "", 40⟩, ⟨"Grade", 3, 5, false, "", "", 48⟩, ⟨"Curve", 3, 6, false, "", "", 56⟩, ⟨"Power", 3, 7, false, "", "", 64⟩]) := by kernel_rfl
theorem open_layout {H : Type} {enc : TypeId × Value → H} {w : World} {base : Nat} {spare : Nat → Bool} {held : Bool} {fuel : Nat} {A : Option Addr} {n c : Nat} {x : DataW H × List MemPlace} (h : DataW.trod enc Tryd.prog w base spare held fuel 22 [.slice A n c] = some x) : ∃ l, LR w A n l ∧ n ≤ maxLen ∧ ∀ x ∈ l, LeWf x :=
  open_LE Tryd.underlying22 le_under (by kernel_rfl) (by kernel_rfl) int_underL str_underL int_underL int_underL int_underL int_underL int_underL int_underL h
end
end Go.Proofs.YtmjdjcpmkdninaaDoor
