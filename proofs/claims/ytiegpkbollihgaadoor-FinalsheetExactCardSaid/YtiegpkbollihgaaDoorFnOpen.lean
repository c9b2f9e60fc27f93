/- A sheet that came in. (Its theorem open_slice_fields is the guide's extra-structs, section 1, given to be copied.) -/
import Derived.Test.YtiegpkbollihgaaDoorLyTied
import Derived.Test.YtiegpkbollihgaaDoorFnW7
import Derived.Lib.SmallJoins
namespace Go.Proofs.YtiegpkbollihgaaDoor
section
open Go.RowKit Go.ChangeShapes Go.WideShapes Go.Deep Go.Joins
section
variable {H : Type} {enc : TypeId × Value → H} {P : Program} {w : World} {base : Nat} {spare : Nat → Bool} {held : Bool}
theorem open_slice_fields {t e : TypeId} {fs : Array Field} {fuel : Nat} {cs : List Value} {x : DataW H × List MemPlace} (ht : P.underlying t = some (.slice e)) (he : P.underlying e = some (.struct fs))
    (hone : oneCellFields P fs = true) (hC : P.cellsOf e = fs.size) (h : DataW.trod enc P w base spare held fuel t cs = some x) :
    (cs = [.slice none 0 0] ∧ x = (.nil, [])) ∨
    ∃ (a : Addr) (len cap m : Nat) (D : Nat → DataW H) (Pl : Nat → List MemPlace), cs = [.slice (some a) len cap] ∧ base ≤ a.block ∧ len ≤ cap ∧ cap ≤ maxLen ∧ m = (if spare a.block then cap else len) ∧
      x = (.slice ((List.range len).map D) ((List.range (m - len)).map fun j => D (len + j)), MemPlace.row a (m * fs.size) ++ (List.range m).flatMap Pl) ∧
      ∀ i, i < m → ∃ (ys : List (DataW H × List MemPlace)) (n : Nat), D i = .agg (ys.map (·.1)) ∧ Pl i = ys.flatMap (·.2) ∧ ys.length = fs.size ∧
        ∀ (j : Nat) (f : Field), fs[j]? = some f → ∃ (v : Value) (y : DataW H × List MemPlace), w.cell? (a.add (i * fs.size + j)) = some v ∧ ys[j]? = some y ∧ DataW.trod enc P w base spare held n f.type [v] = some y := by
  rcases open_slice ht h with h0 | ⟨a, len, cap, m, n, D, Pl, hcs, hb, hl, hm, hmm, hx, hi⟩
  · exact .inl h0
  · refine .inr ⟨a, len, cap, m, D, Pl, hcs, hb, hl, hm, hmm, by rw [hC] at hx; exact hx, fun i him => ?_⟩
    obtain ⟨cs', hc, ht'⟩ := hi i him
    rw [hC] at hc
    obtain ⟨ys, n', hn', hy, hlen, hyl, hf⟩ := DataW.trod_struct he ht'
    obtain ⟨_, hcl, hat⟩ := World.cells?_some hc
    simp only [Prod.mk.injEq] at hy
    refine ⟨ys, n', hy.1, hy.2, hyl, fun j f hj => ?_⟩
    obtain ⟨ho, hk⟩ := hone_of hone j f hj
    have hjl : j < fs.size := (Array.getElem?_eq_some_iff.1 hj).1
    have hcell := hat j hjl
    have hv : cs'[j]? = some (cs'[j]'(by omega)) := List.getElem?_eq_getElem (by omega)
    have h1 := hf j f hj
    rw [ho, hk] at h1
    have hone' : (cs'.drop j).take 1 = [cs'[j]'(by omega)] := by
      rw [List.drop_eq_getElem_cons (by omega)]
      rfl
    rw [hone'] at h1
    have hys : ys[j]? = some (ys[j]'(by omega)) := List.getElem?_eq_getElem (by omega)
    refine ⟨_, _, ?_, hys, h1.trans hys⟩
    rw [← Go.Deep.add_add, hcell, hv]
end

theorem list_of {α : Type} (Q : Nat → α → Prop) : ∀ n : Nat, (∀ i, i < n → ∃ x, Q i x) → ∃ l : List α, l.length = n ∧ ∀ i x, l[i]? = some x → Q i x := by
  intro n
  induction n with
  | zero => intro _; exact ⟨[], rfl, by simp⟩
  | succ n ih =>
    intro h
    obtain ⟨l, h1, h2⟩ := ih (fun i hi => h i (by omega))
    obtain ⟨x, hx⟩ := h n (by omega)
    refine ⟨l ++ [x], by simp [h1], fun i y hy => ?_⟩
    by_cases hi : i < n
    · rw [List.getElem?_append_left (by omega)] at hy
      exact h2 i y hy
    · rw [List.getElem?_append_right (by omega), h1] at hy
      have h0 : i = n := by
        have := (List.getElem?_eq_some_iff.1 hy).1
        simp at this; omega
      subst h0
      simp at hy
      subst hy
      exact hx
theorem flatW_getElem : ∀ (l : List WG) (j : Nat) (u : Value), (flatW l)[j]? = some u → ∃ p, l[j / 8]? = some p ∧ (cellsW p)[j % 8]? = some u := by
  intro l j u h
  have hj : j < (flatW l).length := (List.getElem?_eq_some_iff.1 h).1
  rw [flatW_len] at hj
  have hp : l[j / 8]? = some l[j / 8] := List.getElem?_eq_getElem (by omega)
  have hc : (cellsW l[j / 8])[j % 8]? = some ((cellsW l[j / 8])[j % 8]'(by simp [cellsW]; omega)) := List.getElem?_eq_getElem _
  have := flatW_at l (j / 8) _ hp (j % 8) _ hc
  rw [show j / 8 * 8 + j % 8 = j by omega, h] at this
  exact ⟨_, hp, by rw [hc, ← this]⟩
theorem flatS_getElem : ∀ (l : List SO) (j : Nat) (u : Value), (flatS l)[j]? = some u → ∃ p, l[j / 3]? = some p ∧ (cellsS p)[j % 3]? = some u := by
  intro l j u h
  have hj : j < (flatS l).length := (List.getElem?_eq_some_iff.1 h).1
  rw [flatS_len] at hj
  have hp : l[j / 3]? = some l[j / 3] := List.getElem?_eq_getElem (by omega)
  have hc : (cellsS l[j / 3])[j % 3]? = some ((cellsS l[j / 3])[j % 3]'(by simp [cellsS]; omega)) := List.getElem?_eq_getElem _
  have := flatS_at l (j / 3) _ hp (j % 3) _ hc
  rw [show j / 3 * 3 + j % 3 = j by omega, h] at this
  exact ⟨_, hp, by rw [hc, ← this]⟩
section
variable {H : Type} {enc : TypeId × Value → H} {P : Program} {w : World} {base : Nat} {spare : Nat → Bool} {held : Bool}
theorem open_WG {t e : TypeId} {f0 f1 f2 f3 f4 f5 f6 f7 : Field} {fuel : Nat} {A : Option Addr} {n c : Nat} {x : DataW H × List MemPlace} (ht : P.underlying t = some (.slice e)) (he : P.underlying e = some (.struct #[f0, f1, f2, f3, f4, f5, f6, f7]))
    (hone : oneCellFields P #[f0, f1, f2, f3, f4, f5, f6, f7] = true) (hC : P.cellsOf e = 8) (u0 : P.underlying f0.type = some (.string)) (u1 : P.underlying f1.type = some (.int .i64)) (u2 : P.underlying f2.type = some (.int .i64)) (u3 : P.underlying f3.type = some (.int .i64)) (u4 : P.underlying f4.type = some (.int .i64)) (u5 : P.underlying f5.type = some (.int .i64)) (u6 : P.underlying f6.type = some (.bool)) (u7 : P.underlying f7.type = some (.string))
    (h : DataW.trod enc P w base spare held fuel t [.slice A n c] = some x) : ∃ l, WR w A n l ∧ n ≤ maxLen ∧ ∀ x ∈ l, x.nu.size ≤ maxLen ∧ x.de.size ≤ maxLen := by
  rcases open_slice_fields ht he hone (by rw [hC]; rfl) h with ⟨hcs, _⟩ | ⟨a, len, cap, m, D, Pl, hcs, hb, hl, hm, hmm, _, hi⟩
  · simp at hcs
    obtain ⟨rfl, rfl, rfl⟩ := hcs
    exact ⟨[], WR.nil_, by simp [maxLen], by simp⟩
  · simp at hcs
    obtain ⟨rfl, rfl, rfl⟩ := hcs
    have hnm : n ≤ m := by rw [hmm]; split <;> omega
    have key : ∀ i, i < n → ∃ p : WG, (∀ j u, (cellsW p)[j]? = some u → w.cell? (a.add (i * 8 + j)) = some u) ∧ p.nu.size ≤ maxLen ∧ p.de.size ≤ maxLen := by
      intro i hin
      obtain ⟨ys, k, _, _, _, hf⟩ := hi i (by omega)
      obtain ⟨v0, y0, g0, _, t0⟩ := hf 0 f0 rfl
      obtain ⟨v1, y1, g1, _, t1⟩ := hf 1 f1 rfl
      obtain ⟨v2, y2, g2, _, t2⟩ := hf 2 f2 rfl
      obtain ⟨v3, y3, g3, _, t3⟩ := hf 3 f3 rfl
      obtain ⟨v4, y4, g4, _, t4⟩ := hf 4 f4 rfl
      obtain ⟨v5, y5, g5, _, t5⟩ := hf 5 f5 rfl
      obtain ⟨v6, y6, g6, _, t6⟩ := hf 6 f6 rfl
      obtain ⟨v7, y7, g7, _, t7⟩ := hf 7 f7 rfl
      obtain ⟨n0, e0, _, hs0⟩ := DataW.trod_string u0 t0
      obtain ⟨n1, e1, _, hs1⟩ := DataW.trod_int u1 t1
      obtain ⟨n2, e2, _, hs2⟩ := DataW.trod_int u2 t2
      obtain ⟨n3, e3, _, hs3⟩ := DataW.trod_int u3 t3
      obtain ⟨n4, e4, _, hs4⟩ := DataW.trod_int u4 t4
      obtain ⟨n5, e5, _, hs5⟩ := DataW.trod_int u5 t5
      obtain ⟨n6, e6, _⟩ := DataW.trod_bool u6 t6
      obtain ⟨n7, e7, _, hs7⟩ := DataW.trod_string u7 t7
      simp only [List.cons.injEq, and_true] at e0 e1 e2 e3 e4 e5 e6 e7
      subst e0; subst e1; subst e2; subst e3; subst e4; subst e5; subst e6; subst e7
      refine ⟨⟨n0, n1, n2, n3, n4, n5, n6, n7⟩, fun j u hu => ?_, ⟨hs0, hs7⟩⟩
      have hj : j < 8 := (List.getElem?_eq_some_iff.1 hu).1
      have hj6 : j = 0 ∨ j = 1 ∨ j = 2 ∨ j = 3 ∨ j = 4 ∨ j = 5 ∨ j = 6 ∨ j = 7 := by omega
      rcases hj6 with rfl | rfl | rfl | rfl | rfl | rfl | rfl | rfl
      · exact g0.trans hu
      · exact g1.trans hu
      · exact g2.trans hu
      · exact g3.trans hu
      · exact g4.trans hu
      · exact g5.trans hu
      · exact g6.trans hu
      · exact g7.trans hu
    obtain ⟨l, h1, h2⟩ := list_of _ n key
    refine ⟨l, ⟨by rw [flatW_len, h1], fun hn => ⟨a, rfl, ?_, fun j u hu => ?_⟩⟩, by omega, fun x hx => ?_⟩
    · obtain ⟨p, g, _⟩ := key 0 hn
      have := cell_lt (g 0 _ rfl)
      rwa [block_of_add] at this
    · obtain ⟨p, hp, hc⟩ := flatW_getElem l j u hu
      have := (h2 _ p hp).1 _ u hc
      rwa [show j / 8 * 8 + j % 8 = j by omega] at this
    · obtain ⟨i, hi'⟩ := List.mem_iff_getElem?.1 hx
      exact (h2 i x hi').2
theorem open_SO {t e : TypeId} {f0 f1 f2 : Field} {fuel : Nat} {A : Option Addr} {n c : Nat} {x : DataW H × List MemPlace} (ht : P.underlying t = some (.slice e)) (he : P.underlying e = some (.struct #[f0, f1, f2]))
    (hone : oneCellFields P #[f0, f1, f2] = true) (hC : P.cellsOf e = 3) (u0 : P.underlying f0.type = some (.int .i64)) (u1 : P.underlying f1.type = some (.int .i64)) (u2 : P.underlying f2.type = some (.int .i64))
    (h : DataW.trod enc P w base spare held fuel t [.slice A n c] = some x) : ∃ l, SR w A n l ∧ n ≤ maxLen := by
  rcases open_slice_fields ht he hone (by rw [hC]; rfl) h with ⟨hcs, _⟩ | ⟨a, len, cap, m, D, Pl, hcs, hb, hl, hm, hmm, _, hi⟩
  · simp at hcs
    obtain ⟨rfl, rfl, rfl⟩ := hcs
    exact ⟨[], SR.nil_, by simp [maxLen]⟩
  · simp at hcs
    obtain ⟨rfl, rfl, rfl⟩ := hcs
    have hnm : n ≤ m := by rw [hmm]; split <;> omega
    have key : ∀ i, i < n → ∃ p : SO, (∀ j u, (cellsS p)[j]? = some u → w.cell? (a.add (i * 3 + j)) = some u) := by
      intro i hin
      obtain ⟨ys, k, _, _, _, hf⟩ := hi i (by omega)
      obtain ⟨v0, y0, g0, _, t0⟩ := hf 0 f0 rfl
      obtain ⟨v1, y1, g1, _, t1⟩ := hf 1 f1 rfl
      obtain ⟨v2, y2, g2, _, t2⟩ := hf 2 f2 rfl
      obtain ⟨n0, e0, _, hs0⟩ := DataW.trod_int u0 t0
      obtain ⟨n1, e1, _, hs1⟩ := DataW.trod_int u1 t1
      obtain ⟨n2, e2, _, hs2⟩ := DataW.trod_int u2 t2
      simp only [List.cons.injEq, and_true] at e0 e1 e2
      subst e0; subst e1; subst e2
      refine ⟨⟨n0, n1, n2⟩, fun j u hu => ?_⟩
      have hj : j < 3 := (List.getElem?_eq_some_iff.1 hu).1
      have hj6 : j = 0 ∨ j = 1 ∨ j = 2 := by omega
      rcases hj6 with rfl | rfl | rfl
      · exact g0.trans hu
      · exact g1.trans hu
      · exact g2.trans hu
    obtain ⟨l, h1, h2⟩ := list_of _ n key
    refine ⟨l, ⟨by rw [flatS_len, h1], fun hn => ⟨a, rfl, ?_, fun j u hu => ?_⟩⟩, by omega⟩
    · obtain ⟨p, g⟩ := key 0 hn
      have := cell_lt (g 0 _ rfl)
      rwa [block_of_add] at this
    · obtain ⟨p, hp, hc⟩ := flatS_getElem l j u hu
      have := (h2 _ p hp) _ u hc
      rwa [show j / 3 * 3 + j % 3 = j by omega] at this
end
section
variable {H : Type} {enc : TypeId × Value → H} {w : World} {base : Nat} {spare : Nat → Bool} {held : Bool}
theorem under_int : Tryd.prog.underlying 3 = some (.int .i64) := by kernel_rfl
theorem under_str : Tryd.prog.underlying 9 = some .string := by kernel_rfl
theorem under_bool : Tryd.prog.underlying 4 = some .bool := by kernel_rfl
theorem wg_under : Tryd.prog.underlying 34 = some (.struct #[⟨"Number", 9, 0, false, "", "", 0⟩, ⟨"Length", 3, 1, false, "", "", 16⟩, ⟨"Axles", 3, 2, false, "", "", 24⟩, ⟨"Mass", 3, 3, false, "", "", 32⟩, ⟨"Brake", 3, 4, false, "", "", 40⟩, ⟨"Goods", 3, 5, false, "", "", 48⟩, ⟨"Gentle", 4, 6, false, "", "", 56⟩, ⟨"Dest", 9, 7, false, "", "", 64⟩]) := by kernel_rfl
theorem so_under : Tryd.prog.underlying 39 = some (.struct #[⟨"Stop", 3, 0, false, "", "", 0⟩, ⟨"Wagons", 3, 1, false, "", "", 8⟩, ⟨"Groups", 3, 2, false, "", "", 16⟩]) := by kernel_rfl
theorem bk_under : Tryd.prog.underlying 25 = some (.struct #[⟨"Length", 3, 0, false, "", "", 0⟩, ⟨"Axles", 3, 1, false, "", "", 8⟩, ⟨"Mass", 3, 2, false, "", "", 16⟩, ⟨"Braked", 3, 3, false, "", "", 24⟩, ⟨"Percent", 3, 4, false, "", "", 32⟩, ⟨"Required", 3, 5, false, "", "", 40⟩, ⟨"Missing", 3, 6, false, "", "", 48⟩]) := by kernel_rfl
theorem fn_under : Tryd.prog.underlying 28 = some (.struct #[⟨"Name", 9, 0, false, "", "", 0⟩, ⟨"Wagons", 23, 1, false, "", "", 16⟩, ⟨"Brakes", 25, 2, false, "", "", 40⟩, ⟨"SetOuts", 26, 9, false, "", "", 96⟩]) := by kernel_rfl
theorem open_wagons {fuel : Nat} {A : Option Addr} {n c : Nat} {x : DataW H × List MemPlace} (h : DataW.trod enc Tryd.prog w base spare held fuel 23 [.slice A n c] = some x) : ∃ l, WR w A n l ∧ n ≤ maxLen ∧ ∀ x ∈ l, x.nu.size ≤ maxLen ∧ x.de.size ≤ maxLen :=
  open_WG Tryd.underlying23 wg_under (by kernel_rfl) (by kernel_rfl) under_str under_int under_int under_int under_int under_int under_bool under_str h
theorem open_setouts {fuel : Nat} {A : Option Addr} {n c : Nat} {x : DataW H × List MemPlace} (h : DataW.trod enc Tryd.prog w base spare held fuel 26 [.slice A n c] = some x) : ∃ l, SR w A n l ∧ n ≤ maxLen :=
  open_SO Tryd.underlying26 so_under (by kernel_rfl) (by kernel_rfl) under_int under_int under_int h
theorem peel {α : Type} {l : List α} {n : Nat} (h : l.length = n + 1) : ∃ c r, l = c :: r ∧ r.length = n := by
  cases l with
  | nil => simp at h
  | cons c r => exact ⟨c, r, rfl, by simpa using h⟩
theorem array10 {α : Type} {cs : Array α} (h : cs.size = 10) : ∃ c0 c1 c2 c3 c4 c5 c6 c7 c8 c9, cs = #[c0, c1, c2, c3, c4, c5, c6, c7, c8, c9] := by
  obtain ⟨l⟩ := cs
  have h10 : l.length = 10 := h
  clear h
  obtain ⟨c0, l, rfl, h9⟩ := peel (n := 9) h10
  obtain ⟨c1, l, rfl, h8⟩ := peel (n := 8) h9
  obtain ⟨c2, l, rfl, h7⟩ := peel (n := 7) h8
  obtain ⟨c3, l, rfl, h6⟩ := peel (n := 6) h7
  obtain ⟨c4, l, rfl, h5⟩ := peel (n := 5) h6
  obtain ⟨c5, l, rfl, h4⟩ := peel (n := 4) h5
  obtain ⟨c6, l, rfl, h3⟩ := peel (n := 3) h4
  obtain ⟨c7, l, rfl, h2⟩ := peel (n := 2) h3
  obtain ⟨c8, l, rfl, h1⟩ := peel (n := 1) h2
  obtain ⟨c9, l, rfl, h0⟩ := peel (n := 0) h1
  obtain rfl := List.eq_nil_of_length_eq_zero h0
  exact ⟨c0, c1, c2, c3, c4, c5, c6, c7, c8, c9, rfl⟩
theorem open_brakes {fuel : Nat} {c0 c1 c2 c3 c4 c5 c6 : Value} {x : DataW H × List MemPlace} (h : DataW.trod enc Tryd.prog w base spare held fuel 25 [c0, c1, c2, c3, c4, c5, c6] = some x) : ∃ b0 b1 b2 b3 b4 b5 b6 : Int, c0 = .int .i64 b0 ∧ c1 = .int .i64 b1 ∧ c2 = .int .i64 b2 ∧ c3 = .int .i64 b3 ∧ c4 = .int .i64 b4 ∧ c5 = .int .i64 b5 ∧ c6 = .int .i64 b6 := by
  obtain ⟨ys, n, _, _, _, _, hf⟩ := DataW.trod_struct bk_under h
  have key : ∀ (k : Nat) (f : Field) (cv : Value), #[⟨"Length", 3, 0, false, "", "", 0⟩, ⟨"Axles", 3, 1, false, "", "", 8⟩, ⟨"Mass", 3, 2, false, "", "", 16⟩, ⟨"Braked", 3, 3, false, "", "", 24⟩, ⟨"Percent", 3, 4, false, "", "", 32⟩, ⟨"Required", 3, 5, false, "", "", 40⟩, ⟨"Missing", 3, 6, false, "", "", 48⟩][k]? = some f → f.type = 3 → (([c0, c1, c2, c3, c4, c5, c6].drop f.offset).take (Tryd.prog.cellsOf f.type)) = [cv] → ys[k]? ≠ none → ∃ b : Int, cv = .int .i64 b := by
    intro k f cv hk ht hd hy
    have h1 := hf k f hk
    rw [hd, ht] at h1
    cases hyk : ys[k]? with
    | none => exact absurd hyk hy
    | some y =>
      rw [hyk] at h1
      obtain ⟨b, e, _, _⟩ := DataW.trod_int under_int h1
      exact ⟨b, by simpa using e⟩
  have hlen : ys.length = 7 := by assumption
  have hys : ∀ k, k < 7 → ys[k]? ≠ none := fun k hk => by rw [List.getElem?_eq_getElem (by omega)]; exact fun e => by cases e
  have hc : Tryd.prog.cellsOf 3 = 1 := by kernel_rfl
  obtain ⟨b0, e0⟩ := key 0 _ c0 rfl rfl (by simp [hc]) (hys 0 (by decide))
  obtain ⟨b1, e1⟩ := key 1 _ c1 rfl rfl (by simp [hc]) (hys 1 (by decide))
  obtain ⟨b2, e2⟩ := key 2 _ c2 rfl rfl (by simp [hc]) (hys 2 (by decide))
  obtain ⟨b3, e3⟩ := key 3 _ c3 rfl rfl (by simp [hc]) (hys 3 (by decide))
  obtain ⟨b4, e4⟩ := key 4 _ c4 rfl rfl (by simp [hc]) (hys 4 (by decide))
  obtain ⟨b5, e5⟩ := key 5 _ c5 rfl rfl (by simp [hc]) (hys 5 (by decide))
  obtain ⟨b6, e6⟩ := key 6 _ c6 rfl rfl (by simp [hc]) (hys 6 (by decide))
  exact ⟨b0, b1, b2, b3, b4, b5, b6, e0, e1, e2, e3, e4, e5, e6⟩
theorem fn_cells : Tryd.prog.cellsOf 28 = 10 := by kernel_rfl
theorem okW10 {P : Program} {w : World} {r : Reach} {b0 : Nat} {t : TypeId} {fs : Array Field} {v : Value} (hs : P.underlying t = some (.struct fs)) (hC : P.cellsOf t = 10) (hv : Value.okWide P w r b0 t v) : ∃ c0 c1 c2 c3 c4 c5 c6 c7 c8 c9, v = .agg #[c0, c1, c2, c3, c4, c5, c6, c7, c8, c9] := by
  obtain ⟨cs, rfl, hsz⟩ := okWide_struct hs hv
  obtain ⟨c0, c1, c2, c3, c4, c5, c6, c7, c8, c9, rfl⟩ := array10 (hsz.trans hC)
  exact ⟨c0, c1, c2, c3, c4, c5, c6, c7, c8, c9, rfl⟩
theorem open_final {v : Value} {d : DataW H} {p : List MemPlace} (hv : ∃ c0 c1 c2 c3 c4 c5 c6 c7 c8 c9, v = .agg #[c0, c1, c2, c3, c4, c5, c6, c7, c8, c9]) (h : DataW.Trod enc Tryd.prog w base spare held 28 v d p) :
    ∃ (A : Option Addr) (n c : Nat) (B : Option Addr) (m d' : Nat) (f : FN) (e0 e1 e2 e3 e4 e5 e6 : Int), v = fnV A n c B m d' f.nm e0 e1 e2 e3 e4 e5 e6 ∧ FR w A n B m f ∧ f.bk = [e0, e1, e2, e3, e4, e5, e6] := by
  obtain ⟨c0, c1, c2, c3, c4, c5, c6, c7, c8, c9, rfl⟩ := hv
  obtain ⟨fuel, hf0⟩ := h
  obtain ⟨ys, n, _, _, _, hlen, hf⟩ := DataW.trod_struct fn_under hf0
  have hys : ∀ k, k < 4 → ∃ y, ys[k]? = some y := fun k hk => ⟨ys[k]'(by rw [hlen]; exact hk), List.getElem?_eq_getElem _⟩
  obtain ⟨y0, k0⟩ := hys 0 (by decide)
  obtain ⟨y1, k1⟩ := hys 1 (by decide)
  obtain ⟨y2, k2⟩ := hys 2 (by decide)
  obtain ⟨y3, k3⟩ := hys 3 (by decide)
  have s1 : Tryd.prog.cellsOf 9 = 1 := by kernel_rfl
  have s2 : Tryd.prog.cellsOf 23 = 1 := by kernel_rfl
  have s3 : Tryd.prog.cellsOf 25 = 7 := by kernel_rfl
  have s4 : Tryd.prog.cellsOf 26 = 1 := by kernel_rfl
  have g0 : DataW.trod enc Tryd.prog w base spare held n 9 (List.take (Tryd.prog.cellsOf 9) (List.drop 0 [c0, c1, c2, c3, c4, c5, c6, c7, c8, c9])) = some y0 := (hf 0 _ rfl).trans k0
  rw [s1] at g0
  change DataW.trod enc Tryd.prog w base spare held n 9 [c0] = some y0 at g0
  have g1 : DataW.trod enc Tryd.prog w base spare held n 23 (List.take (Tryd.prog.cellsOf 23) (List.drop 1 [c0, c1, c2, c3, c4, c5, c6, c7, c8, c9])) = some y1 := (hf 1 _ rfl).trans k1
  rw [s2] at g1
  change DataW.trod enc Tryd.prog w base spare held n 23 [c1] = some y1 at g1
  have g2 : DataW.trod enc Tryd.prog w base spare held n 25 (List.take (Tryd.prog.cellsOf 25) (List.drop 2 [c0, c1, c2, c3, c4, c5, c6, c7, c8, c9])) = some y2 := (hf 2 _ rfl).trans k2
  rw [s3] at g2
  change DataW.trod enc Tryd.prog w base spare held n 25 [c2, c3, c4, c5, c6, c7, c8] = some y2 at g2
  have g3 : DataW.trod enc Tryd.prog w base spare held n 26 (List.take (Tryd.prog.cellsOf 26) (List.drop 9 [c0, c1, c2, c3, c4, c5, c6, c7, c8, c9])) = some y3 := (hf 3 _ rfl).trans k3
  rw [s4] at g3
  change DataW.trod enc Tryd.prog w base spare held n 26 [c9] = some y3 at g3
  obtain ⟨nm, q0, _, hnm⟩ := DataW.trod_string under_str g0
  obtain ⟨A, nn, cc, q1⟩ := slice_form Tryd.underlying23 g1
  obtain ⟨B, mm, dd, q3⟩ := slice_form Tryd.underlying26 g3
  simp only [List.cons.injEq, and_true] at q0 q1 q3
  subst q0; subst q1; subst q3
  obtain ⟨e0, e1, e2, e3, e4, e5, e6, rfl, rfl, rfl, rfl, rfl, rfl, rfl⟩ := open_brakes g2
  obtain ⟨lw, hw1, hw2, hw3⟩ := open_wagons g1
  obtain ⟨ls, hs1, hs2⟩ := open_setouts g3
  exact ⟨A, nn, cc, B, mm, dd, ⟨nm, lw, [e0, e1, e2, e3, e4, e5, e6], ls⟩, e0, e1, e2, e3, e4, e5, e6, rfl, ⟨hw1, hs1, hw2, hs2, hnm, hw3⟩, rfl⟩
end
end
end Go.Proofs.YtiegpkbollihgaaDoor
