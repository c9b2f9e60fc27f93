/- Slices of slices of integers: read, and of the call's own. -/
import Derived.Test.YtocohkgdkebmdaaGreatMem
import Derived.Laws.OwnMore
namespace Go.Proofs.YtocohkgdkebmdaaGreat
open Go.RowKit
def ints64 (l : List Nat) : List Value := l.map fun (x : Nat) => Value.int .i64 x
theorem ints64_map (l : List Nat) : ints64 l = (l.map fun (x : Nat) => (x : Int)).map (Value.int .i64) := by simp [ints64]
def nilS : Value := .slice none 0 0
/-- The slice (address A, n slices) reads as L. -/
structure LLR (w : World) (A : Option Addr) (n : Nat) (L : List (List Nat)) (vs : List Value) : Prop where
  outer : Reads w w.heap.size 1 A n vs
  len : L.length = n
  inner : ∀ i, i < n → ∃ Ai ci, vs.getD i nilS = .slice Ai (L.getD i []).length ci ∧ IR .i64 w Ai (L.getD i []).length ((L.getD i []).map fun (x : Nat) => (x : Int))
theorem LLR.below {w w' : World} {A : Option Addr} {n : Nat} {L : List (List Nat)} {vs : List Value} (h : LLR w A n L vs) (hb : Below w.heap.size w w') : LLR w' A n L vs :=
  ⟨(h.outer.below hb).more hb.size, h.len, fun i hi => by obtain ⟨Ai, ci, e, hr⟩ := h.inner i hi; exact ⟨Ai, ci, e, hr.below hb⟩⟩
theorem LLR.at_ {w : World} {A : Option Addr} {n : Nat} {L : List (List Nat)} {vs : List Value} (h : LLR w A n L vs) {i : Nat} (hi : i < n) :
    ∃ ad Ai ci, A = some ad ∧ ad.block < w.heap.size ∧ w.cell? (ad.add i) = some (.slice Ai (L.getD i []).length ci) ∧ IR .i64 w Ai (L.getD i []).length ((L.getD i []).map fun (x : Nat) => (x : Int)) := by
  obtain ⟨ad, u, e, hb, hu, hc⟩ := h.outer.at_ hi
  obtain ⟨Ai, ci, e2, hr⟩ := h.inner i hi
  rw [List.getD_eq_getElem?_getD, hu] at e2
  simp only [Option.getD_some] at e2
  subst e2
  exact ⟨ad, Ai, ci, e, hb, hc, hr⟩
/-- A slice of slices of integers of the call's own: eO, eI: the types of the elements. -/
structure OwnLL (w : World) (B : Nat) (eO eI : TypeId) (v : Value) (n : Nat) (L : List (List Nat)) (vs : List Value) : Prop where
  outer : w.ownsRow B eO 1 v n vs
  len : L.length = n
  inner : ∀ i, i < n → w.ownsRow B eI 1 (vs.getD i nilS) (L.getD i []).length (ints64 (L.getD i []))
  far : ∀ i j, i ≠ j → i < n → j < n → apart (vs.getD i nilS) (vs.getD j nilS)
section
variable {w w' : World} {B n : Nat} {eO eI : TypeId} {v : Value} {L : List (List Nat)} {vs : List Value}
theorem OwnLL.vlen (h : OwnLL w B eO eI v n L vs) : vs.length = n := by have := h.outer.1; omega
theorem OwnLL.below (h : OwnLL w B eO eI v n L vs) (hb : Below w.heap.size w w') : OwnLL w' B eO eI v n L vs :=
  ⟨own_below h.outer hb, h.len, fun i hi => own_below (h.inner i hi) hb, h.far⟩
theorem OwnLL.drew (h : OwnLL w B eO eI v n L vs) : OwnLL w.drew B eO eI v n L vs := ⟨h.outer, h.len, h.inner, h.far⟩
theorem OwnLL.alloc2 (h : OwnLL w B eO eI v n L vs) (o o' : Obj) : OwnLL ((w.alloc o).alloc o').drew B eO eI v n L vs :=
  ⟨(h.outer.alloc o).alloc o', h.len, fun i hi => ((h.inner i hi).alloc o).alloc o', h.far⟩
/-- The outer row and an inner one have no block in common. -/
theorem own_ne {e e' : TypeId} {size size' m m' : Nat} {u v : Value} {xs ys : List Value} (h : w.ownsRow B e size u m xs) (h' : w.ownsRow B e' size' v m' ys) (hne : e ≠ e') : apart u v := by
  rcases h.2 with h0 | ⟨g, cap, cur, hv, _, hg, _⟩
  · exact .inl (by rw [h0.1]; rfl)
  · rcases h'.2 with h0' | ⟨g', cap', cur', hv', _, hg', _⟩
    · exact .inr (by rw [h0'.1, hv]; simp [Value.ownBlock])
    · refine .inr ?_
      rw [hv, hv']
      simp only [Value.ownBlock, ne_eq, Option.some.injEq]
      rintro rfl
      rw [hg] at hg'
      cases hg'
      exact hne rfl
theorem OwnLL.cellO {g cap : Nat} (h : OwnLL w B eO eI (.slice (some ⟨g, 0, none⟩) n cap) n L vs) {i : Nat} (hi : i < n) : w.cell? ⟨g, i, none⟩ = some (vs.getD i nilS) := by
  rw [h.outer.cellAt i (by omega), List.getD_eq_getElem?_getD, List.getElem?_eq_getElem (by have := h.vlen; omega)]
  rfl
theorem OwnLL.reads {A : Option Addr} {c : Nat} (h : OwnLL w B eO eI (.slice A n c) n L vs) : LLR w A n L vs :=
  ⟨Reads.of_own h.outer, h.len, fun i hi => by
    have hi2 := h.inner i hi
    obtain ⟨Ai, ci, e, _⟩ := own_form hi2
    rw [e] at hi2
    rw [ints64_map] at hi2
    exact ⟨Ai, ci, e, own_IR hi2⟩⟩
/-- All rows are nil. -/
theorem OwnLL.nils (h : w.ownsRow B eO 1 v n (List.replicate n nilS)) : OwnLL w B eO eI v n (List.replicate n []) (List.replicate n nilS) := by
  refine ⟨h, by simp, fun i hi => ?_, fun i j _ hi _ => .inl ?_⟩
  · rw [List.getD_eq_getElem?_getD, List.getD_eq_getElem?_getD, List.getElem?_replicate, List.getElem?_replicate, if_pos hi, if_pos hi]
    exact ⟨rfl, .inl ⟨rfl, rfl⟩⟩
  · rw [List.getD_eq_getElem?_getD, List.getElem?_replicate, if_pos hi]
    rfl
theorem getD_set_same {α : Type} {l : List α} {i : Nat} {a d : α} (h : i < l.length) : (l.set i a).getD i d = a := by
  rw [List.getD_eq_getElem?_getD, List.getElem?_set_self h]
  rfl
theorem getD_set_other {α : Type} {l : List α} {i j : Nat} {a d : α} (h : i ≠ j) : (l.set i a).getD j d = l.getD j d := by
  rw [List.getD_eq_getElem?_getD, List.getD_eq_getElem?_getD, List.getElem?_set_ne h]
/-- A row is put into its place. -/
theorem OwnLL.put {g cap i : Nat} {v' : Value} {l' : List Nat} (hne : eI ≠ eO) (hlen : L.length = n) (hi : i < n)
    (ho : w.ownsRow B eO 1 (.slice (some ⟨g, 0, none⟩) n cap) n vs) (hin : ∀ j, i ≠ j → j < n → w.ownsRow B eI 1 (vs.getD j nilS) (L.getD j []).length (ints64 (L.getD j [])))
    (hv : w.ownsRow B eI 1 v' l'.length (ints64 l')) (ha : ∀ j, i ≠ j → j < n → apart (vs.getD j nilS) v') (hf : ∀ j k, i ≠ j → i ≠ k → j ≠ k → j < n → k < n → apart (vs.getD j nilS) (vs.getD k nilS)) :
    OwnLL (w.setCell ⟨g, i, none⟩ v') B eO eI (.slice (some ⟨g, 0, none⟩) n cap) n (L.set i l') (vs.set i v') := by
  have hvl : vs.length = n := by have := ho.1; omega
  have hblk : ∀ (u : Value) (m : Nat) (xs : List Value), w.ownsRow B eI 1 u m xs → u.ownBlock ≠ some g := by
    intro u m xs hu e
    rcases own_ne hu ho hne with h | h
    · rw [h] at e; cases e
    · exact h (by rw [e]; rfl)
  refine ⟨(ho.stored i v').1, by simpa using hlen, fun j hj => ?_, fun j k hjk hj hk => ?_⟩
  · by_cases e : i = j
    · subst e
      rw [getD_set_same (by omega), getD_set_same (by omega)]
      exact own_set_other hv (hblk _ _ _ hv) _
    · rw [getD_set_other e, getD_set_other e]
      exact own_set_other (hin j e hj) (hblk _ _ _ (hin j e hj)) _
  · by_cases e : i = j
    · subst e
      rw [getD_set_same (by omega), getD_set_other hjk]
      exact (ha k hjk hk).symm
    · by_cases e2 : i = k
      · subst e2
        rw [getD_set_same (by omega), getD_set_other e]
        exact ha j e hj
      · rw [getD_set_other e, getD_set_other e2]
        exact hf j k e e2 hjk hj hk
/-- A row is grown and put back into its place. -/
theorem OwnLL.grown {g cap i : Nat} {v' : Value} {l' : List Nat} (hne : eI ≠ eO) (h : OwnLL w B eO eI (.slice (some ⟨g, 0, none⟩) n cap) n L vs) (hi : i < n) (hg : Grew w (vs.getD i nilS) v' w')
    (hv : w'.ownsRow B eI 1 v' l'.length (ints64 l')) : OwnLL (w'.setCell ⟨g, i, none⟩ v') B eO eI (.slice (some ⟨g, 0, none⟩) n cap) n (L.set i l') (vs.set i v') :=
  OwnLL.put hne h.len hi (hg.keep h.outer (own_ne h.outer (h.inner i hi) hne.symm)) (fun j hj hjn => hg.keep (h.inner j hjn) (h.far j i hj.symm hjn hi)) hv
    (fun j hj hjn => hg.apart_l (h.inner j hjn) (h.far j i hj.symm hjn hi)) (fun j k _ _ hjk hj hk => h.far j k hjk hj hk)
/-- A row is replaced by nil. -/
theorem OwnLL.clear {g cap i : Nat} (hne : eI ≠ eO) (h : OwnLL w B eO eI (.slice (some ⟨g, 0, none⟩) n cap) n L vs) (hi : i < n) :
    OwnLL (w.setCell ⟨g, i, none⟩ nilS) B eO eI (.slice (some ⟨g, 0, none⟩) n cap) n (L.set i []) (vs.set i nilS) :=
  OwnLL.put hne h.len hi h.outer (fun j _ hjn => h.inner j hjn) ⟨rfl, .inl ⟨rfl, rfl⟩⟩ (fun _ _ _ => apart.symm (.inl rfl)) (fun j k _ _ hjk hj hk => h.far j k hjk hj hk)
/-- A row is replaced by a row in new memory. -/
theorem OwnLL.fresh {g cap i : Nat} {v' : Value} {l' : List Nat} (hne : eI ≠ eO) (h : OwnLL w B eO eI (.slice (some ⟨g, 0, none⟩) n cap) n L vs) (hi : i < n) (hb : Below w.heap.size w w') (hB : B ≤ w.heap.size)
    (hv : w'.ownsRow w.heap.size eI 1 v' l'.length (ints64 l')) : OwnLL (w'.setCell ⟨g, i, none⟩ v') B eO eI (.slice (some ⟨g, 0, none⟩) n cap) n (L.set i l') (vs.set i v') :=
  OwnLL.put hne h.len hi (own_below h.outer hb) (fun j _ hjn => own_below (h.inner j hjn) hb) (own_more hv hB)
    (fun j _ hjn => apart_old (h.inner j hjn) hv (Nat.le_refl _)) (fun j k _ _ hjk hj hk => h.far j k hjk hj hk)
/-- An element is stored into a row. -/
theorem OwnLL.setIn {g' cap' i j x : Nat} {v : Value} (hne : eI ≠ eO) (h : OwnLL w B eO eI v n L vs) (hi : i < n) (hvi : vs.getD i nilS = .slice (some ⟨g', 0, none⟩) (L.getD i []).length cap') :
    OwnLL (w.setCell ⟨g', j, none⟩ (.int .i64 x)) B eO eI v n (L.set i ((L.getD i []).set j x)) vs := by
  have hin := h.inner i hi
  have hb : (vs.getD i nilS).ownBlock = some g' := by rw [hvi]; rfl
  refine ⟨own_set_other h.outer ?_ _, by simpa using h.len, fun k hk => ?_, h.far⟩
  · intro e
    rcases own_ne h.outer hin hne.symm with h1 | h1
    · rw [h1] at e; cases e
    · exact h1 (by rw [e, hb])
  · by_cases e : i = k
    · subst e
      rw [getD_set_same (by rw [h.len]; exact hi), List.length_set]
      rw [hvi] at hin ⊢
      have := (hin.stored j (.int .i64 x)).1
      unfold ints64 at this ⊢
      rwa [List.map_set]
    · rw [getD_set_other e]
      refine own_set_other (h.inner k hk) ?_ _
      intro e2
      rcases h.far k i (fun e3 => e e3.symm) hk hi with h1 | h1
      · rw [h1] at e2; cases e2
      · exact h1 (by rw [e2, hb])
end
end Go.Proofs.YtocohkgdkebmdaaGreat
