/- Slices of wagons and of set-outs: reading, rows of the call's own. -/
import Derived.Test.YtiegpkbollihgaaDoorMem
import Derived.Test.YtiegpkbollihgaaDoorFnPlain
namespace Go.Proofs.YtiegpkbollihgaaDoor
open Go.RowKit
def cellsW (p : WG) : List Value := [.string p.nu, .int .i64 p.len, .int .i64 p.ax, .int .i64 p.ms, .int .i64 p.br, .int .i64 p.gd, .bool p.gt, .string p.de]
def wgV (p : WG) : Value := .agg #[.string p.nu, .int .i64 p.len, .int .i64 p.ax, .int .i64 p.ms, .int .i64 p.br, .int .i64 p.gd, .bool p.gt, .string p.de]
def flatW (l : List WG) : List Value := l.flatMap cellsW
theorem flatW_cons (p : WG) (r : List WG) : flatW (p :: r) = cellsW p ++ flatW r := rfl
theorem flatW_len (l : List WG) : (flatW l).length = l.length * 8 := by
  induction l with
  | nil => rfl
  | cons p r ih => rw [flatW_cons]; simp only [List.length_append, List.length_cons, ih, cellsW, List.length_nil]; omega
theorem flatW_append (l m : List WG) : flatW (l ++ m) = flatW l ++ flatW m := by simp [flatW]
theorem flatW_snoc (l : List WG) (p : WG) : flatW (l ++ [p]) = flatW l ++ cellsW p := by simp [flatW]
theorem one_flatW (l : List WG) : ∀ u ∈ flatW l, u.oneCell' = true := by
  intro u hu
  obtain ⟨p, _, hp⟩ := List.mem_flatMap.1 hu
  simp only [cellsW, List.mem_cons, List.not_mem_nil, or_false] at hp
  rcases hp with rfl | rfl | rfl | rfl | rfl | rfl | rfl | rfl <;> rfl
theorem flatW_at (l : List WG) : ∀ (i : Nat) (p : WG), l[i]? = some p → ∀ j u, (cellsW p)[j]? = some u → (flatW l)[i * 8 + j]? = some u := by
  induction l with
  | nil => intro i p h; simp at h
  | cons q r ih =>
    intro i p h j u hu
    have hj : j < 8 := (List.getElem?_eq_some_iff.1 hu).1
    cases i with
    | zero =>
      simp at h
      subst h
      rw [flatW_cons, Nat.zero_mul, Nat.zero_add, List.getElem?_append_left (by simpa [cellsW] using hj)]
      exact hu
    | succ i =>
      rw [flatW_cons, List.getElem?_append_right (by simp [cellsW]; omega)]
      have := ih i p (by simpa using h) j u hu
      rw [show (i + 1) * 8 + j - (cellsW q).length = i * 8 + j by simp [cellsW]; omega]
      exact this
/-- The slice (address A, n elements) reads as l. -/
def WR (w : World) (A : Option Addr) (n : Nat) (l : List WG) : Prop := Reads w w.heap.size 8 A n (flatW l)
/-- The cells of an element at an address, as the walk spells them. -/
def WAt (w : World) (ad : Addr) (p : WG) : Prop := w.cell? ad = some (.string p.nu) ∧ w.cell? ⟨ad.block, ad.off + 1, none⟩ = some (.int .i64 p.len) ∧ w.cell? ⟨ad.block, ad.off + 2, none⟩ = some (.int .i64 p.ax) ∧ w.cell? ⟨ad.block, ad.off + 3, none⟩ = some (.int .i64 p.ms) ∧ w.cell? ⟨ad.block, ad.off + 4, none⟩ = some (.int .i64 p.br) ∧ w.cell? ⟨ad.block, ad.off + 5, none⟩ = some (.int .i64 p.gd) ∧ w.cell? ⟨ad.block, ad.off + 6, none⟩ = some (.bool p.gt) ∧ w.cell? ⟨ad.block, ad.off + 7, none⟩ = some (.string p.de)
section
variable {w w' : World} {A : Option Addr} {n : Nat} {l : List WG}
theorem WR.len (h : WR w A n l) : l.length = n := by have := h.1; rw [flatW_len] at this; omega
theorem add_neW {ad : Addr} (j : Nat) (hj : j ≠ 0) : ad.add j = ⟨ad.block, ad.off + j, none⟩ := by simp [Addr.add, hj]
theorem WR.at_ (h : WR w A n l) {i : Nat} (hi : i < n) : ∃ ad p, A = some ad ∧ ad.block < w.heap.size ∧ l[i]? = some p ∧ WAt w (ad.add (i * 8)) p := by
  have hl := h.len
  obtain ⟨ad, e, hb, hc⟩ := h.2 (by omega)
  have hp : l[i]? = some l[i] := List.getElem?_eq_getElem (by omega)
  have key := fun j u hu => hc _ _ (flatW_at l i _ hp j u hu)
  have k0 := key 0 _ rfl
  rw [Nat.add_zero] at k0
  have kj : ∀ j, j ≠ 0 → ∀ u, (cellsW l[i])[j]? = some u → w.cell? ⟨(ad.add (i * 8)).block, (ad.add (i * 8)).off + j, none⟩ = some u := by
    intro j hj u hu
    have := key j u hu
    rw [← add_of_add, add_neW j hj] at this
    exact this
  exact ⟨ad, _, e, hb, hp, k0, kj 1 (by decide) _ rfl, kj 2 (by decide) _ rfl, kj 3 (by decide) _ rfl, kj 4 (by decide) _ rfl, kj 5 (by decide) _ rfl, kj 6 (by decide) _ rfl, kj 7 (by decide) _ rfl⟩
theorem WR.below (h : WR w A n l) (hb : Below w.heap.size w w') : WR w' A n l := (Reads.below h hb).more hb.size
theorem WR.nil_ : WR w A 0 [] := ⟨by simp [flatW], fun h => absurd h (by omega)⟩
end
theorem own_WR {w0 : World} {B e n c : Nat} {A : Option Addr} {l : List WG} (h : w0.ownsRow B e 8 (.slice A n c) n (flatW l)) : WR w0 A n l := Reads.of_own h
theorem ownW_len {w0 : World} {B e n : Nat} {v : Value} {l : List WG} (h : w0.ownsRow B e 8 v n (flatW l)) : l.length = n := by have := h.1; rw [flatW_len] at this; omega
def cellsS (p : SO) : List Value := [.int .i64 p.st, .int .i64 p.wg, .int .i64 p.gr]
def soV (p : SO) : Value := .agg #[.int .i64 p.st, .int .i64 p.wg, .int .i64 p.gr]
def flatS (l : List SO) : List Value := l.flatMap cellsS
theorem flatS_cons (p : SO) (r : List SO) : flatS (p :: r) = cellsS p ++ flatS r := rfl
theorem flatS_len (l : List SO) : (flatS l).length = l.length * 3 := by
  induction l with
  | nil => rfl
  | cons p r ih => rw [flatS_cons]; simp only [List.length_append, List.length_cons, ih, cellsS, List.length_nil]; omega
theorem flatS_append (l m : List SO) : flatS (l ++ m) = flatS l ++ flatS m := by simp [flatS]
theorem flatS_snoc (l : List SO) (p : SO) : flatS (l ++ [p]) = flatS l ++ cellsS p := by simp [flatS]
theorem one_flatS (l : List SO) : ∀ u ∈ flatS l, u.oneCell' = true := by
  intro u hu
  obtain ⟨p, _, hp⟩ := List.mem_flatMap.1 hu
  simp only [cellsS, List.mem_cons, List.not_mem_nil, or_false] at hp
  rcases hp with rfl | rfl | rfl <;> rfl
theorem flatS_at (l : List SO) : ∀ (i : Nat) (p : SO), l[i]? = some p → ∀ j u, (cellsS p)[j]? = some u → (flatS l)[i * 3 + j]? = some u := by
  induction l with
  | nil => intro i p h; simp at h
  | cons q r ih =>
    intro i p h j u hu
    have hj : j < 3 := (List.getElem?_eq_some_iff.1 hu).1
    cases i with
    | zero =>
      simp at h
      subst h
      rw [flatS_cons, Nat.zero_mul, Nat.zero_add, List.getElem?_append_left (by simpa [cellsS] using hj)]
      exact hu
    | succ i =>
      rw [flatS_cons, List.getElem?_append_right (by simp [cellsS]; omega)]
      have := ih i p (by simpa using h) j u hu
      rw [show (i + 1) * 3 + j - (cellsS q).length = i * 3 + j by simp [cellsS]; omega]
      exact this
/-- The slice (address A, n elements) reads as l. -/
def SR (w : World) (A : Option Addr) (n : Nat) (l : List SO) : Prop := Reads w w.heap.size 3 A n (flatS l)
/-- The cells of an element at an address, as the walk spells them. -/
def SAt (w : World) (ad : Addr) (p : SO) : Prop := w.cell? ad = some (.int .i64 p.st) ∧ w.cell? ⟨ad.block, ad.off + 1, none⟩ = some (.int .i64 p.wg) ∧ w.cell? ⟨ad.block, ad.off + 2, none⟩ = some (.int .i64 p.gr)
section
variable {w w' : World} {A : Option Addr} {n : Nat} {l : List SO}
theorem SR.len (h : SR w A n l) : l.length = n := by have := h.1; rw [flatS_len] at this; omega
theorem add_neS {ad : Addr} (j : Nat) (hj : j ≠ 0) : ad.add j = ⟨ad.block, ad.off + j, none⟩ := by simp [Addr.add, hj]
theorem SR.at_ (h : SR w A n l) {i : Nat} (hi : i < n) : ∃ ad p, A = some ad ∧ ad.block < w.heap.size ∧ l[i]? = some p ∧ SAt w (ad.add (i * 3)) p := by
  have hl := h.len
  obtain ⟨ad, e, hb, hc⟩ := h.2 (by omega)
  have hp : l[i]? = some l[i] := List.getElem?_eq_getElem (by omega)
  have key := fun j u hu => hc _ _ (flatS_at l i _ hp j u hu)
  have k0 := key 0 _ rfl
  rw [Nat.add_zero] at k0
  have kj : ∀ j, j ≠ 0 → ∀ u, (cellsS l[i])[j]? = some u → w.cell? ⟨(ad.add (i * 3)).block, (ad.add (i * 3)).off + j, none⟩ = some u := by
    intro j hj u hu
    have := key j u hu
    rw [← add_of_add, add_neS j hj] at this
    exact this
  exact ⟨ad, _, e, hb, hp, k0, kj 1 (by decide) _ rfl, kj 2 (by decide) _ rfl⟩
theorem SR.below (h : SR w A n l) (hb : Below w.heap.size w w') : SR w' A n l := (Reads.below h hb).more hb.size
theorem SR.nil_ : SR w A 0 [] := ⟨by simp [flatS], fun h => absurd h (by omega)⟩
end
theorem own_SR {w0 : World} {B e n c : Nat} {A : Option Addr} {l : List SO} (h : w0.ownsRow B e 3 (.slice A n c) n (flatS l)) : SR w0 A n l := Reads.of_own h
theorem ownS_len {w0 : World} {B e n : Nat} {v : Value} {l : List SO} (h : w0.ownsRow B e 3 v n (flatS l)) : l.length = n := by have := h.1; rw [flatS_len] at this; omega
end Go.Proofs.YtiegpkbollihgaaDoor
