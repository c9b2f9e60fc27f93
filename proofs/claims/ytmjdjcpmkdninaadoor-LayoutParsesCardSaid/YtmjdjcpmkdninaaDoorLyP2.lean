/- The walk of layout's element: the words of a line. -/
import Derived.Test.YtmjdjcpmkdninaaDoorLyN2
import Derived.Test.YtmjdjcpmkdninaaDoorLyG2
import Derived.Test.YtmjdjcpmkdninaaDoorArr
import Derived.Deep.RegionHeld3
namespace Go.Proofs.YtmjdjcpmkdninaaDoor
open Go.RowKit
theorem own_wd {w0 : World} {B e n g cap : Nat} {W : List (List UInt8)} (h : w0.ownsRow B e 1 (.slice (some ⟨g, 0, none⟩) n cap) n ((W.map baOf).map Value.string)) {j : Nat} (hj : j < n) : w0.cell? ⟨g, j, none⟩ = some (.string (baOf (Ly.wd W j))) := by
  rw [h.cellAt j (by omega)]
  have hl : W.length = n := by have := h.1; simpa using this
  rw [List.getElem?_map, List.getElem?_map, List.getElem?_eq_getElem (by omega), Ly.wd, List.getD_eq_getElem?_getD, List.getElem?_eq_getElem (by omega)]
  rfl
def leZ : LE := ⟨0, ⟨#[]⟩, 0, 0, 0, 0, 0, 0⟩
/-- What an element's reading returns. -/
def LElemQ (o : Int ⊕ LE) (x : LE) (er : Int) : Prop := match o with
  | .inl e => er = e ∧ er ≠ 0
  | .inr y => er = 0 ∧ x = y
def LElemR (l : List LE) (W : List (List UInt8)) (w : World) (e : Ending) (w' : World) : Prop := ∃ x er, e = .returned (.tuple #[leV x, .int .i64 er]) ∧ LElemQ (Ly.elemB l W) x er ∧ Below w.heap.size w w'
theorem lelem_end {l : List LE} {Ws : List (List UInt8)} {w W : World} (hb : Blk W w.heap.size 48 #[.int .i64 0, .string ⟨#[]⟩, .int .i64 0, .int .i64 0, .int .i64 0, .int .i64 0, .int .i64 0, .int .i64 0]) (hw : Below w.heap.size w W) (x : LE) (er : Int) (hq : LElemQ (Ly.elemB l Ws) x er) :
    Blk (store8 W w.heap.size x) w.heap.size 48 #[.int .i64 x.k, .string x.nm, .int .i64 x.p, .int .i64 x.sd, .int .i64 x.len, .int .i64 x.g, .int .i64 x.c, .int .i64 x.pw] ∧ LElemR l Ws w (.returned (.tuple #[leV x, .int .i64 er])) (store8 W w.heap.size x) :=
  ⟨store8_blk x hb, x, er, rfl, hq, hw.grown (store8_grown W w.heap.size x) hw.size (fun g e => by have := Option.some.inj e; omega)⟩
namespace Ly
variable {l : List LE} {W : List (List UInt8)}
theorem el_none (h : kindOf (wd W 0) = none) (x : LE) : LElemQ (elemB l W) x 6 := by
  unfold elemB
  rw [h]
  exact ⟨rfl, by decide⟩
theorem el_count {k : Int} (h : kindOf (wd W 0) = some k) (hn : W.length ≠ wantW k) (x : LE) : LElemQ (elemB l W) x 6 := by
  unfold elemB
  rw [h]
  simp only
  rw [if_pos hn]
  exact ⟨rfl, by decide⟩
theorem any_isNone {t : Nat} (ht : t + 3 < W.length) (h : Tx.numZ (wd W (t + 3)) = none) : ((W.drop 3).any fun s => (Tx.numZ s).isNone) = true := by
  rw [List.any_eq_true]
  refine ⟨wd W (t + 3), ?_, by rw [h]; rfl⟩
  unfold wd
  rw [List.getD_eq_getElem?_getD, List.getElem?_eq_getElem (by omega), Option.getD_some]
  exact List.mem_iff_getElem?.2 ⟨t, by rw [List.getElem?_drop, Nat.add_comm 3 t, List.getElem?_eq_getElem (by omega)]⟩
theorem el_num {k : Int} (h : kindOf (wd W 0) = some k) (hn : W.length = wantW k) {t : Nat} (ht : t + 3 < W.length) (hz : Tx.numZ (wd W (t + 3)) = none) (x : LE) : LElemQ (elemB l W) x 6 := by
  unfold elemB
  rw [h]
  simp only
  rw [if_neg (by simpa using hn), if_pos (any_isNone ht hz)]
  exact ⟨rfl, by decide⟩
/-- The numbers read so far. -/
def NumS (W : List (List UInt8)) (t : Nat) (f : Nat → Int) (b : Bool) : Prop := (∀ j, j < t → ∃ o, Tx.numZ (wd W (j + 3)) = some o ∧ ∀ v, o = some v → f j = v) ∧ (∀ j, t ≤ j → f j = 0) ∧ (b = true ↔ ∃ j, j < t ∧ Tx.numZ (wd W (j + 3)) = some none)
theorem NumS.start : NumS W 0 (fun _ => 0) false := ⟨fun j h => by omega, fun _ _ => rfl, by simp⟩
theorem NumS.step {t : Nat} {f : Nat → Int} {b : Bool} (h : NumS W t f b) {o : Option Int} (ho : Tx.numZ (wd W (t + 3)) = some o) {n : Int} (hn : ∀ v, o = some v → n = v) {b' : Bool} (hb : b' = (b || decide (o = none))) : NumS W (t + 1) (fun j => if j = t then n else f j) b' := by
  refine ⟨fun j hj => ?_, fun j hj => ?_, ?_⟩
  · by_cases e : j = t
    · subst e
      exact ⟨o, ho, fun v hv => by simp only [if_true]; exact hn v hv⟩
    · obtain ⟨o', h1, h2⟩ := h.1 j (by omega)
      exact ⟨o', h1, fun v hv => by simp only [if_neg e]; exact h2 v hv⟩
  · simp only [if_neg (show ¬ j = t by omega)]
    exact h.2.1 j (by omega)
  · rw [hb, Bool.or_eq_true, decide_eq_true_eq, h.2.2]
    constructor
    · rintro (⟨j, hj, hz⟩ | e)
      · exact ⟨j, by omega, hz⟩
      · exact ⟨t, by omega, by rw [ho, e]⟩
    · rintro ⟨j, hj, hz⟩
      by_cases e : j = t
      · subst e
        rw [ho] at hz
        exact .inr (Option.some.inj hz)
      · exact .inl ⟨j, by omega, hz⟩
theorem drop_mem {s : List UInt8} (h : s ∈ W.drop 3) : ∃ j, j + 3 < W.length ∧ s = wd W (j + 3) := by
  obtain ⟨j, hj⟩ := List.mem_iff_getElem?.1 h
  rw [List.getElem?_drop] at hj
  have hl := (List.getElem?_eq_some_iff.1 hj).1
  refine ⟨j, by omega, ?_⟩
  unfold wd
  rw [List.getD_eq_getElem?_getD, Nat.add_comm j 3, hj]; rfl
theorem NumS.nones {t : Nat} {f : Nat → Int} {b : Bool} (h : NumS W t f b) (ht : W.length ≤ t + 3) : ((W.drop 3).any fun s => (Tx.numZ s).isNone) = false ∧ (((W.drop 3).any fun s => Tx.numZ s == some none) = true → b = true) ∧ (t + 3 ≤ W.length → b = true → ((W.drop 3).any fun s => Tx.numZ s == some none) = true) := by
  refine ⟨?_, fun h3 => ?_, fun h2 hb => ?_⟩
  · rw [List.any_eq_false]
    intro s hs
    obtain ⟨j, hj, rfl⟩ := drop_mem hs
    obtain ⟨o, ho, _⟩ := h.1 j (by omega)
    rw [ho]; simp
  · obtain ⟨s, hs, hz⟩ := List.any_eq_true.1 h3
    obtain ⟨j, hj, rfl⟩ := drop_mem hs
    exact h.2.2.2 ⟨j, by omega, by simpa using hz⟩
  · obtain ⟨j, hj, hz⟩ := h.2.2.1 hb
    rw [List.any_eq_true]
    refine ⟨wd W (j + 3), ?_, by rw [hz]; rfl⟩
    unfold wd
    rw [List.getD_eq_getElem?_getD, List.getElem?_eq_getElem (by omega), Option.getD_some]
    exact List.mem_iff_getElem?.2 ⟨j, by rw [List.getElem?_drop, Nat.add_comm 3 j, List.getElem?_eq_getElem (by omega)]⟩
theorem el_range {k : Int} (h : kindOf (wd W 0) = some k) (hn : W.length = wantW k) {t : Nat} {f : Nat → Int} (hs : NumS W t f true) (ht : W.length = t + 3) (x : LE) : LElemQ (elemB l W) x 2 := by
  obtain ⟨h1, _, h3⟩ := hs.nones (by omega)
  unfold elemB
  rw [h]
  simp only
  rw [if_neg (by simpa using hn), if_neg (by rw [h1]; decide), if_pos (h3 (by omega) rfl)]
  exact ⟨rfl, by decide⟩
theorem el_name {k : Int} (h : kindOf (wd W 0) = some k) (hn : W.length = wantW k) {t : Nat} {f : Nat → Int} (hs : NumS W t f false) (ht : W.length ≤ t + 3) (hm : Pl.nameOk (baOf (wd W 1)) = false) (x : LE) : LElemQ (elemB l W) x 7 := by
  obtain ⟨h1, h2, _⟩ := hs.nones ht
  unfold elemB
  rw [h]
  simp only
  rw [if_neg (by simpa using hn), if_neg (by rw [h1]; decide), if_neg (fun e => Bool.false_ne_true (h2 e)), if_pos hm]
  exact ⟨rfl, by decide⟩
theorem el_crest (h : kindOf (wd W 0) = some 0) (hn : W.length = 2) (hm : Pl.nameOk (baOf (wd W 1)) = true) : LElemQ (elemB l W) ⟨0, baOf (wd W 1), -1, 0, 0, 0, 0, 0⟩ 0 := by
  obtain ⟨h1, h2, _⟩ := (NumS.start (W := W)).nones (by omega)
  unfold elemB
  rw [h]
  simp only
  rw [if_neg (by simpa [wantW] using hn), if_neg (by rw [h1]; decide), if_neg (fun e => Bool.false_ne_true (h2 e)), if_neg (by rw [hm]; decide)]
  exact ⟨rfl, rfl⟩
theorem el_par {k : Int} (h : kindOf (wd W 0) = some k) (hk : k ≠ 0) (hn : W.length = wantW k) {t : Nat} {f : Nat → Int} (hs : NumS W t f false) (ht : W.length ≤ t + 3) (hm : Pl.nameOk (baOf (wd W 1)) = true) (hi : idxGo (sufOf (wd W 2)).1 l 0 = none) (x : LE) : LElemQ (elemB l W) x 7 := by
  obtain ⟨h1, h2, _⟩ := hs.nones ht
  unfold elemB
  rw [h]
  simp only
  rw [if_neg (by simpa using hn), if_neg (by rw [h1]; decide), if_neg (fun e => Bool.false_ne_true (h2 e)), if_neg (by rw [hm]; decide), if_neg hk, hi]
  exact ⟨rfl, by decide⟩
theorem NumS.nv {t : Nat} {f : Nat → Int} (hs : NumS W t f false) {j : Nat} (hj : j < t) : nv W (j + 3) = f j := by
  obtain ⟨o, h1, h2⟩ := hs.1 j hj
  unfold Ly.nv
  rw [h1]
  cases o with
  | none => exact absurd (hs.2.2.2 ⟨j, hj, h1⟩) (by decide)
  | some v => exact (h2 v rfl).symm
theorem el_ok {k : Int} (h : kindOf (wd W 0) = some k) (hk : k ≠ 0) (hn : W.length = wantW k) {t : Nat} {f : Nat → Int} (hs : NumS W t f false) (ht : W.length = t + 3) (ht2 : k = 2 ∧ t = 4 ∨ k ≠ 2 ∧ t = 3) (hm : Pl.nameOk (baOf (wd W 1)) = true) {i : Nat} (hi : idxGo (sufOf (wd W 2)).1 l 0 = some i) :
    LElemQ (elemB l W) ⟨k, baOf (wd W 1), (i : Int), (sufOf (wd W 2)).2, f 0, f 1, f 2, f 3⟩ 0 := by
  obtain ⟨h1, h2, _⟩ := hs.nones (by omega)
  unfold elemB
  rw [h]
  simp only
  rw [if_neg (by simpa using hn), if_neg (by rw [h1]; decide), if_neg (fun e => Bool.false_ne_true (h2 e)), if_neg (by rw [hm]; decide), if_neg hk, hi]
  have e0 := hs.nv (j := 0) (by omega)
  have e1 := hs.nv (j := 1) (by omega)
  have e2 := hs.nv (j := 2) (by omega)
  have e3 : (if k = 2 then Ly.nv W 6 else 0) = f 3 := by
    rcases ht2 with ⟨a, b⟩ | ⟨a, b⟩
    · rw [if_pos a]; exact hs.nv (j := 3) (by omega)
    · rw [if_neg a]; exact (hs.2.1 3 (by omega)).symm
  refine ⟨rfl, ?_⟩
  rw [e3]
  simp only [Nat.zero_add] at e0 e1 e2
  rw [e0, e1, e2]
end Ly
end Go.Proofs.YtmjdjcpmkdninaaDoor
