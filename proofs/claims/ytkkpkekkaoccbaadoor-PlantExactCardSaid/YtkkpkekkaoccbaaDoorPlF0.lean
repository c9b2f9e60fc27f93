/- The text of a plant, plainly. -/
import Derived.Test.YtkkpkekkaoccbaaDoorPlL5
import Derived.Test.YtkkpkekkaoccbaaDoorDec
namespace Go.Proofs.YtkkpkekkaoccbaaDoor
open Go.RowKit
namespace Pl
def sp (n : Int) : List UInt8 := 32 :: Lib.itoa n
def kindW (k : Int) : List UInt8 := (WordK k).1.data.toList
def nums (x : PE) : List Int := ends x ++ (if x.k = 1 then [x.len] else [])
def lineF (x : PE) : List UInt8 := kindW x.k ++ 32 :: (x.nm.data.toList ++ ((nums x).flatMap sp ++ [10]))
def fmtL (l : List PE) : List UInt8 := l.flatMap lineF
def fmt (l : List PE) : List UInt8 × Int := if vErr l = 0 then (fmtL l, 0) else ([], vErr l)
theorem fmtL_snoc (l : List PE) (x : PE) : fmtL (l ++ [x]) = fmtL l ++ lineF x := by simp [fmtL]
theorem vGo_sound : ∀ (r prev : List PE), vGo r prev = 0 → ∀ x ∈ r, sound x = true := by
  intro r
  induction r with
  | nil => intro _ _ x hx; cases hx
  | cons y t ih =>
    intro prev h x hx
    rw [vGo_cons] at h
    split at h
    · omega
    · rename_i h1
      split at h
      · omega
      · split at h
        · omega
        · rcases List.mem_cons.1 hx with rfl | hx
          · simpa using h1
          · exact ih _ h x hx
theorem vErr_zero {l : List PE} (h : vErr l = 0) : l.length ≤ 96 ∧ ∀ x ∈ l, sound x = true := by
  unfold vErr at h
  split at h
  · omega
  · exact ⟨by omega, vGo_sound l [] h⟩
theorem sound_bd {x : PE} (h : sound x = true) : (x.k = 1 ∨ x.k = 2 ∨ x.k = 3) ∧ x.nm.size ≤ 12 ∧ (0 ≤ x.a ∧ x.a < 64) ∧ (0 ≤ x.b ∧ x.b < 64) ∧ (0 ≤ x.c ∧ x.c < 64) ∧ (0 ≤ x.len ∧ x.len ≤ 100000) := by
  obtain ⟨h1, h2, h3⟩ := sound_parts h
  have hn := nameOk_le h2
  have h4 : rest x = true := by simp only [sound, Bool.and_eq_true] at h; exact h.2
  have hm := ((nodes_iff _ _).1 h3).1
  have hk : x.k = 1 ∨ x.k = 2 ∨ x.k = 3 := by
    unfold ends at h1
    split at h1
    · omega
    · split at h1
      · omega
      · exact absurd rfl h1
  unfold rest at h4
  rcases hk with hk | hk | hk
  · have he : ends x = [x.a, x.b] := by unfold ends; rw [if_pos (by omega)]
    rw [he] at hm
    have ha := hm x.a (by simp)
    have hb := hm x.b (by simp)
    simp only [hk, if_true, Bool.and_eq_true, decide_eq_true_eq] at h4
    exact ⟨.inl hk, hn.2, ⟨ha.1, ha.2.1⟩, ⟨hb.1, hb.2.1⟩, by omega, by omega⟩
  · have he : ends x = [x.a, x.b, x.c] := by unfold ends; rw [if_neg (by omega), if_pos hk]
    rw [he] at hm
    have ha := hm x.a (by simp)
    have hb := hm x.b (by simp)
    have hc := hm x.c (by simp)
    rw [if_neg (by omega)] at h4
    simp only [Bool.and_eq_true, decide_eq_true_eq] at h4
    exact ⟨.inr (.inl hk), hn.2, ⟨ha.1, ha.2.1⟩, ⟨hb.1, hb.2.1⟩, ⟨hc.1, hc.2.1⟩, by omega⟩
  · have he : ends x = [x.a, x.b] := by unfold ends; rw [if_pos (by omega)]
    rw [he] at hm
    have ha := hm x.a (by simp)
    have hb := hm x.b (by simp)
    rw [if_neg (by omega)] at h4
    simp only [Bool.and_eq_true, Bool.or_eq_true, decide_eq_true_eq] at h4
    exact ⟨.inr (.inr hk), hn.2, ⟨ha.1, ha.2.1⟩, ⟨hb.1, hb.2.1⟩, by omega, by omega⟩
theorem sp_len (n : Int) (h0 : 0 ≤ n) (h1 : n ≤ 100000) : (sp n).length ≤ 22 := by
  have := Lib.itoa_length_le n (by omega) (by omega)
  simp only [sp, List.length_cons]
  omega
theorem kindW_len (k : Int) : (kindW k).length ≤ 8 := by
  unfold kindW WordK
  split
  · decide
  · split
    · decide
    · split
      · decide
      · decide
theorem lineF_len {x : PE} (h : sound x = true) : (lineF x).length ≤ 100 := by
  obtain ⟨hk, hn, ⟨a0, a1⟩, ⟨b0, b1⟩, ⟨c0, c1⟩, l0, l1⟩ := sound_bd h
  have ha := sp_len x.a a0 (by omega)
  have hb := sp_len x.b b0 (by omega)
  have hc := sp_len x.c c0 (by omega)
  have hl := sp_len x.len l0 l1
  have hw := kindW_len x.k
  have hs : x.nm.data.toList.length = x.nm.size := by simp
  have hnum : ((nums x).flatMap sp).length ≤ 66 := by
    rcases hk with hk | hk | hk
    · have he : nums x = [x.a, x.b, x.len] := by unfold nums ends; rw [if_pos (by omega), if_pos hk]; rfl
      rw [he]; simp only [List.flatMap_cons, List.flatMap_nil, List.length_append, List.length_nil]; omega
    · have he : nums x = [x.a, x.b, x.c] := by unfold nums ends; rw [if_neg (by omega), if_pos hk, if_neg (by omega)]; rfl
      rw [he]; simp only [List.flatMap_cons, List.flatMap_nil, List.length_append, List.length_nil]; omega
    · have he : nums x = [x.a, x.b] := by unfold nums ends; rw [if_pos (by omega), if_neg (by omega)]; rfl
      rw [he]; simp only [List.flatMap_cons, List.flatMap_nil, List.length_append, List.length_nil]; omega
  simp only [lineF, List.length_append, List.length_cons, List.length_nil, hs]
  omega
theorem fmtL_len : ∀ (l : List PE), (∀ x ∈ l, sound x = true) → (fmtL l).length ≤ 100 * l.length := by
  intro l
  induction l with
  | nil => intro _; simp [fmtL]
  | cons x r ih =>
    intro h
    have h1 := lineF_len (h x (by simp))
    have h2 := ih (fun y hy => h y (by simp [hy]))
    simp only [fmtL, List.flatMap_cons, List.length_append, List.length_cons] at h2 ⊢
    omega
end Pl
def FormatR (l : List PE) (w : World) (e : Ending) (w' : World) : Prop := e = .returned (.tuple #[.string (bOf (Pl.fmt l).1), .int .i64 (Pl.fmt l).2]) ∧ Below w.heap.size w w'
theorem formatR_bad {l : List PE} {w w' : World} (h : ¬ Pl.vErr l = 0) (hb : Below w.heap.size w w') : FormatR l w (.returned (.tuple #[.string ⟨#[]⟩, .int .i64 (Pl.vErr l)])) w' := by
  unfold FormatR Pl.fmt
  rw [if_neg h]
  exact ⟨rfl, hb⟩
theorem formatR_ok {l : List PE} {w w' : World} {s : ByteArray} (h : Pl.vErr l = 0) (hs : s = bOf (Pl.fmtL l)) (hb : Below w.heap.size w w') : FormatR l w (.returned (.tuple #[.string s, .int .i64 0])) w' := by
  unfold FormatR Pl.fmt
  rw [if_pos h, hs]
  exact ⟨rfl, hb⟩
theorem bOf_app (p q : List UInt8) : bOf p ++ bOf q = bOf (p ++ q) := by
  apply ByteArray.ext
  simp [bOf]
theorem bOf_self (s : ByteArray) : bOf s.data.toList = s := rfl
theorem bOf_lit (a : Array UInt8) : (⟨a⟩ : ByteArray) = bOf a.toList := rfl
end Go.Proofs.YtkkpkekkaoccbaaDoor
