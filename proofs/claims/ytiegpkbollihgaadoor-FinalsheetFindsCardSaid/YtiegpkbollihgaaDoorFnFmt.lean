/- The text of a sheet, plainly: line by line. -/
import Derived.Test.YtiegpkbollihgaaDoorFnW8
import Derived.Test.YtiegpkbollihgaaDoorFnFinds
namespace Go.Proofs.YtiegpkbollihgaaDoor
open Go.RowKit
namespace Fn
/-- The first lines. -/
def pre (f : FN) (j : Nat) : List UInt8 := ended ((bodyW f).take j)
theorem pre_step {f : FN} {j : Nat} {w : List (List UInt8)} (h : (bodyW f)[j]? = some w) : pre f (j + 1) = pre f j ++ (join w ++ [10]) := by
  obtain ⟨hj, hw⟩ := List.getElem?_eq_some_iff.1 h
  unfold pre
  rw [List.take_succ_eq_append_getElem hj, ended_app, hw]
  simp [ended]
theorem pre_len {f : FN} (h : fErr f = 0) (hb : f.bk.length = 7) (j : Nat) : (pre f j).length ≤ 9000 := by
  have h1 := len_fmt h hb
  have h2 : body f = pre f j ++ ended ((bodyW f).drop j) := by
    unfold body pre
    rw [← ended_app, List.take_append_drop]
  unfold fmtL at h1
  rw [List.length_append, h2, List.length_append] at h1
  omega
theorem bodyW_len (f : FN) : (bodyW f).length = 2 + f.ws.length + f.so.length := by
  unfold bodyW
  simp
  omega
theorem pre_all {f : FN} {j : Nat} (h : 2 + f.ws.length + f.so.length ≤ j) : pre f j = body f := by
  unfold pre body
  rw [List.take_of_length_le (by rw [bodyW_len]; exact h)]
theorem at_train (f : FN) : (bodyW f)[0]? = some (trainW f) := rfl
theorem at_wagon {f : FN} {t : Nat} {x : WG} (h : f.ws[t]? = some x) : (bodyW f)[1 + t]? = some (wagonW x) := by
  have ht := (List.getElem?_eq_some_iff.1 h).1
  unfold bodyW
  rw [List.getElem?_append_left (by simp; omega), List.getElem?_append_left (by simp; omega), List.getElem?_append_right (by simp), List.getElem?_map]
  rw [show 1 + t - [trainW f].length = t by simp, h]
  rfl
theorem at_brakes (f : FN) : (bodyW f)[1 + f.ws.length]? = some (brakesW f) := by
  unfold bodyW
  rw [List.getElem?_append_left (by simp; omega), List.getElem?_append_right (by simp; omega)]
  rw [show 1 + f.ws.length - ([trainW f] ++ f.ws.map wagonW).length = 0 by simp; omega]
  rfl
theorem at_setout {f : FN} {t : Nat} {x : SO} (h : f.so[t]? = some x) : (bodyW f)[2 + f.ws.length + t]? = some (setoutW x) := by
  unfold bodyW
  rw [List.getElem?_append_right (by simp; omega), List.getElem?_map]
  rw [show 2 + f.ws.length + t - ([trainW f] ++ f.ws.map wagonW ++ [brakesW f]).length = t by simp; omega, h]
  rfl
theorem join_wagon (x : WG) : join (wagonW x) = (wWagon ++ 32 :: x.nu.data.toList ++ (wagL x).flatMap sp) ++ (32 :: gtW x.gt ++ (32 :: x.de.data.toList)) := by
  simp [wagonW, join, joinC, wagL, sp]
theorem join_train (f : FN) : join (trainW f) ++ [10] = wTrain ++ 32 :: f.nm.data.toList ++ [10] := by simp [trainW, join, joinC]
theorem join_brakes (f : FN) : join (brakesW f) ++ [10] = lineL wBrakes f.bk := by
  unfold brakesW lineL
  rw [join_nums]
theorem join_setout (x : SO) : join (setoutW x) ++ [10] = lineL wSetout (soL x) := by
  unfold setoutW lineL
  rw [join_nums]
theorem join_end (n : Nat) : join (endW n) ++ [10] = lineL wEnd [(n : Int)] := by
  have := join_nums [(n : Int)] wEnd
  unfold lineL
  rw [← this]
  rfl
theorem wag_line (p : List UInt8) (l : List Int) : (lineL p l).take ((lineL p l).length - 1) = p ++ l.flatMap sp := by
  unfold lineL
  rw [List.take_left']
  simp
theorem wag_in {x : WG} (h : wErr x = 0) : ∀ n ∈ wagL x, 0 ≤ n ∧ n ≤ 1000000000000 := fun n hn => by have := wag_nums h n hn; omega
theorem bk_in {f : FN} (h : fErr f = 0) : ∀ n ∈ f.bk, 0 ≤ n ∧ n ≤ 1000000000000 := fun n hn => by have := (fErr_zero h).2.2.2.2 n (by simp [nums, hn]); omega
theorem so_in {f : FN} (h : fErr f = 0) {x : SO} (hx : x ∈ f.so) : ∀ n ∈ soL x, 0 ≤ n ∧ n ≤ 1000000000000 := fun n hn => by have := (fErr_zero h).2.2.2.2 n (List.mem_append_right _ (List.mem_flatMap.2 ⟨x, hx, hn⟩)); omega
theorem nu_size {x : WG} (h : wErr x = 0) : x.nu.size = 12 := by
  have h1 := (wErr_zero h).1
  unfold kErr at h1
  split at h1
  · cases h1
  · rename_i h2
    rw [Decidable.not_not] at h2
    exact h2.1
theorem de_size {x : WG} (h : wErr x = 0) : x.de.size ≤ 12 := by
  have h1 := (wErr_zero h).2.2.2
  unfold Pl.nameOk at h1
  simp only [Bool.and_eq_true, decide_eq_true_eq] at h1
  exact h1.1.2
theorem nm_size {s : ByteArray} (h1 : Pl.nameOk s = true) : s.size ≤ 12 := by
  unfold Pl.nameOk at h1
  simp only [Bool.and_eq_true, decide_eq_true_eq] at h1
  exact h1.1.2
theorem lineL_len {p : List UInt8} {l : List Int} (h : ∀ x ∈ l, 0 ≤ x ∧ x ≤ 1000000000000) : (lineL p l).length ≤ p.length + 22 * l.length + 1 := by
  have := sp_len h
  unfold lineL
  simp only [List.length_append, List.length_singleton]
  omega
end Fn
def FFormatR (f : FN) (w : World) (e : Ending) (w' : World) : Prop := e = .returned (.tuple #[.string (baOf (Fn.fmt f).1), .int .i64 (Fn.fmt f).2]) ∧ Below w.heap.size w w'
theorem fformatR_bad {f : FN} {w w' : World} (h : ¬ Fn.fErr f = 0) (hb : Below w.heap.size w w') : FFormatR f w (.returned (.tuple #[.string ⟨#[]⟩, .int .i64 (Fn.fErr f)])) w' := by
  unfold FFormatR Fn.fmt
  rw [if_neg h]
  exact ⟨rfl, hb⟩
theorem fformatR_ok {f : FN} {w w' : World} {s : ByteArray} (h : Fn.fErr f = 0) (hs : s = baOf (Fn.fmtL f)) (hb : Below w.heap.size w w') : FFormatR f w (.returned (.tuple #[.string s, .int .i64 0])) w' := by
  unfold FFormatR Fn.fmt
  rw [if_pos h, hs]
  exact ⟨rfl, hb⟩
end Go.Proofs.YtiegpkbollihgaaDoor
