/- The walks of a line of a sheet, program and reference. -/
import Derived.Test.YtiegpkbollihgaaDoorFnW7
import Derived.Test.YtiegpkbollihgaaDoorLyLib
namespace Go.Proofs.YtiegpkbollihgaaDoor
open Go.RowKit
namespace Fn
theorem ba_ext {a b : ByteArray} (h : a.data.toList = b.data.toList) : a = b := ByteArray.ext (Array.ext' h)
theorem ba_size (l : List UInt8) : (baOf l).size = l.length := by simp [baOf, ByteArray.size]
def sp (n : Int) : List UInt8 := 32 :: Lib.itoa n
theorem join_nums : ∀ (l : List Int) (p : List UInt8), join (p :: l.map Lib.itoa) = p ++ l.flatMap sp := by
  intro l
  induction l with
  | nil => intro p; simp [join, joinC]
  | cons n t ih =>
    intro p
    have h := ih (Lib.itoa n)
    show p ++ 32 :: join (Lib.itoa n :: t.map Lib.itoa) = _
    rw [h]
    simp [sp]
def lineL (p : List UInt8) (l : List Int) : List UInt8 := p ++ l.flatMap sp ++ [10]
theorem ba_sp (p : List UInt8) (n : Int) : baOf p ++ ((⟨#[32]⟩ : ByteArray) ++ bOf (Lib.itoa n)) = baOf (p ++ sp n) := ba_ext (by simp [baOf, bOf, sp])
theorem ba_nl (p : List UInt8) : baOf p ++ (⟨#[10]⟩ : ByteArray) = baOf (p ++ [10]) := ba_ext (by simp [baOf])
theorem sp_take {l : List Int} {t : Nat} (h : t < l.length) : (l.take (t + 1)).flatMap sp = (l.take t).flatMap sp ++ sp (l.getD t 0) := by
  rw [List.take_succ_eq_append_getElem h, List.getD_eq_getElem?_getD, List.getElem?_eq_getElem h, List.flatMap_append]
  simp only [List.flatMap_cons, List.flatMap_nil, List.append_nil, Option.getD_some]
theorem sp_len {l : List Int} (h : ∀ x ∈ l, 0 ≤ x ∧ x ≤ 1000000000000) : (l.flatMap sp).length ≤ 22 * l.length := by
  induction l with
  | nil => exact Nat.zero_le _
  | cons x t ih =>
    have h1 := ih fun y hy => h y (List.mem_cons_of_mem _ hy)
    have h2 := h x (by simp)
    have h3 := Lib.itoa_length_le x (by omega) (by omega)
    rw [List.flatMap_cons, List.length_append, List.length_cons]
    have h4 : (sp x).length = (Lib.itoa x).length + 1 := rfl
    omega
theorem getD_in {l : List Int} (h : ∀ x ∈ l, 0 ≤ x ∧ x ≤ 1000000000000) {t : Nat} (ht : t < l.length) : 0 ≤ l.getD t 0 ∧ l.getD t 0 ≤ 1000000000000 := by
  rw [List.getD_eq_getElem?_getD, List.getElem?_eq_getElem ht]
  exact h _ (List.getElem_mem ht)
end Fn
def LnI (w : World) (p : List UInt8) (l : List Int) (n : Nat) (vp vi : Value) (wr : World) : Prop := ∃ t : Nat, t ≤ n ∧ vi = .int .i64 (t : Int) ∧ vp = .string (baOf (p ++ (l.take t).flatMap Fn.sp)) ∧ Below w.heap.size w wr
set_option maxHeartbeats 4000000 in
theorem fline_c (p : List UInt8) (A : Option Addr) (n c : Nat) (l : List Int) (w : World) (hp : p.length ≤ 1000) (hn : n ≤ 100) (h : IR .i64 w A n l) (hl : ∀ x ∈ l, 0 ≤ x ∧ x ≤ 1000000000000) (ht : Tab10 w) :
    Calls Tryd.prog 35 #[.string (baOf p), .slice A n c] w fun e w' => e = .returned (.string (baOf (Fn.lineL p l))) ∧ Below w.heap.size w w' := by
  have hll := h.len
  have Hh := Lib.hid h
  have Hl := Lib.hid hl
  have Hll := Lib.hid hll
  have Hsz := Lib.hid (fun t => Fn.sp_len (l := l.take t) (fun x hx => hl x (List.mem_of_mem_take hx)))
  clear h hl hll
  go_enter Tryd.func35, Tryd.ntmps35
  go_wp2_with fail
  go_loopw [0, 9] (fun vp vi wr => LnI w p l n vp vi wr) (fun _ vi _ => n - (intOf vi).toNat)
  case atStart => exact (show LnI _ _ _ _ _ _ _ from ⟨0, by omega, rfl, by simp, Below.refl _ _⟩)
  case round =>
    obtain ⟨t, htn, rfl, rfl, hbr⟩ := hrel
    obtain ⟨s, hs⟩ : ∃ s, baOf (p ++ (l.take t).flatMap Fn.sp) = s := ⟨_, rfl⟩
    have hz : s.size ≤ 1000 + 22 * 100 := by
      rw [← hs, Fn.ba_size, List.length_append]
      have h1 := Hsz.out t
      rw [List.length_take, Hll.out, Nat.min_eq_left htn] at h1
      omega
    have Hs := Lib.hid hs
    rw [hs]
    clear hs
    by_cases hlt : t < n
    · have hti : (t : Int) < (n : Int) := by omega
      obtain ⟨ad, rfl, hc⟩ := ir_at (Hh.out.below hbr) hlt
      have hx := Fn.getD_in Hl.out (t := t) (by rw [Hll.out]; exact hlt)
      have Hst := Lib.hid (Fn.sp_take (l := l) (t := t) (by rw [Hll.out]; exact hlt))
      obtain ⟨x, hxx⟩ : ∃ x, l.getD t 0 = x := ⟨_, rfl⟩
      rw [hxx] at hx hc Hst
      obtain ⟨hx0, hx1⟩ := hx
      clear hxx
      go_wp2_with fail
      refine (itoa_c x (by omega) (by omega) wr (ht.below hbr)).mono ?_
      rintro e w2 ⟨rfl, hb2⟩
      have hi21 : (bOf (Lib.itoa x)).size ≤ 21 := by rw [bOf_size]; exact Lib.itoa_length_le x (by omega) (by omega)
      have e32 : (⟨#[32]⟩ : ByteArray).size = 1 := rfl
      have hbr2 := below_step hbr hb2
      go_wp2_with fail
      go_roundw
      case rel => exact (show LnI _ _ _ _ _ _ _ from ⟨t + 1, by omega, by go_num, by rw [Hst.out, ← List.append_assoc, ← Fn.ba_sp, Hs.out], hbr2⟩)
      case measure => simp [intOf]; omega
    · obtain rfl : t = n := by omega
      have e10 : (⟨#[10]⟩ : ByteArray).size = 1 := rfl
      have Hf : Hid (s ++ (⟨#[10]⟩ : ByteArray) = baOf (Fn.lineL p l)) := Lib.hid (by
        rw [← Hs.out, Fn.ba_nl, List.take_of_length_le (by rw [Hll.out]; exact Nat.le_refl _)]
        rfl)
      go_wp2_with fail
      go_ret
      exact ⟨by rw [← Hf.out]; rfl, hbr⟩
set_option maxHeartbeats 4000000 in
theorem rline38_c (p : List UInt8) (A : Option Addr) (n c : Nat) (l : List Int) (w : World) (hp : p.length ≤ 1000) (hn : n ≤ 100) (h : IR .i64 w A n l) (hl : ∀ x ∈ l, 0 ≤ x ∧ x ≤ 1000000000000) :
    Calls Tryd.prog 27 #[.string (baOf p), .slice A n c] w fun e w' => e = .returned (.string (baOf (Fn.lineL p l))) ∧ Below w.heap.size w w' := by
  have hll := h.len
  have Hh := Lib.hid h
  have Hl := Lib.hid hl
  have Hll := Lib.hid hll
  have Hsz := Lib.hid (fun t => Fn.sp_len (l := l.take t) (fun x hx => hl x (List.mem_of_mem_take hx)))
  clear h hl hll
  go_enter Tryd.func27, Tryd.ntmps27
  go_wp2_with fail
  go_loopw [0, 5] (fun vp vi wr => LnI w p l n vp vi wr) (fun _ vi _ => n - (intOf vi).toNat)
  case atStart => exact (show LnI _ _ _ _ _ _ _ from ⟨0, by omega, rfl, by simp, Below.refl _ _⟩)
  case round =>
    obtain ⟨t, htn, rfl, rfl, hbr⟩ := hrel
    obtain ⟨s, hs⟩ : ∃ s, baOf (p ++ (l.take t).flatMap Fn.sp) = s := ⟨_, rfl⟩
    have hz : s.size ≤ 1000 + 22 * 100 := by
      rw [← hs, Fn.ba_size, List.length_append]
      have h1 := Hsz.out t
      rw [List.length_take, Hll.out, Nat.min_eq_left htn] at h1
      omega
    have Hs := Lib.hid hs
    rw [hs]
    clear hs
    by_cases hlt : t < n
    · have hti : (t : Int) < (n : Int) := by omega
      obtain ⟨ad, rfl, hc⟩ := ir_at (Hh.out.below hbr) hlt
      have hx := Fn.getD_in Hl.out (t := t) (by rw [Hll.out]; exact hlt)
      have Hst := Lib.hid (Fn.sp_take (l := l) (t := t) (by rw [Hll.out]; exact hlt))
      obtain ⟨x, hxx⟩ : ∃ x, l.getD t 0 = x := ⟨_, rfl⟩
      rw [hxx] at hx hc Hst
      obtain ⟨hx0, hx1⟩ := hx
      clear hxx
      go_wp2_with fail
      refine (dec_int x (by omega) (by omega) wr).mono ?_
      rintro e w2 ⟨rfl, hb2⟩
      have hi21 : (bOf (Lib.itoa x)).size ≤ 21 := by rw [bOf_size]; exact Lib.itoa_length_le x (by omega) (by omega)
      have e32 : (⟨#[32]⟩ : ByteArray).size = 1 := rfl
      have hbr2 := below_step hbr hb2
      go_wp2_with fail
      go_roundw
      case rel => exact (show LnI _ _ _ _ _ _ _ from ⟨t + 1, by omega, by go_num, by rw [Hst.out, ← List.append_assoc, ← Fn.ba_sp, Hs.out], hbr2⟩)
      case measure => simp [intOf]; omega
    · obtain rfl : t = n := by omega
      have e10 : (⟨#[10]⟩ : ByteArray).size = 1 := rfl
      have Hf : Hid (s ++ (⟨#[10]⟩ : ByteArray) = baOf (Fn.lineL p l)) := Lib.hid (by
        rw [← Hs.out, Fn.ba_nl, List.take_of_length_le (by rw [Hll.out]; exact Nat.le_refl _)]
        rfl)
      go_wp2_with fail
      go_ret
      exact ⟨by rw [← Hf.out]; rfl, hbr⟩
end Go.Proofs.YtiegpkbollihgaaDoor
