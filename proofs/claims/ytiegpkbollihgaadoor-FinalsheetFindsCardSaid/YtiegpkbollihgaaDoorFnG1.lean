/- The walks of humpgen's Name and Digits. -/
import Derived.Test.YtiegpkbollihgaaDoorFnNum
import Derived.Test.YtiegpkbollihgaaDoorGenSpoil
import Derived.Test.YtiegpkbollihgaaDoorReg3
namespace Go.Proofs.YtiegpkbollihgaaDoor
open Go.RowKit
theorem names_cell {W : World} {b : Nat} {e : TypeId} (h : Blk W b e #[.string ⟨#[97]⟩, .string ⟨#[98]⟩, .string ⟨#[99]⟩, .string ⟨#[100]⟩, .string ⟨#[101]⟩, .string ⟨#[110, 111, 114, 116, 104]⟩, .string ⟨#[115, 111, 117, 116, 104]⟩, .string ⟨#[112, 111, 114, 116, 49]⟩, .string ⟨#[120, 57]⟩, .string ⟨#[97, 98, 99, 100, 101, 102, 103, 104, 105, 106, 107, 108]⟩]) {y : Nat} (hy : y < 10) : ∃ q : ByteArray, Pl.nameOk q = true ∧ W.cell? ⟨b, y, none⟩ = some (.string q) := by
  have hh : y = 0 ∨ y = 1 ∨ y = 2 ∨ y = 3 ∨ y = 4 ∨ y = 5 ∨ y = 6 ∨ y = 7 ∨ y = 8 ∨ y = 9 := by omega
  rcases hh with rfl | rfl | rfl | rfl | rfl | rfl | rfl | rfl | rfl | rfl
  · exact ⟨_, by decide +kernel, h.cell 0⟩
  · exact ⟨_, by decide +kernel, h.cell 1⟩
  · exact ⟨_, by decide +kernel, h.cell 2⟩
  · exact ⟨_, by decide +kernel, h.cell 3⟩
  · exact ⟨_, by decide +kernel, h.cell 4⟩
  · exact ⟨_, by decide +kernel, h.cell 5⟩
  · exact ⟨_, by decide +kernel, h.cell 6⟩
  · exact ⟨_, by decide +kernel, h.cell 7⟩
  · exact ⟨_, by decide +kernel, h.cell 8⟩
  · exact ⟨_, by decide +kernel, h.cell 9⟩
theorem grown_then' {w w1 w2 : World} {r s : Option Nat} (h : w.grownBy w1 r) (k : w1.grownBy w2 s) (hs : ∀ b, s = some b → r = some b ∨ w.heap.size ≤ b) : w.grownBy w2 r :=
  ⟨k.os.trans h.os, k.tape.trans h.tape, k.output.trans h.output, Nat.le_trans h.size k.size, fun i hi hne => (k.block i (Nat.lt_of_lt_of_le hi h.size) (fun e => by
    rcases hs i e.symm with h1 | h1
    · exact hne h1.symm
    · omega)).trans (h.block i hi hne)⟩
set_option maxHeartbeats 2000000 in
theorem gname_c (B g c : Nat) (w : World) (h : Mk B w g c) (hc : c ≤ 2305843009213693952) :
    Calls Tryd.prog 23 #[.pointer (some ⟨g, 0, none⟩)] w fun e w' => (∃ q : ByteArray, e = .returned (.string q) ∧ Pl.nameOk q = true) ∧ Mk B w' g (c + 1) ∧ w.grownBy w' (some g) := by
  have hgw := h.lt
  have h2 := h.alloc (.cells #[.string ⟨#[97]⟩, .string ⟨#[98]⟩, .string ⟨#[99]⟩, .string ⟨#[100]⟩, .string ⟨#[101]⟩, .string ⟨#[110, 111, 114, 116, 104]⟩, .string ⟨#[115, 111, 117, 116, 104]⟩, .string ⟨#[112, 111, 114, 116, 49]⟩, .string ⟨#[120, 57]⟩, .string ⟨#[97, 98, 99, 100, 101, 102, 103, 104, 105, 106, 107, 108]⟩] 9)
  have hbl := Blk.new w 9 #[.string ⟨#[97]⟩, .string ⟨#[98]⟩, .string ⟨#[99]⟩, .string ⟨#[100]⟩, .string ⟨#[101]⟩, .string ⟨#[110, 111, 114, 116, 104]⟩, .string ⟨#[115, 111, 117, 116, 104]⟩, .string ⟨#[112, 111, 114, 116, 49]⟩, .string ⟨#[120, 57]⟩, .string ⟨#[97, 98, 99, 100, 101, 102, 103, 104, 105, 106, 107, 108]⟩]
  have hga := World.grownBy_alloc w (.cells #[.string ⟨#[97]⟩, .string ⟨#[98]⟩, .string ⟨#[99]⟩, .string ⟨#[100]⟩, .string ⟨#[101]⟩, .string ⟨#[110, 111, 114, 116, 104]⟩, .string ⟨#[115, 111, 117, 116, 104]⟩, .string ⟨#[112, 111, 114, 116, 49]⟩, .string ⟨#[120, 57]⟩, .string ⟨#[97, 98, 99, 100, 101, 102, 103, 104, 105, 106, 107, 108]⟩] 9) (some g)
  go_enter Tryd.func23, Tryd.ntmps23
  go_wp2_with fail
  refine (next_c B g c 10 _ h2 (by omega) (by omega) (by omega)).mono ?_
  rintro e w2 ⟨y, hy0, hy1, rfl, hm2, hg2⟩
  obtain ⟨t, rfl⟩ := Int.eq_ofNat_of_zero_le hy0
  obtain ⟨q, hqn, hqc⟩ := names_cell (hbl.grown hg2 (fun e => by have := Option.some.inj e; omega)) (y := t) (by omega)
  have Hqn := Lib.hid hqn
  clear hqn
  go_wp2_with fail
  go_ret
  exact ⟨⟨q, rfl, Hqn.out⟩, hm2, hga.trans hg2⟩
theorem mk_byte : Tryd.prog.underlying 53 = some (.slice 5) ∧ ∃ i, Tryd.prog.info? 5 = some i ∧ i.zero = some (.int .u8 0) ∧ i.size = 1 ∧ i.bytes = 1 := by
  obtain ⟨i, h1, h2, h3, h4⟩ := info_parts (show (Tryd.prog.info? 5).map (fun i => (i.zero, i.size, i.bytes)) = some (some (.int .u8 0), 1, 1) by kernel_rfl)
  exact ⟨Tryd.underlying53, i, h1, h2, h3, h4⟩
theorem conv_own {w : World} {B n g cap : Nat} {l : List Int} (h : w.ownsRow B 5 1 (.slice (some ⟨g, 0, none⟩) n cap) n (l.map (Value.int .u8))) : (convert 53 9 (.slice (some ⟨g, 0, none⟩) n cap)).run Tryd.prog w = .ok (.string (strOfNums l)) w :=
  run_convert_bytes_arg _ 53 5 under_bytes under_u8 g 0 n cap l (own_len h) (fun i hi => by rw [Nat.zero_add]; exact own_cell h hi) 9 under_string
def DgI (B : Nat) (w : World) (g c n : Nat) (vi : Value) (wr : World) : Prop := ∃ (t : Nat) (l : List Int), t ≤ n ∧ vi = .int .i64 (t : Int) ∧ Hid (∀ j, j < t → 48 ≤ l.getD j 0 ∧ l.getD j 0 ≤ 57) ∧ wr.ownsRow w.heap.size 5 1 (.slice (some ⟨w.heap.size, 0, none⟩) n n) n (l.map (Value.int .u8)) ∧ Mk B wr g (c + t) ∧ w.grownBy wr (some g)
set_option maxHeartbeats 4000000 in
theorem gdigits_c (B g c n : Nat) (w : World) (h : Mk B w g c) (hc : c ≤ 2305843009213693952) (hn : n ≤ 11) :
    Calls Tryd.prog 68 #[.pointer (some ⟨g, 0, none⟩), .int .i64 (n : Int)] w fun e w' => (∃ l : List Int, e = .returned (.string (strOfNums l)) ∧ l.length = n ∧ ∀ x ∈ l, 48 ≤ x ∧ x ≤ 57) ∧ Mk B w' g (c + n) ∧ w.grownBy w' (some g) := by
  have hgw := h.lt
  have hne : (some w.heap.size : Option Nat) ≠ some g := fun e => by have := Option.some.inj e; omega
  go_enter Tryd.func68, Tryd.ntmps68
  go_wp2_with (at_make; refine wpList_mkn mk_byte rfl rfl _ _ rfl w.heap.size _ _ _ _ n rfl rfl rfl rfl (by omega) (by simp only [maxLen]; omega) (Nat.le_refl _) ?_; intro w1 own1 hb1)
  have hm1 := h.below hb1
  have hg1 : w.grownBy w1 (some g) := ⟨hb1.os, hb1.tape, hb1.output, hb1.size, fun i hi _ => hb1.block i hi⟩
  have own0 : w1.ownsRow w.heap.size 5 1 (.slice (some ⟨w.heap.size, 0, none⟩) n n) n ((List.replicate n (0 : Int)).map (Value.int .u8)) := by rw [List.map_replicate]; exact own1
  clear own1 hb1
  go_wp2_with fail
  go_loopw [6] (fun vi wr => DgI B w g c n vi wr) (fun vi _ => n - (intOf vi).toNat)
  case atStart => exact (show DgI _ _ _ _ _ _ _ from ⟨0, _, by omega, rfl, Lib.hid (fun j hj => by omega), own0, hm1, hg1⟩)
  case round =>
    obtain ⟨t, l, htn, rfl, HD, own, hmk, hgr⟩ := hrel
    clear own0 hm1 hg1
    by_cases hlt : t < n
    · have hti : (t : Int) < (n : Int) := by omega
      go_wp2_with fail
      refine (next_c B g (c + t) 10 wr hmk (by omega) (by omega) (by omega)).mono ?_
      rintro e w2 ⟨x, hx0, hx1, rfl, hm2, hg2⟩
      have own2 := own.kept hg2 (.inr hne)
      have hm8 : (48 + x) % 256 = 48 + x := by omega
      have hfz := own2.frozenAt t
      have hl := own_len own
      have hcell := own_cell own2 (j := t) hlt
      go_wp2_with fail
      have own3 := own_set (j := t) own2 (48 + x)
      have hgs := World.grownBy_set w2 w.heap.size t (.int .u8 (48 + x))
      go_roundw
      case rel => exact (show DgI _ _ _ _ _ _ _ from ⟨t + 1, l.set t (48 + x), by omega, by go_num, Lib.hid (fun j hj => by
        by_cases e : j = t
        · subst e
          rw [List.getD_eq_getElem?_getD, List.getElem?_set_self (by omega)]
          exact ⟨by simp; omega, by simp; omega⟩
        · rw [List.getD_eq_getElem?_getD, List.getElem?_set_ne (fun e' => e e'.symm), ← List.getD_eq_getElem?_getD]
          exact HD.out j (by omega)), own3, hm2.grown hgs hne (fun b e => by have := Option.some.inj e; have := hm2.ge; have := h.ge; omega), grown_then' (hgr.trans hg2) hgs (fun b e => .inr (by have := Option.some.inj e; omega))⟩)
      case measure => simp [intOf]; omega
    · obtain rfl : t = n := by omega
      have hcv := conv_own own
      have hl := own_len own
      have Hl : Hid (l.length = t ∧ ∀ x ∈ l, 48 ≤ x ∧ x ≤ 57) := Lib.hid ⟨hl, fun x hx => by
        obtain ⟨j, hj, rfl⟩ := List.getElem_of_mem hx
        have := HD.out j (by omega)
        rwa [List.getD_eq_getElem?_getD, List.getElem?_eq_getElem hj] at this⟩
      clear hl
      go_wp2_with fail
      go_ret
      exact ⟨⟨l, rfl, Hl.out⟩, hmk, hgr⟩
end Go.Proofs.YtiegpkbollihgaaDoor
