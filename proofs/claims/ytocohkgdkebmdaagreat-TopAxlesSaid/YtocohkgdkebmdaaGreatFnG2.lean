/- The walk of humpgen's Number of a wagon. -/
import Derived.Test.YtocohkgdkebmdaaGreatWG
import Derived.Test.YtocohkgdkebmdaaGreatReg3
import Derived.Lib.ItoaNum
import Derived.Lib.ItoaLen
import Derived.Test.YtocohkgdkebmdaaGreatMem
import Derived.Lib.Builder
import Derived.Lib.AppendStr
import Derived.Laws.Externs
import Derived.Deep.DeepCutAuto
import Derived.Test.YtocohkgdkebmdaaGreatFnW3
import Derived.Lib.ConvBytes
namespace Go.Proofs.YtocohkgdkebmdaaGreat
open Go.RowKit
theorem names_cell {W : World} {b : Nat} {e : TypeId} (h : Blk W b e #[.string ⟨#[97]⟩, .string ⟨#[98]⟩, .string ⟨#[99]⟩, .string ⟨#[100]⟩, .string ⟨#[101]⟩, .string ⟨#[110, 111, 114, 116, 104]⟩, .string ⟨#[115, 111, 117, 116, 104]⟩, .string ⟨#[112, 111, 114, 116, 49]⟩, .string ⟨#[120, 57]⟩, .string ⟨#[97, 98, 99, 100, 101, 102, 103, 104, 105, 106, 107, 108]⟩]) {y : Nat} (hy : y < 10) : ∃ q : ByteArray, Pl.nameOk q = true ∧ W.cell? ⟨b, y, none⟩ = some (.string q) := by
  have hh : y = 0 ∨ y = 1 ∨ y = 2 ∨ y = 3 ∨ y = 4 ∨ y = 5 ∨ y = 6 ∨ y = 7 ∨ y = 8 ∨ y = 9 := by omega
  rcases hh with rfl | rfl | rfl | rfl | rfl | rfl | rfl | rfl | rfl | rfl
  · exact ⟨_, by decide +kernel, h.cell 0⟩
  · exact ⟨_, by decide +kernel, h.cell 1⟩
  · exact ⟨_, by decide +kernel, h.cell 2⟩
  · exact ⟨_, by decide +kernel, h.cell 3⟩
  · exact ⟨_, by decide +kernel, h.cell 4⟩
  · exact ⟨_, by decide +kernel, h.cell 5⟩
  · exact ⟨_, by decide +kernel, h.cell 6⟩
  · exact ⟨_, by decide +kernel, h.cell 7⟩
  · exact ⟨_, by decide +kernel, h.cell 8⟩
  · exact ⟨_, by decide +kernel, h.cell 9⟩
theorem grown_then' {w w1 w2 : World} {r s : Option Nat} (h : w.grownBy w1 r) (k : w1.grownBy w2 s) (hs : ∀ b, s = some b → r = some b ∨ w.heap.size ≤ b) : w.grownBy w2 r :=
  ⟨k.os.trans h.os, k.tape.trans h.tape, k.output.trans h.output, Nat.le_trans h.size k.size, fun i hi hne => (k.block i (Nat.lt_of_lt_of_le hi h.size) (fun e => by
    rcases hs i e.symm with h1 | h1
    · exact hne h1.symm
    · omega)).trans (h.block i hi hne)⟩
set_option maxHeartbeats 2000000 in
theorem gname_c (B g c : Nat) (w : World) (h : Mk B w g c) (hc : c ≤ 2305843009213693952) :
    Calls Tryz.prog 38 #[.pointer (some ⟨g, 0, none⟩)] w fun e w' => (∃ q : ByteArray, e = .returned (.string q) ∧ Pl.nameOk q = true) ∧ Mk B w' g (c + 1) ∧ w.grownBy w' (some g) := by
  have hgw := h.lt
  have h2 := h.alloc (.cells #[.string ⟨#[97]⟩, .string ⟨#[98]⟩, .string ⟨#[99]⟩, .string ⟨#[100]⟩, .string ⟨#[101]⟩, .string ⟨#[110, 111, 114, 116, 104]⟩, .string ⟨#[115, 111, 117, 116, 104]⟩, .string ⟨#[112, 111, 114, 116, 49]⟩, .string ⟨#[120, 57]⟩, .string ⟨#[97, 98, 99, 100, 101, 102, 103, 104, 105, 106, 107, 108]⟩] 9)
  have hbl := Blk.new w 9 #[.string ⟨#[97]⟩, .string ⟨#[98]⟩, .string ⟨#[99]⟩, .string ⟨#[100]⟩, .string ⟨#[101]⟩, .string ⟨#[110, 111, 114, 116, 104]⟩, .string ⟨#[115, 111, 117, 116, 104]⟩, .string ⟨#[112, 111, 114, 116, 49]⟩, .string ⟨#[120, 57]⟩, .string ⟨#[97, 98, 99, 100, 101, 102, 103, 104, 105, 106, 107, 108]⟩]
  have hga := World.grownBy_alloc w (.cells #[.string ⟨#[97]⟩, .string ⟨#[98]⟩, .string ⟨#[99]⟩, .string ⟨#[100]⟩, .string ⟨#[101]⟩, .string ⟨#[110, 111, 114, 116, 104]⟩, .string ⟨#[115, 111, 117, 116, 104]⟩, .string ⟨#[112, 111, 114, 116, 49]⟩, .string ⟨#[120, 57]⟩, .string ⟨#[97, 98, 99, 100, 101, 102, 103, 104, 105, 106, 107, 108]⟩] 9) (some g)
  go_enter Tryz.func38, Tryz.ntmps38
  go_wp2_with fail
  refine (next_c B g c 10 _ h2 (by omega) (by omega) (by omega)).mono ?_
  rintro e w2 ⟨y, hy0, hy1, rfl, hm2, hg2⟩
  obtain ⟨t, rfl⟩ := Int.eq_ofNat_of_zero_le hy0
  obtain ⟨q, hqn, hqc⟩ := names_cell (hbl.grown hg2 (fun e => by have := Option.some.inj e; omega)) (y := t) (by omega)
  have Hqn := Lib.hid hqn
  clear hqn
  go_wp2_with fail
  go_ret
  exact ⟨⟨q, rfl, Hqn.out⟩, hm2, hga.trans hg2⟩
theorem mk_byte : Tryz.prog.underlying 34 = some (.slice 5) ∧ ∃ i, Tryz.prog.info? 5 = some i ∧ i.zero = some (.int .u8 0) ∧ i.size = 1 ∧ i.bytes = 1 := by
  obtain ⟨i, h1, h2, h3, h4⟩ := info_parts (show (Tryz.prog.info? 5).map (fun i => (i.zero, i.size, i.bytes)) = some (some (.int .u8 0), 1, 1) by kernel_rfl)
  exact ⟨Tryz.underlying34, i, h1, h2, h3, h4⟩
theorem conv_own {w : World} {B n g cap : Nat} {l : List Int} (h : w.ownsRow B 5 1 (.slice (some ⟨g, 0, none⟩) n cap) n (l.map (Value.int .u8))) : (convert 34 9 (.slice (some ⟨g, 0, none⟩) n cap)).run Tryz.prog w = .ok (.string (strOfNums l)) w :=
  run_convert_bytes_arg _ 34 5 under_bytes under_u8 g 0 n cap l (own_len h) (fun i hi => by rw [Nat.zero_add]; exact own_cell h hi) 9 under_string
def DgI (B : Nat) (w : World) (g c n : Nat) (vi : Value) (wr : World) : Prop := ∃ (t : Nat) (l : List Int), t ≤ n ∧ vi = .int .i64 (t : Int) ∧ Hid (∀ j, j < t → 48 ≤ l.getD j 0 ∧ l.getD j 0 ≤ 57) ∧ wr.ownsRow w.heap.size 5 1 (.slice (some ⟨w.heap.size, 0, none⟩) n n) n (l.map (Value.int .u8)) ∧ Mk B wr g (c + t) ∧ w.grownBy wr (some g)
set_option maxHeartbeats 4000000 in
theorem gdigits_c (B g c n : Nat) (w : World) (h : Mk B w g c) (hc : c ≤ 2305843009213693952) (hn : n ≤ 11) :
    Calls Tryz.prog 50 #[.pointer (some ⟨g, 0, none⟩), .int .i64 (n : Int)] w fun e w' => (∃ l : List Int, e = .returned (.string (strOfNums l)) ∧ l.length = n ∧ ∀ x ∈ l, 48 ≤ x ∧ x ≤ 57) ∧ Mk B w' g (c + n) ∧ w.grownBy w' (some g) := by
  have hgw := h.lt
  have hne : (some w.heap.size : Option Nat) ≠ some g := fun e => by have := Option.some.inj e; omega
  go_enter Tryz.func50, Tryz.ntmps50
  go_wp2_with (at_make; refine wpList_mkn mk_byte rfl rfl _ _ rfl w.heap.size _ _ _ _ n rfl rfl rfl rfl (by omega) (by simp only [maxLen]; omega) (Nat.le_refl _) ?_; intro w1 own1 hb1)
  have hm1 := h.below hb1
  have hg1 : w.grownBy w1 (some g) := ⟨hb1.os, hb1.tape, hb1.output, hb1.size, fun i hi _ => hb1.block i hi⟩
  have own0 : w1.ownsRow w.heap.size 5 1 (.slice (some ⟨w.heap.size, 0, none⟩) n n) n ((List.replicate n (0 : Int)).map (Value.int .u8)) := by rw [List.map_replicate]; exact own1
  clear own1 hb1
  go_wp2_with fail
  go_loopw [6] (fun vi wr => DgI B w g c n vi wr) (fun vi _ => n - (intOf vi).toNat)
  case atStart => exact (show DgI _ _ _ _ _ _ _ from ⟨0, _, by omega, rfl, Lib.hid (fun j hj => by omega), own0, hm1, hg1⟩)
  case round =>
    obtain ⟨t, l, htn, rfl, HD, own, hmk, hgr⟩ := hrel
    clear own0 hm1 hg1
    by_cases hlt : t < n
    · have hti : (t : Int) < (n : Int) := by omega
      go_wp2_with fail
      refine (next_c B g (c + t) 10 wr hmk (by omega) (by omega) (by omega)).mono ?_
      rintro e w2 ⟨x, hx0, hx1, rfl, hm2, hg2⟩
      have own2 := own.kept hg2 (.inr hne)
      have hm8 : (48 + x) % 256 = 48 + x := by omega
      have hfz := own2.frozenAt t
      have hl := own_len own
      have hcell := own_cell own2 (j := t) hlt
      go_wp2_with fail
      have own3 := own_set (j := t) own2 (48 + x)
      have hgs := World.grownBy_set w2 w.heap.size t (.int .u8 (48 + x))
      go_roundw
      case rel => exact (show DgI _ _ _ _ _ _ _ from ⟨t + 1, l.set t (48 + x), by omega, by go_num, Lib.hid (fun j hj => by
        by_cases e : j = t
        · subst e
          rw [List.getD_eq_getElem?_getD, List.getElem?_set_self (by omega)]
          exact ⟨by simp; omega, by simp; omega⟩
        · rw [List.getD_eq_getElem?_getD, List.getElem?_set_ne (fun e' => e e'.symm), ← List.getD_eq_getElem?_getD]
          exact HD.out j (by omega)), own3, hm2.grown hgs hne (fun b e => by have := Option.some.inj e; have := hm2.ge; have := h.ge; omega), grown_then' (hgr.trans hg2) hgs (fun b e => .inr (by have := Option.some.inj e; omega))⟩)
      case measure => simp [intOf]; omega
    · obtain rfl : t = n := by omega
      have hcv := conv_own own
      have hl := own_len own
      have Hl : Hid (l.length = t ∧ ∀ x ∈ l, 48 ≤ x ∧ x ≤ 57) := Lib.hid ⟨hl, fun x hx => by
        obtain ⟨j, hj, rfl⟩ := List.getElem_of_mem hx
        have := HD.out j (by omega)
        rwa [List.getD_eq_getElem?_getD, List.getElem?_eq_getElem hj] at this⟩
      clear hl
      go_wp2_with fail
      go_ret
      exact ⟨⟨l, rfl, Hl.out⟩, hmk, hgr⟩
end Go.Proofs.YtocohkgdkebmdaaGreat
namespace Go.Proofs.YtocohkgdkebmdaaGreat
open Go.RowKit
theorem bytesW_grown (w : World) (e : TypeId) (s : ByteArray) (row : Option Nat) : w.grownBy (Lib.bytesWorld w e s) row :=
  ⟨by simp [Lib.bytesWorld, World.freeze, World.alloc, World.drew, -World.alloc_eq, -World.drew_eq], by simp [Lib.bytesWorld, World.freeze, World.alloc, World.drew, -World.alloc_eq, -World.drew_eq], by simp [Lib.bytesWorld, World.freeze, World.alloc, World.drew, -World.alloc_eq, -World.drew_eq],
    by rw [Lib.bytesWorld_size]; omega, fun i hi _ => Lib.bytesWorld_at_old w e s i hi⟩
/-- A row of bytes that a conversion made: eleven of them may be written. -/
def BR (W : World) (g : Nat) (l : List Int) : Prop := ∃ (cs : Array Value) (n : Nat), W.heap[g]? = some (.cells cs 5 (n, n + 1)) ∧ 11 ≤ n ∧ cs.size = n ∧ l.length = 11 ∧ ∀ j, j < 11 → cs[j]? = some (.int .u8 (l.getD j 0))
theorem BR.cell {W : World} {g : Nat} {l : List Int} (h : BR W g l) {j : Nat} (hj : j < 11) : W.cell? ⟨g, j, none⟩ = some (.int .u8 (l.getD j 0)) := by
  obtain ⟨cs, n, hg, _, _, _, hc⟩ := h
  rw [Lib.cell_of_heap hg]
  exact hc j hj
theorem BR.fz {W : World} {g : Nat} {l : List Int} (h : BR W g l) {j : Nat} (hj : j < 11) : W.frozen? ⟨g, j, none⟩ = false := by
  obtain ⟨cs, n, hg, hn, _, _, _⟩ := h
  unfold World.frozen?
  simp only [hg]
  simp
  omega
theorem BR.set {W : World} {g : Nat} {l : List Int} (h : BR W g l) {j : Nat} (hj : j < 11) (x : Int) : BR (W.setCell ⟨g, j, none⟩ (.int .u8 x)) g (l.set j x) := by
  obtain ⟨cs, n, hg, hn, hs, hl, hc⟩ := h
  refine ⟨cs.setIfInBounds j (.int .u8 x), n, ?_, hn, by simp [hs], by simp [hl], fun k hk => ?_⟩
  · simp [World.setCell, Array.getElem?_modify, hg]
  · by_cases e : k = j
    · subst e
      rw [Array.getElem?_setIfInBounds_self_of_lt (by omega), List.getD_eq_getElem?_getD, List.getElem?_set_self (by omega)]
      rfl
    · rw [Array.getElem?_setIfInBounds_ne (fun e' => e e'.symm), hc k hk, List.getD_eq_getElem?_getD, List.getD_eq_getElem?_getD, List.getElem?_set_ne (fun e' => e e'.symm)]
theorem BR.new (w : World) {l : List Int} (hl : l.length = 11) (hd : ∀ x ∈ l, 48 ≤ x ∧ x ≤ 57) : BR (Lib.bytesWorld w 5 (strOfNums l)) w.heap.size l := by
  have hsz : (strOfNums l).size = 11 := by rw [strOfNums_size, hl]
  have hnew := Lib.bytesWorld_at_new w 5 (strOfNums l)
  have hcell : ∀ j, j < 11 → (Lib.bytesCells w 5 (strOfNums l))[j]? = some (.int .u8 (l.getD j 0)) := by
    intro j hj
    have h1 := Lib.bytesWorld_cell w 5 (strOfNums l) j (by omega)
    rw [Lib.cell_of_heap hnew] at h1
    rw [h1, strOfNums_data, List.getD_eq_getElem?_getD, List.getElem?_map, List.getD_eq_getElem?_getD, List.getElem?_eq_getElem (by omega)]
    have := hd l[j] (List.getElem_mem (by omega))
    simp only [Option.map_some, Option.getD_some]
    rw [UInt8.toNat_ofNat_of_lt' (by rw [show UInt8.size = 256 from rfl]; omega), Int.toNat_of_nonneg (by omega)]
  refine ⟨_, (Lib.bytesCells w 5 (strOfNums l)).size, hnew, ?_, rfl, hl, hcell⟩
  have := (Array.getElem?_eq_some_iff.1 (hcell 10 (by omega))).1
  omega
theorem BR.conv {W : World} {g cap : Nat} {l : List Int} (h : BR W g l) : (convert 34 9 (.slice (some ⟨g, 0, none⟩) 11 cap)).run Tryz.prog W = .ok (.string (strOfNums l)) W :=
  run_convert_bytes_arg _ 34 5 under_bytes under_u8 g 0 11 cap l (by obtain ⟨_, _, _, _, _, hl, _⟩ := h; exact hl) (fun i hi => by rw [Nat.zero_add]; exact h.cell hi) 9 under_string
theorem BR.kept {W W' : World} {g : Nat} {l : List Int} (h : BR W g l) (hb : W.heap[g]? = W'.heap[g]?) : BR W' g l := by
  obtain ⟨cs, n, hg, r⟩ := h
  exact ⟨cs, n, hb ▸ hg, r⟩
set_option maxHeartbeats 1000000 in
theorem rdigit_c (s : ByteArray) (w : World) (h1 : s.size = 11) (h2 : Fn.digs s.data.toList = true) :
    Calls Tryz.prog 51 #[.string s] w fun e w' => e = .returned (.tuple #[.int .i64 (((10 - Fn.sumTo s.data.toList 11 % 10) % 10 : Nat) : Int), .int .i64 0]) ∧ w = w' := by
  have HD : Hid (Calls Tryz.prog 68 #[.string s, .int .i64 11] w fun e w' => e = .returned (.bool true) ∧ w = w') := Lib.hid (by
    have := rdigits_c s 11 w (by unfold maxLen; omega)
    rwa [decide_eq_true h1, h2] at this)
  have HS : Hid (Calls Tryz.prog 69 #[.string s, .int .i64 11] w fun e w' => e = .returned (.int .i64 ((Fn.sumTo s.data.toList 11 : Nat) : Int)) ∧ w = w') := Lib.hid (rsum_c s 11 (by omega) w (by omega) h2)
  have hle := sumTo_le h2 11 (by omega)
  obtain ⟨t, ht⟩ : ∃ t, Fn.sumTo s.data.toList 11 = t := ⟨_, rfl⟩
  rw [ht] at HS hle ⊢
  obtain ⟨q, hq⟩ : ∃ q, t % 10 = q := ⟨_, rfl⟩
  have hqi : (t : Int) % 10 = (q : Int) := by omega
  have hq9 : q ≤ 9 := by omega
  rw [hq]
  have hv : (10 - (q : Int)) % 10 = (((10 - q) % 10 : Nat) : Int) := by omega
  clear ht hq h1 h2
  go_enter Tryz.func51, Tryz.ntmps51
  go_wp2_with fail
  refine HD.out.mono ?_
  rintro e w1 ⟨rfl, rfl⟩
  go_wp2_with fail
  refine HS.out.mono ?_
  rintro e w1 ⟨rfl, rfl⟩
  go_wp2_with fail
  go_ret2
  exact ⟨by rw [hv]; rfl, rfl⟩
namespace Fn
theorem so_digs {l : List Int} (h : ∀ x ∈ l, 48 ≤ x ∧ x ≤ 57) : digs (strOfNums l).data.toList = true := by
  unfold digs
  rw [strOfNums_data, List.all_eq_true]
  intro b hb
  obtain ⟨x, hx, rfl⟩ := List.mem_map.1 hb
  have := h x hx
  unfold digC
  rw [UInt8.toNat_ofNat_of_lt' (by rw [show UInt8.size = 256 from rfl]; omega)]
  simp
  omega
theorem so_dAt {l : List Int} (h : ∀ x ∈ l, 48 ≤ x ∧ x ≤ 57) {j : Nat} (hj : j < l.length) : (dAt (strOfNums l).data.toList j : Int) = l.getD j 0 - 48 := by
  have := h l[j] (List.getElem_mem hj)
  unfold dAt
  rw [strOfNums_data, List.getD_eq_getElem?_getD, List.getElem?_map, List.getElem?_eq_getElem hj, List.getD_eq_getElem?_getD, List.getElem?_eq_getElem hj]
  simp only [Option.map_some, Option.getD_some]
  rw [UInt8.toNat_ofNat_of_lt' (by rw [show UInt8.size = 256 from rfl]; omega)]
  omega
theorem so_append (l m : List Int) : strOfNums l ++ strOfNums m = strOfNums (l ++ m) := ByteArray.ext (Array.ext' (by simp [strOfNums]))
/-- A made number is one, and tells its index. -/
def NumMade (i : Nat) (s : ByteArray) : Prop := kErr s = 0 ∧ dAt s.data.toList 8 = i / 100 % 10 ∧ dAt s.data.toList 9 = i / 10 % 10 ∧ dAt s.data.toList 10 = i % 10
theorem num_made {l : List Int} {i d : Nat} (hl : l.length = 11) (h : ∀ x ∈ l, 48 ≤ x ∧ x ≤ 57) (h8 : l.getD 8 0 = 48 + (i / 100 % 10 : Nat)) (h9 : l.getD 9 0 = 48 + (i / 10 % 10 : Nat)) (h10 : l.getD 10 0 = 48 + (i % 10 : Nat))
    (hd : d = (10 - sumTo (strOfNums l).data.toList 11 % 10) % 10) : NumMade i (strOfNums (l ++ [48 + (d : Int)])) := by
  have hall : ∀ x ∈ l ++ [48 + (d : Int)], 48 ≤ x ∧ x ≤ 57 := by
    intro x hx
    rcases List.mem_append.1 hx with hx | hx
    · exact h x hx
    · rw [List.mem_singleton] at hx
      subst hx
      omega
  have hlen : (l ++ [48 + (d : Int)]).length = 12 := by simp [hl]
  have hg : ∀ j, j < 11 → (l ++ [48 + (d : Int)]).getD j 0 = l.getD j 0 := by
    intro j hj
    rw [List.getD_eq_getElem?_getD, List.getD_eq_getElem?_getD, List.getElem?_append_left (by omega)]
  have hs11 : sumTo (strOfNums (l ++ [48 + (d : Int)])).data.toList 11 = sumTo (strOfNums l).data.toList 11 := by
    rw [← sumTo_take _ 11 11 (Nat.le_refl _)]
    congr 1
    rw [strOfNums_data, strOfNums_data, List.map_append, List.take_left' (by rw [List.length_map, hl])]
  have hd11 : dAt (strOfNums (l ++ [48 + (d : Int)])).data.toList 11 = d := by
    have := so_dAt hall (j := 11) (by omega)
    rw [List.getD_eq_getElem?_getD, List.getElem?_append_right (by omega), hl] at this
    simp at this
    omega
  refine ⟨?_, ?_, ?_, ?_⟩
  · unfold kErr
    rw [if_neg (by rw [Decidable.not_not]; exact ⟨by rw [strOfNums_size, hlen], so_digs hall⟩), if_neg]
    rw [hs11, hd11]
    omega
  · have := so_dAt hall (j := 8) (by omega)
    rw [hg 8 (by omega), h8] at this
    omega
  · have := so_dAt hall (j := 9) (by omega)
    rw [hg 9 (by omega), h9] at this
    omega
  · have := so_dAt hall (j := 10) (by omega)
    rw [hg 10 (by omega), h10] at this
    omega
end Fn
set_option maxRecDepth 100000 in
set_option maxHeartbeats 4000000 in
theorem gnumber_c (B g c i : Nat) (w : World) (h : Mk B w g c) (hc : c ≤ 1152921504606846976) (hi : i < 1000) :
    Calls Tryz.prog 36 #[.pointer (some ⟨g, 0, none⟩), .int .i64 (i : Int)] w fun e w' => (∃ s : ByteArray, e = .returned (.string s) ∧ Fn.NumMade i s) ∧ Mk B w' g (c + 11) ∧ w.grownBy w' (some g) := by
  have hgw := h.lt
  obtain ⟨q0, hq0⟩ : ∃ q, i / 100 = q := ⟨_, rfl⟩
  obtain ⟨q1, hq1⟩ : ∃ q, i / 10 = q := ⟨_, rfl⟩
  obtain ⟨a, ha⟩ : ∃ a, q0 % 10 = a := ⟨_, rfl⟩
  obtain ⟨b, hb⟩ : ∃ b, q1 % 10 = b := ⟨_, rfl⟩
  obtain ⟨e0, he⟩ : ∃ e0, i % 10 = e0 := ⟨_, rfl⟩
  have i1 : (i : Int) / 100 = (q0 : Int) := by omega
  have i2 : (i : Int) / 10 = (q1 : Int) := by omega
  have i3 : (q0 : Int) % 10 = (a : Int) := by omega
  have i4 : (q1 : Int) % 10 = (b : Int) := by omega
  have i5 : (i : Int) % 10 = (e0 : Int) := by omega
  have m1 : (48 + (a : Int)) % 256 = 48 + (a : Int) := by omega
  have m2 : (48 + (b : Int)) % 256 = 48 + (b : Int) := by omega
  have m3 : (48 + (e0 : Int)) % 256 = 48 + (e0 : Int) := by omega
  have ha9 : a ≤ 9 := by omega
  have hb9 : b ≤ 9 := by omega
  have he9 : e0 ≤ 9 := by omega
  have Hi : Hid (i / 100 % 10 = a ∧ i / 10 % 10 = b ∧ i % 10 = e0) := Lib.hid ⟨by rw [hq0, ha], by rw [hq1, hb], he⟩
  have hgd := gdigits_c B g c 11 w h (by omega) (by omega)
  have HG := Lib.hid hgd
  clear hgd hq0 hq1 ha hb he
  go_enter Tryz.func36, Tryz.ntmps36
  go_wp2_with fail
  refine HG.out.mono ?_
  rintro e w1 ⟨⟨l, rfl, hl, hd⟩, hm1, hg1⟩
  have hcb := Lib.run_convert_string_bytes (P := Tryz.prog) w1 9 34 5 (strOfNums l) under_string under_bytes under_u8
  have hB1 := BR.new w1 hl hd
  have hsz : (strOfNums l).size = 11 := by rw [strOfNums_size, hl]
  rw [hsz] at hcb
  have hm2 : Mk B (Lib.bytesWorld w1 5 (strOfNums l)) g (c + 11) := hm1.grown (bytesW_grown w1 _ (strOfNums l) none) (by simp) (by simp)
  have hg2 : w1.grownBy (Lib.bytesWorld w1 5 (strOfNums l)) (some g) := bytesW_grown w1 _ (strOfNums l) _
  obtain ⟨w2, hw2⟩ : ∃ w2, Lib.bytesWorld w1 5 (strOfNums l) = w2 := ⟨_, rfl⟩
  obtain ⟨s0, hs0⟩ : ∃ s, strOfNums l = s := ⟨_, rfl⟩
  obtain ⟨cap, hcap⟩ : ∃ cap, grownCap w1 11 0 5 = cap := ⟨_, rfl⟩
  rw [hw2] at hB1 hm2 hg2 hcb
  rw [hcap, hs0] at hcb
  rw [hs0]
  have Hl := Lib.hid (And.intro hl hd)
  have hgg := hg1.trans hg2
  have hw1g : w.heap.size ≤ w1.heap.size := hg1.size
  clear hw2 hs0 hcap hl hd hsz hg1 hg2 hm1
  have z8 := hB1.fz (j := 8) (by omega)
  have z9 := hB1.fz (j := 9) (by omega)
  have z10 := hB1.fz (j := 10) (by omega)
  have k8 := hB1.cell (j := 8) (by omega)
  have k9 := hB1.cell (j := 9) (by omega)
  have k10 := hB1.cell (j := 10) (by omega)
  have hne : (some w1.heap.size : Option Nat) ≠ some g := fun e => by have := Option.some.inj e; omega
  obtain ⟨l4, hl4⟩ : ∃ l4, ((l.set 8 (48 + (a : Int))).set 9 (48 + (b : Int))).set 10 (48 + (e0 : Int)) = l4 := ⟨_, rfl⟩
  have hB4 := ((hB1.set (j := 8) (by omega) (48 + (a : Int))).set (j := 9) (by omega) (48 + (b : Int))).set (j := 10) (by omega) (48 + (e0 : Int))
  have hm4 := ((hm2.grown (World.grownBy_set w2 w1.heap.size 8 (.int .u8 (48 + (a : Int)))) hne (fun b e => by have := Option.some.inj e; have := h.ge; have := hm2.ge; omega)).grown (World.grownBy_set _ w1.heap.size 9 (.int .u8 (48 + (b : Int)))) hne (fun b e => by have := Option.some.inj e; have := hm2.ge; omega)).grown (World.grownBy_set _ w1.heap.size 10 (.int .u8 (48 + (e0 : Int)))) hne (fun b e => by have := Option.some.inj e; have := hm2.ge; omega)
  have hg4 := ((World.grownBy_set w2 w1.heap.size 8 (.int .u8 (48 + (a : Int)))).trans (World.grownBy_set _ w1.heap.size 9 (.int .u8 (48 + (b : Int))))).trans (World.grownBy_set _ w1.heap.size 10 (.int .u8 (48 + (e0 : Int))))
  have hgf := grown_then' hgg hg4 (fun b e => .inr (by have := Option.some.inj e; omega))
  rw [hl4] at hB4
  have hcv := hB4.conv (cap := cap)
  have hall : ∀ x ∈ l4, 48 ≤ x ∧ x ≤ 57 := by
    intro x hx
    rw [← hl4] at hx
    rcases List.mem_or_eq_of_mem_set hx with hx | rfl
    · rcases List.mem_or_eq_of_mem_set hx with hx | rfl
      · rcases List.mem_or_eq_of_mem_set hx with hx | rfl
        · exact Hl.out.2 x hx
        · omega
      · omega
    · omega
  have hlen : l4.length = 11 := by rw [← hl4]; simp [Hl.out.1]
  have hg8 : l4.getD 8 0 = 48 + (a : Int) := by rw [← hl4]; simp [Hl.out.1]
  have hg9 : l4.getD 9 0 = 48 + (b : Int) := by rw [← hl4]; simp [Hl.out.1]
  have hg10 : l4.getD 10 0 = 48 + (e0 : Int) := by rw [← hl4]; simp [Hl.out.1]
  have HL4 := Lib.hid (And.intro hlen (And.intro hall (And.intro hg8 (And.intro hg9 hg10))))
  have hs1 : (strOfNums l4).size = 11 := by rw [strOfNums_size, hlen]
  have hd1 := Fn.so_digs hall
  obtain ⟨w4, hw4⟩ : ∃ w4, ((w2.setCell ⟨w1.heap.size, 8, none⟩ (.int .u8 (48 + (a : Int)))).setCell ⟨w1.heap.size, 9, none⟩ (.int .u8 (48 + (b : Int)))).setCell ⟨w1.heap.size, 10, none⟩ (.int .u8 (48 + (e0 : Int))) = w4 := ⟨_, rfl⟩
  rw [hw4] at hcv hm4 hgf
  have HD := Lib.hid (rdigit_c (strOfNums l4) w4 hs1 hd1)
  obtain ⟨d, hd⟩ : ∃ d, (10 - Fn.sumTo (strOfNums l4).data.toList 11 % 10) % 10 = d := ⟨_, rfl⟩
  have hd9 : d ≤ 9 := by omega
  have Hd := Lib.hid hd
  rw [hd] at HD
  have m5 : (48 + (d : Int)) % 256 = 48 + (d : Int) := by omega
  have hc1 := conv_one w4 (48 + (d : Int))
  obtain ⟨s1, hs1e⟩ : ∃ s, strOfNums l4 = s := ⟨_, rfl⟩
  obtain ⟨s2, hs2e⟩ : ∃ s, strOfNums [48 + (d : Int)] = s := ⟨_, rfl⟩
  have hs2z : s2.size = 1 := by rw [← hs2e, strOfNums_size]; rfl
  have Hfin : Hid (Fn.NumMade i (s1 ++ s2)) := Lib.hid (by
    rw [← hs1e, ← hs2e, Fn.so_append]
    exact Fn.num_made HL4.out.1 HL4.out.2.1 (by rw [HL4.out.2.2.1, Hi.out.1]) (by rw [HL4.out.2.2.2.1, Hi.out.2.1]) (by rw [HL4.out.2.2.2.2, Hi.out.2.2]) Hd.out.symm)
  rw [hs1e] at hcv HD hs1
  rw [hs2e] at hc1
  clear hs1e hs2e hd hlen hall hg8 hg9 hg10 hd1 hB4 hl4 hg4 hgg
  go_wp2_with fail
  refine HD.out.mono ?_
  rintro e w5 ⟨rfl, rfl⟩
  go_wp2_with fail
  go_ret
  exact ⟨⟨_, rfl, Hfin.out⟩, hm4.alloc _, hgf.trans (World.grownBy_alloc w4 _ (some g))⟩
end Go.Proofs.YtocohkgdkebmdaaGreat
