/- The walk of 'FinalsheetFinds'. -/
import Derived.Test.YtiegpkbollihgaaDoorFnMade
import Derived.Test.YtiegpkbollihgaaDoorFnW10
import Derived.Test.YtiegpkbollihgaaDoorFnSane
import Derived.Test.YtiegpkbollihgaaDoorFnSame
import Derived.Test.YtiegpkbollihgaaDoorFnOk
import Derived.Deep.RegionWith
namespace Go.Proofs.YtiegpkbollihgaaDoor
open Go.RowKit
theorem u8_xor_n (a b : Nat) (ha : a < 256) (hb : b < 256) : bits .xor .u8 (a : Int) (b : Int) = ((a ^^^ b : Nat) : Int) := by
  have hx : a ^^^ b < 2 ^ 8 := Nat.xor_lt_two_pow (by omega) (by omega)
  have h1 : ∀ q : Nat, q < 256 → (BitVec.ofInt 8 (q : Int)).toNat = q := by
    intro q hq
    rw [BitVec.ofInt_natCast, BitVec.toNat_ofNat]
    exact Nat.mod_eq_of_lt (by omega)
  show IntKind.u8.wrap ((BitVec.ofInt 8 (a : Int) ^^^ BitVec.ofInt 8 (b : Int)).toNat : Int) = _
  rw [BitVec.toNat_xor, h1 a ha, h1 b hb]
  show (((a ^^^ b : Nat) : Int)) % 256 = _
  omega
/-- A row of bytes that a conversion made: the first N of them. -/
def BN (W : World) (g N : Nat) (l : List Int) : Prop := ∃ (cs : Array Value) (n : Nat), W.heap[g]? = some (.cells cs 5 (n, n + 1)) ∧ N ≤ n ∧ cs.size = n ∧ l.length = N ∧ ∀ j, j < N → cs[j]? = some (.int .u8 (l.getD j 0))
theorem BN.cell {W : World} {g N : Nat} {l : List Int} (h : BN W g N l) {j : Nat} (hj : j < N) : W.cell? ⟨g, j, none⟩ = some (.int .u8 (l.getD j 0)) := by
  obtain ⟨cs, n, hg, _, _, _, hc⟩ := h
  rw [Lib.cell_of_heap hg]
  exact hc j hj
theorem BN.fz {W : World} {g N : Nat} {l : List Int} (h : BN W g N l) {j : Nat} (hj : j < N) : W.frozen? ⟨g, j, none⟩ = false := by
  obtain ⟨cs, n, hg, hn, _, _, _⟩ := h
  unfold World.frozen?
  simp only [hg]
  simp
  omega
theorem BN.set {W : World} {g N : Nat} {l : List Int} (h : BN W g N l) {j : Nat} (hj : j < N) (x : Int) : BN (W.setCell ⟨g, j, none⟩ (.int .u8 x)) g N (l.set j x) := by
  obtain ⟨cs, n, hg, hn, hs, hl, hc⟩ := h
  refine ⟨cs.setIfInBounds j (.int .u8 x), n, ?_, hn, by simp [hs], by simp [hl], fun k hk => ?_⟩
  · simp [World.setCell, Array.getElem?_modify, hg]
  · by_cases e : k = j
    · subst e
      rw [Array.getElem?_setIfInBounds_self_of_lt (by omega), List.getD_eq_getElem?_getD, List.getElem?_set_self (by omega)]
      rfl
    · rw [Array.getElem?_setIfInBounds_ne (fun e' => e e'.symm), hc k hk, List.getD_eq_getElem?_getD, List.getD_eq_getElem?_getD, List.getElem?_set_ne (fun e' => e e'.symm)]
theorem BN.new (w : World) (s : ByteArray) (h0 : 0 < s.size) : BN (Lib.bytesWorld w 5 s) w.heap.size s.size (numsOf s) := by
  have hnew := Lib.bytesWorld_at_new w 5 s
  have hcell : ∀ j, j < s.size → (Lib.bytesCells w 5 s)[j]? = some (.int .u8 ((numsOf s).getD j 0)) := by
    intro j hj
    have h1 := Lib.bytesWorld_cell w 5 s j hj
    rw [Lib.cell_of_heap hnew] at h1
    rw [h1, numsOf, List.getD_eq_getElem?_getD, List.getD_eq_getElem?_getD, List.getElem?_map, List.getElem?_eq_getElem (by simpa using hj)]
    rfl
  refine ⟨_, (Lib.bytesCells w 5 s).size, hnew, ?_, rfl, by simp [numsOf], hcell⟩
  have := (Array.getElem?_eq_some_iff.1 (hcell (s.size - 1) (by omega))).1
  omega
theorem BN.conv {W : World} {g cap N : Nat} {l : List Int} (h : BN W g N l) : (convert 53 9 (.slice (some ⟨g, 0, none⟩) N cap)).run Tryd.prog W = .ok (.string (strOfNums l)) W :=
  run_convert_bytes_arg _ 53 5 under_bytes under_u8 g 0 N cap l (by obtain ⟨_, _, _, _, _, hl, _⟩ := h; exact hl) (fun i hi => by rw [Nat.zero_add]; exact h.cell hi) 9 under_string
theorem numsOf_at {s : ByteArray} {n : Nat} (hn : n < s.size) : (numsOf s).getD n 0 = ((s[n].toNat : Nat) : Int) := by
  rw [numsOf, List.getD_eq_getElem?_getD, List.getElem?_map, List.getElem?_eq_getElem (by simpa using hn)]
  rfl
/-- One byte turned. -/
theorem diff_set {s : ByteArray} {n y z : Nat} (hn : n < s.size) (hy : s[n].toNat = y) (hz0 : 1 ≤ z) (hz : z < 256) : Fn.Diff1 s.data.toList (strOfNums ((numsOf s).set n ((y ^^^ z : Nat) : Int))).data.toList n := by
  have hlt : n < s.data.toList.length := by simpa using hn
  have hy2 : y < 256 := by rw [← hy]; exact s[n].toNat_lt
  have hx : y ^^^ z < 256 := by
    have : y ^^^ z < 2 ^ 8 := Nat.xor_lt_two_pow (by omega) (by omega)
    omega
  have hne : y ^^^ z ≠ y := by
    intro e
    have h2 : y ^^^ (y ^^^ z) = y ^^^ y := by rw [e]
    rw [← Nat.xor_assoc, Nat.xor_self, Nat.zero_xor] at h2
    omega
  have hback : ∀ L : List UInt8, ((L.map fun b => (b.toNat : Int)).map fun x => UInt8.ofNat x.toNat) = L := by
    intro L
    rw [List.map_map]
    conv => rhs; rw [← List.map_id L]
    refine List.map_congr_left fun b _ => ?_
    simp
  rw [strOfNums_data, numsOf, List.map_set, hback]
  refine ⟨by simp, fun j hj => by rw [List.getElem?_set_ne (fun e => hj e.symm)], ?_⟩
  rw [List.getElem?_set_self hlt, List.getElem?_eq_getElem hlt]
  intro e
  have e2 := congrArg UInt8.toNat (Option.some.inj e)
  have e3 : (s.data.toList[n]).toNat = y := hy
  rw [e3] at e2
  simp only [Int.toNat_natCast] at e2
  rw [UInt8.toNat_ofNat_of_lt' (by rw [show UInt8.size = 256 from rfl]; exact hx)] at e2
  exact hne e2.symm
theorem grown_drew2 {a w : World} {row : Option Nat} (h : a.grownBy w row) : a.grownBy w.drew row := ⟨h.os, h.tape, h.output, h.size, h.block⟩
def FdI (w : World) (g c : Nat) (v1 v2 v6 v10 : Value) (W : World) : Prop := ∃ (i c' : Nat) (x y : Int), i ≤ 20 ∧ v6 = .bool false ∧ v10 = .int .i64 (i : Int) ∧ v1 = .int .i64 x ∧ v2 = .int .i64 y ∧ c' ≤ c + 2 * i ∧ Mk g W g c' ∧ Below w.heap.size w W
set_option linter.unusedVariables false in
set_option maxRecDepth 100000 in
set_option maxHeartbeats 16000000 in
theorem walk_FinalsheetFinds (a0 : Option Addr) (len0 cap0 : Nat) (z0 : List Int) (p1 p2 : Int) (mx : Int) (w : World) (w0 : IsRow .i64 w a0 len0 cap0 z0) (w1 : (Lit.int .i64 p1).wf = true) (w2 : (Lit.int .i64 p2).wf = true) (hmx : w.cell? ⟨0, 0, none⟩ = some (.int .i64 mx)) (ht : Tab10 w) :
    Calls Tryd.prog 6 #[.slice a0 len0 cap0, .int .i64 p1, .int .i64 p2] w fun e w' => e = .returned (.bool true) ∧ Below w.heap.size w w' := by
  obtain ⟨r0, m0, _⟩ := w0.reads
  clear w0
  generalize z0.take len0 = l0 at r0
  have HN := Lib.hid (new_c a0 len0 cap0 l0 w m0 r0)
  clear r0
  go_enter Tryd.func6, Tryd.ntmps6
  go_wp2_with fail
  refine HN.out.mono ?_
  rintro e w1' ⟨rfl, hm1, hb1, hz1⟩
  obtain ⟨g, hg⟩ : ∃ g, w.heap.size = g := ⟨_, rfl⟩
  rw [hg] at hm1
  have hgw : g ≤ w.heap.size := by omega
  have hgw' : w.heap.size ≤ g := by omega
  have hs1 := hb1.size
  clear hz1 HN
  go_wp2_with fail
  refine (fmade_c g g 0 8 w1' hm1 (by omega) (by omega) (by have := hm1.lt; omega)).mono ?_
  rintro e w2' ⟨A, m, cp, Bs, k, d, f, b0, b1, b2, b3, b4, b5, b6, c2, rfl, HOK, Hbk, oW, oS, hc2, hm2, hg2⟩
  have hb2 : Below w.heap.size w w2' := hb1.trans (grown_below hg2 hs1 (by omega))
  have hFR2 := ok_FR oW oS HOK.out
  have hb7 : f.bk.length = 7 := by rw [Hbk.out]; rfl
  have HFm := Lib.hid (fformat_c A m cp Bs k d f b0 b1 b2 b3 b4 b5 b6 w2' Hbk.out hFR2 (ht.below hb2))
  unfold FFormatR at HFm
  rw [ok_fmt HOK.out] at HFm
  simp only at HFm
  have hlen := Fn.len_fmt HOK.out.err hb7
  have hend := fmt_end f
  have HFd := Lib.hid (fun (s : ByteArray) (k : Nat) => Fn.finds (s := s) (k := k) HOK.out.err hb7)
  obtain ⟨S, hS⟩ : ∃ S, baOf (Fn.fmtL f) = S := ⟨_, rfl⟩
  have hSz : S.size ≤ 9000 := by rw [← hS, Fn.ba_size]; exact hlen
  have hSd : Fn.fmtL f = S.data.toList := by rw [← hS, baOf_data]
  have hS1 : 1 ≤ S.size := by
    obtain ⟨q, hq⟩ := hend
    rw [← hS, Fn.ba_size, hq]
    simp
  rw [hSd] at HFd
  have hS0 : ((S.size : Int) == 0) = false := beq_eq_false_iff_ne.2 (by omega)
  have hS0' : (S.size == 0) = false := beq_eq_false_iff_ne.2 (by omega)
  rw [hS] at HFm
  unfold fnV at HFm
  clear hlen hb7 hS hend oW oS hg2 hm1 hb1 hs1 hFR2 hSd
  unfold fnV
  go_wp2_with fail
  refine HFm.out.mono ?_
  rintro e w4 ⟨rfl, hb4⟩
  have hm4 := hm2.below hb4
  have hbw4 := below_step hb2 hb4
  clear hm2 hb2 HFm hb4
  go_wp2_with fail
  go_loopw [1, 2, 6, 10] (fun v1 v2 v6 v10 wr => FdI w g c2 v1 v2 v6 v10 wr) (fun _ _ _ v10 _ => 20 - (intOf v10).toNat)
  case atStart => exact (show FdI _ _ _ _ _ _ _ _ from ⟨0, c2, p1, p2, by omega, rfl, rfl, rfl, rfl, by omega, hm4, hbw4⟩)
  case round =>
    obtain ⟨i, c, x, y, hi, rfl, rfl, rfl, rfl, hc, hmk, hbr⟩ := hrel
    clear hm4 hbw4
    by_cases hlt : i < 20
    · have dlt : decide ((i : Int) < 20) = true := decide_eq_true (by omega)
      have dlt' : decide (i < 20) = true := decide_eq_true hlt
      have hcb := Lib.run_convert_string_bytes (P := Tryd.prog) wr 9 53 5 S under_string under_bytes under_u8
      obtain ⟨W5, hW5⟩ : ∃ W5, Lib.bytesWorld wr 5 S = W5 := ⟨_, rfl⟩
      have hN5 : BN W5 wr.heap.size S.size (numsOf S) := by rw [← hW5]; exact BN.new wr S hS1
      have hgr5 := bytesW_grown wr 5 S (some g)
      rw [hW5] at hcb hgr5
      have hm5 : Mk g W5 g c := by rw [← hW5]; exact hmk.grown (bytesW_grown wr 5 S none) (by simp) (by simp)
      have hb5 : Below w.heap.size w W5 := hbr.grown hgr5 hbr.size (fun b e => by have := Option.some.inj e; omega)
      obtain ⟨gb, hgb⟩ : ∃ gb, wr.heap.size = gb := ⟨_, rfl⟩
      rw [hgb] at hN5
      have hggb : g < gb := by rw [← hgb]; exact hmk.lt
      go_wp2_with fail
      refine (place_c x S.size W5 ⟨by omega, by omega⟩).mono ?_
      rintro e w6 ⟨⟨n0, rfl, hn0, hn1⟩, rfl⟩
      obtain ⟨n, rfl⟩ := Int.eq_ofNat_of_zero_le hn0
      have hnS : n < S.size := by omega
      have hni : (n : Int) < (S.size : Int) := by omega
      have hcl := hN5.cell hnS
      have hfz := hN5.fz hnS
      rw [numsOf_at hnS] at hcl
      obtain ⟨yy, hyy⟩ : ∃ yy, S[n].toNat = yy := ⟨_, rfl⟩
      have hyl : yy < 256 := by rw [← hyy]; exact S[n].toNat_lt
      rw [hyy] at hcl
      have Hyy := Lib.hid hyy
      have HPl := Lib.hid (fun W => place_c y 255 W ⟨by omega, by omega⟩)
      clear hyy hmk hbr hgr5
      go_wp2_with fail
      go_region_with (go_at_call 22
                      with_reducible refine (HPl.out _).mono ?_
                      rintro e w7 ⟨⟨k0, rfl, hk0, hk1⟩, rfl⟩
                      have hkw : (1 + k0) % 256 = 1 + k0 := by omega)
      all_goals
        obtain ⟨kk, rfl⟩ := Int.eq_ofNat_of_zero_le hk0
        have hv : bits .xor .u8 (yy : Int) (IntKind.u8.wrap (IntKind.i64.wrap (1 + (kk : Int)))) = ((yy ^^^ (1 + kk) : Nat) : Int) := by
          have h1 : IntKind.i64.wrap (1 + (kk : Int)) = 1 + (kk : Int) := IntWalk.i64_in _ ⟨by omega, by omega⟩
          have h2 : IntKind.u8.wrap (1 + (kk : Int)) = ((1 + kk : Nat) : Int) := by
            show (1 + (kk : Int)) % 256 = _
            omega
          rw [h1, h2]
          exact u8_xor_n yy (1 + kk) hyl (by omega)
        rw [hv]
        obtain ⟨W8, hW8⟩ : ∃ W8, (W5.setCell ⟨gb, n, none⟩ (.int .u8 ((yy ^^^ (1 + kk) : Nat) : Int))).drew = W8 := ⟨_, rfl⟩
        have hN8 : BN W8 gb S.size ((numsOf S).set n ((yy ^^^ (1 + kk) : Nat) : Int)) := by rw [← hW8]; exact hN5.set hnS _
        have hg8 : W5.grownBy W8 (some gb) := by rw [← hW8]; exact grown_drew2 (grown_setc W5 gb n _)
        have hm8 := hm5.grown hg8 (fun e => by have := Option.some.inj e; omega) (fun b e => by have := Option.some.inj e; omega)
        have hb8 : Below w.heap.size w W8 := hb5.grown hg8 hb5.size (fun b e => by have := Option.some.inj e; omega)
        have hdf := diff_set hnS Hyy.out (show 1 ≤ 1 + kk by omega) (show 1 + kk < 256 by omega)
        have hts : (strOfNums ((numsOf S).set n ((yy ^^^ (1 + kk) : Nat) : Int))).size = S.size := by rw [strOfNums_size]; simp [numsOf]
        obtain ⟨tt, htt⟩ : ∃ tt, strOfNums ((numsOf S).set n ((yy ^^^ (1 + kk) : Nat) : Int)) = tt := ⟨_, rfl⟩
        have hcv : ∀ cap, (convert 53 9 (.slice (some ⟨gb, 0, none⟩) S.size cap)).run Tryd.prog W8 = .ok (.string tt) W8 := fun cap => by have := hN8.conv (cap := cap); rwa [htt] at this
        rw [htt] at hdf hts
        have hpe := HFd.out tt n hdf
        have hpl := parse_line tt
        rw [hW8]
        clear hcb hN5 hcl hfz Hyy HPl hkw hv hN8 hg8 hdf htt hW8 hm5 hb5 hk0 hk1
        have hHP := Lib.hid (fparse_c tt mx W8 (by unfold maxLen; omega) (keep_cell hb8 hmx))
        unfold FParseR at hHP
        obtain ⟨PP, hPP⟩ : ∃ PP, Fn.parse tt = PP := ⟨_, rfl⟩
        rw [hPP] at hHP hpe hpl
        obtain ⟨fq, nq, eq⟩ := PP
        simp only at hHP hpe hpl
        have hee : (eq == 0) = false := by simpa using hpe
        have hnn : decide (nq < 0) = false := decide_eq_false (by omega)
        clear hPP hpe
        go_wp2_with fail
        refine hHP.out.mono ?_
        rintro e w9 ⟨Aa, na, ca, Ba, ma, da, q0, q1, q2, q3, q4, q5, q6, rfl, _, _, _, hb9⟩
        have hm9 := hm8.below hb9
        have hbw9 := below_step hb8 hb9
        unfold fnV
        obtain ⟨W10, hW10⟩ : ∃ W10, w9.alloc (.cells #[.string fq.nm, .slice Aa na ca, .int .i64 q0, .int .i64 q1, .int .i64 q2, .int .i64 q3, .int .i64 q4, .int .i64 q5, .int .i64 q6, .slice Ba ma da] 28) = W10 := ⟨_, rfl⟩
        have hm10 : Mk g W10 g c := by rw [← hW10]; exact hm9.alloc _
        have hb10 : Below w.heap.size w W10 := by rw [← hW10]; exact hbw9.alloc hbw9.size _
        clear hm8 hb8 hb9 hm9 hbw9
        go_wp2_with fail
        refine (next_c g g c S.size W10 hm10 (by omega) (by omega) (by omega)).mono ?_
        rintro e w11 ⟨x1, _, _, rfl, hm11, hg11⟩
        have hb11 : Below w.heap.size w w11 := hb10.grown hg11 hb10.size (fun b e => by have := Option.some.inj e; omega)
        clear hm10 hb10 hg11
        go_wp2_with fail
        refine (next_c g g (c + 1) 255 w11 hm11 (by omega) (by omega) (by omega)).mono ?_
        rintro e w12 ⟨y1, _, _, rfl, hm12, hg12⟩
        have hb12 : Below w.heap.size w w12 := hb11.grown hg12 hb11.size (fun b e => by have := Option.some.inj e; omega)
        clear hm11 hb11 hg12
        go_wp2_with fail
        go_roundw
        case rel => exact (show FdI _ _ _ _ _ _ _ _ from ⟨i + 1, c + 1 + 1, x1, y1, by omega, rfl, by go_num, rfl, rfl, by omega, hm12, hb12⟩)
        case measure => simp [intOf]; omega
    · obtain rfl : i = 20 := by omega
      have dlt : decide (((20 : Nat) : Int) < 20) = false := rfl
      go_wp2_with fail
      refine (sane38_c mx wr (keep_cell hbr hmx) (ht.below hbr)).mono ?_
      rintro e w6 ⟨rfl, hb6⟩
      have hbw6 := below_step hbr hb6
      go_wp2_with fail
      go_ret
      exact ⟨rfl, hbw6⟩
end Go.Proofs.YtiegpkbollihgaaDoor
