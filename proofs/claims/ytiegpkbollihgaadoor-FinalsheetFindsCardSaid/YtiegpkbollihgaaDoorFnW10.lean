/- The walk of the program's Format of a sheet. -/
import Derived.Test.YtiegpkbollihgaaDoorFnW9
import Derived.Test.YtiegpkbollihgaaDoorFnStr
namespace Go.Proofs.YtiegpkbollihgaaDoor
open Go.RowKit
theorem trim_nl (q : List UInt8) : Lib.trimSuffix (q ++ [10]) [10] = q := by
  unfold Lib.trimSuffix
  rw [if_pos (by simp [Lib.hasSuffix])]
  rw [List.length_append, List.length_singleton, Nat.add_sub_cancel, List.take_left']
  rfl
def FwI (f : FN) (n base : Nat) (w1 : World) (vi : Value) (wr : World) : Prop := ∃ t : Nat, t ≤ n ∧ vi = .int .i64 (t : Int) ∧ Bd w1.heap.size w1.heap.size (Fn.pre f (base + t)) wr ∧ Below w1.heap.size w1 wr
set_option maxRecDepth 100000 in
set_option maxHeartbeats 8000000 in
theorem fformat_c (A : Option Addr) (n c : Nat) (B : Option Addr) (m d : Nat) (f : FN) (b0 b1 b2 b3 b4 b5 b6 : Int) (w : World) (hb : f.bk = [b0, b1, b2, b3, b4, b5, b6]) (h : FR w A n B m f) (ht : Tab10 w) :
    Calls Tryd.prog 21 #[fnV A n c B m d f.nm b0 b1 b2 b3 b4 b5 b6] w (FFormatR f w) := by
  have hbw : Below w.heap.size w (w.alloc (.cells #[.string f.nm, .slice A n c, .int .i64 b0, .int .i64 b1, .int .i64 b2, .int .i64 b3, .int .i64 b4, .int .i64 b5, .int .i64 b6, .slice B m d] 28)) := (Below.refl _ _).alloc (Nat.le_refl _) _
  have hX := Blk.new w 28 #[.string f.nm, .slice A n c, .int .i64 b0, .int .i64 b1, .int .i64 b2, .int .i64 b3, .int .i64 b4, .int .i64 b5, .int .i64 b6, .slice B m d]
  have HV := Lib.hid (fvalid_c A n c B m d f b0 b1 b2 b3 b4 b5 b6 _ hb (h.below hbw))
  obtain ⟨W1, hW1⟩ : ∃ W1, w.alloc (.cells #[.string f.nm, .slice A n c, .int .i64 b0, .int .i64 b1, .int .i64 b2, .int .i64 b3, .int .i64 b4, .int .i64 b5, .int .i64 b6, .slice B m d] 28) = W1 := ⟨_, rfl⟩
  have hW1s : W1.heap.size = w.heap.size + 1 := by rw [← hW1]; simp
  rw [hW1] at hX hbw HV
  unfold fnV at HV
  have H := Lib.hid h
  have Hbk := Lib.hid hb
  have Hnl := Lib.hid h.ws.len
  have Hml := Lib.hid h.so.len
  clear h hb
  have x0 : W1.cell? ⟨w.heap.size, 0, none⟩ = some (.string f.nm) := hX.cell 0
  have x1 : W1.cell? ⟨w.heap.size, 1, none⟩ = some (.slice A n c) := hX.cell 1
  have x2 : W1.cell? ⟨w.heap.size, 2, none⟩ = some (.int .i64 b0) := hX.cell 2
  have x3 : W1.cell? ⟨w.heap.size, 3, none⟩ = some (.int .i64 b1) := hX.cell 3
  have x4 : W1.cell? ⟨w.heap.size, 4, none⟩ = some (.int .i64 b2) := hX.cell 4
  have x5 : W1.cell? ⟨w.heap.size, 5, none⟩ = some (.int .i64 b3) := hX.cell 5
  have x6 : W1.cell? ⟨w.heap.size, 6, none⟩ = some (.int .i64 b4) := hX.cell 6
  have x7 : W1.cell? ⟨w.heap.size, 7, none⟩ = some (.int .i64 b5) := hX.cell 7
  have x8 : W1.cell? ⟨w.heap.size, 8, none⟩ = some (.int .i64 b6) := hX.cell 8
  have x9 : W1.cell? ⟨w.heap.size, 9, none⟩ = some (.slice B m d) := hX.cell 9
  go_enter Tryd.func21, Tryd.ntmps21
  unfold fnV
  go_wp2_with fail
  refine HV.out.mono ?_
  rintro e w1 ⟨rfl, hb1⟩
  have hb1' := hbw.trans (hb1.mono (by omega))
  have hX1 := hX.below hb1 hX.lt
  have hsz1 : w.heap.size + 1 ≤ w1.heap.size := by have := hb1.size; omega
  clear HV x0 x1 x2 x3 x4 x5 x6 x7 x8 x9 hX hb1
  by_cases h0 : Fn.fErr f = 0
  case neg =>
    have d0 : (Fn.fErr f != 0) = true := by simp [h0]
    have Hz := Lib.hid h0
    clear h0
    go_wp2_with fail
    go_ret2
    exact fformatR_bad Hz.out hb1'
  case pos =>
  have d0 : (Fn.fErr f != 0) = false := by simp [h0]
  have Hz := Lib.hid h0
  obtain ⟨hz1, hz2, hz3, hz4, hz5⟩ := Fn.fErr_zero h0
  have hnm := Fn.nm_size hz1
  have hn96 : n ≤ 96 := by have := Hnl.out; omega
  have hm16 : m ≤ 16 := by have := Hml.out; omega
  have H3 := Lib.hid hz3
  have Hlen := Lib.hid (Fn.pre_len h0 (by rw [Hbk.out]; rfl))
  have HR := Lib.hid (H.out.below hb1')
  clear h0 hz1 hz2 hz3 hz4 hz5 H
  have x0 : w1.cell? ⟨w.heap.size, 0, none⟩ = some (.string f.nm) := hX1.cell 0
  have x1 : w1.cell? ⟨w.heap.size, 1, none⟩ = some (.slice A n c) := hX1.cell 1
  have hl6 : (⟨#[116, 114, 97, 105, 110, 32]⟩ : ByteArray).size = 6 := rfl
  have hl1 : (⟨#[10]⟩ : ByteArray).size = 1 := rfl
  have hl32 : (⟨#[32]⟩ : ByteArray).size = 1 := rfl
  have hl6w : (⟨#[119, 97, 103, 111, 110, 32]⟩ : ByteArray).size = 6 := rfl
  have HTab := Lib.hid (ht.below hb1')
  clear ht
  obtain ⟨o1, ho1⟩ : ∃ o1, (⟨#[116, 114, 97, 105, 110, 32]⟩ : ByteArray) ++ f.nm ++ ⟨#[10]⟩ = o1 := ⟨_, rfl⟩
  have ho1z : o1.size ≤ 20 := by rw [← ho1]; simp only [ByteArray.size_append]; omega
  have Ho1 : Hid (o1.data.toList = Fn.pre f 1) := Lib.hid (by
    rw [← ho1, show Fn.pre f 1 = Fn.pre f (0 + 1) from rfl, Fn.pre_step (Fn.at_train f), Fn.join_train]
    simp [Fn.pre, Fn.ended, Fn.wTrain])
  have hbd0 : Bd w1.heap.size w1.heap.size [] (w1.alloc (.cells #[.pointer none, .slice none 0 0] 74)) := Lib.fresh_isBuilder _ _ _
  have hbl0 : Below w1.heap.size w1 (w1.alloc (.cells #[.pointer none, .slice none 0 0] 74)) := (Below.refl _ _).alloc (Nat.le_refl _) _
  have x0a := cell_alloc x0 (.cells #[.pointer none, .slice none 0 0] 74)
  go_wp2_with fail
  refine (writeString_c w1.heap.size w1.heap.size [] o1 _ hbd0 (by simp; omega) hbl0.size).mono ?_
  rintro e w2 ⟨rfl, hbd, hb2, _⟩
  have hbl2 := hbl0.trans hb2
  rw [List.nil_append, Ho1.out] at hbd
  have x1a : w2.cell? ⟨w.heap.size, 1, none⟩ = some (.slice A n c) := keep_cell hbl2 x1
  clear hbd0 hbl0 hb2
  go_wp2_with fail
  go_loopw [25] (fun vi wr => FwI f n 1 w1 vi wr) (fun vi _ => n - (intOf vi).toNat)
  case atStart => exact (show FwI _ _ _ _ _ _ from ⟨0, by omega, rfl, hbd, hbl2⟩)
  case round =>
    obtain ⟨t, htn, rfl, hbdr, hbr⟩ := hrel
    clear ho1 Ho1 hbd hbl2
    have HLn := Lib.hid (Hlen.out (1 + t))
    by_cases hlt : t < n
    · have hti : (t : Int) < (n : Int) := by omega
      obtain ⟨ad, x, rfl, _, hp, c0, c1, c2, c3, c4, c5, c6, c7⟩ := (HR.out.ws.below hbr).at_ hlt
      have hx := H3.out x (List.mem_of_getElem? hp)
      have hnu := Fn.nu_size hx
      have hde := Fn.de_size hx
      have Hin := Lib.hid (Fn.wag_in hx)
      have Hst := Lib.hid (Fn.pre_step (Fn.at_wagon hp))
      clear hp hx
      have hX2 := Blk.new wr 34 #[.string x.nu, .int .i64 x.len, .int .i64 x.ax, .int .i64 x.ms, .int .i64 x.br, .int .i64 x.gd, .bool x.gt, .string x.de]
      have hbx := hbr.alloc hbr.size (.cells #[.string x.nu, .int .i64 x.len, .int .i64 x.ax, .int .i64 x.ms, .int .i64 x.br, .int .i64 x.gd, .bool x.gt, .string x.de] 34)
      have hbdx := hbdr.below ((Below.refl wr.heap.size wr).alloc (Nat.le_refl _) (.cells #[.string x.nu, .int .i64 x.len, .int .i64 x.ax, .int .i64 x.ms, .int .i64 x.br, .int .i64 x.gd, .bool x.gt, .string x.de] 34))
      obtain ⟨s1, hs1⟩ : ∃ s1, (⟨#[119, 97, 103, 111, 110, 32]⟩ : ByteArray) ++ x.nu = s1 := ⟨_, rfl⟩
      have Hs1 : Hid (s1 = baOf (Fn.wWagon ++ 32 :: x.nu.data.toList)) := Lib.hid (by rw [← hs1]; exact Fn.ba_ext (by simp [baOf, Fn.wWagon]))
      clear hbdr
      go_upto_if 30 with fail
      go_cut [8] from 26 to 57 (fun a W => a = .string (baOf (Fn.gtW x.gt)) ∧ W = wr.alloc (.cells #[.string x.nu, .int .i64 x.len, .int .i64 x.ax, .int .i64 x.ms, .int .i64 x.br, .int .i64 x.gd, .bool x.gt, .string x.de] 34))
      case first =>
        cases hg : x.gt with
        | false =>
          go_wp2_with fail
          go_meet
          exact ⟨by rw [hg]; rfl, by rw [hg]⟩
        | true =>
          go_wp2_with fail
          go_meet
          exact ⟨by rw [hg]; rfl, by rw [hg]⟩
      case rest =>
        obtain ⟨rfl, hwc⟩ := hcut
        have hX3 : Blk wc wr.heap.size 34 #[.string x.nu, .int .i64 x.len, .int .i64 x.ax, .int .i64 x.ms, .int .i64 x.br, .int .i64 x.gd, .bool x.gt, .string x.de] := by rw [hwc]; exact hX2
        have hbc : Below w1.heap.size w1 wc := by rw [hwc]; exact hbx
        have hbdc : Bd w1.heap.size w1.heap.size (Fn.pre f (1 + t)) wc := by rw [hwc]; exact hbdx
        have y0 : wc.cell? ⟨wr.heap.size, 0, none⟩ = some (.string x.nu) := hX3.cell 0
        have y1 : wc.cell? ⟨wr.heap.size, 1, none⟩ = some (.int .i64 x.len) := hX3.cell 1
        have y2 : wc.cell? ⟨wr.heap.size, 2, none⟩ = some (.int .i64 x.ax) := hX3.cell 2
        have y3 : wc.cell? ⟨wr.heap.size, 3, none⟩ = some (.int .i64 x.ms) := hX3.cell 3
        have y4 : wc.cell? ⟨wr.heap.size, 4, none⟩ = some (.int .i64 x.br) := hX3.cell 4
        have y5 : wc.cell? ⟨wr.heap.size, 5, none⟩ = some (.int .i64 x.gd) := hX3.cell 5
        clear hwc hX2 hbx hbdx c0 c1 c2 c3 c4 c5 c6 c7
        have hplen : (Fn.wWagon ++ 32 :: x.nu.data.toList).length = 18 := by
          have : x.nu.data.toList.length = x.nu.size := by simp
          simp [Fn.wWagon, hnu]
        have hbc4 := hbc.alloc hbc.size (.cells #[.int .i64 x.len, .int .i64 x.ax, .int .i64 x.ms, .int .i64 x.br, .int .i64 x.gd] 3)
        have HL := Lib.hid (fline_c (Fn.wWagon ++ 32 :: x.nu.data.toList) (some ⟨wc.heap.size, 0, none⟩) 5 5 (Fn.wagL x) (wc.alloc (.cells #[.int .i64 x.len, .int .i64 x.ax, .int .i64 x.ms, .int .i64 x.br, .int .i64 x.gd] 3)) (by omega) (by omega) (IR.new (Fn.wagL x) 5 rfl rfl (by decide)) Hin.out (HTab.out.below hbc4))
        rw [← Hs1.out] at HL
        have hl2 := Fn.lineL_len (p := Fn.wWagon ++ 32 :: x.nu.data.toList) Hin.out
        rw [hplen, show (Fn.wagL x).length = 5 from rfl] at hl2
        go_wp2_with fail
        refine HL.out.mono ?_
        rintro e w5 ⟨rfl, hb5⟩
        obtain ⟨q, hq⟩ : ∃ q, (Fn.wWagon ++ 32 :: x.nu.data.toList) ++ (Fn.wagL x).flatMap Fn.sp = q := ⟨_, rfl⟩
        have hlq : Fn.lineL (Fn.wWagon ++ 32 :: x.nu.data.toList) (Fn.wagL x) = q ++ [10] := by unfold Fn.lineL; rw [hq]
        rw [hlq] at hl2 ⊢
        have hqz : q.length ≤ 200 := by rw [List.length_append, List.length_singleton] at hl2; omega
        have HT := Lib.hid (Tryd.strings_TrimSuffix (baOf (q ++ [10])) ⟨#[10]⟩ w5 (by rw [Fn.ba_size, List.length_append, List.length_singleton]; omega))
        rw [baOf_data, show (⟨#[10]⟩ : ByteArray).data.toList = [10] from rfl, trim_nl] at HT
        have Hq := Lib.hid hq
        obtain ⟨s2, hs2⟩ : ∃ s2, baOf (q ++ [10]) = s2 := ⟨_, rfl⟩
        obtain ⟨s3, hs3⟩ : ∃ s3 : ByteArray, (⟨q.toArray⟩ : ByteArray) = s3 := ⟨_, rfl⟩
        have hs3z : s3.size ≤ 200 := by rw [← hs3]; show q.toArray.size ≤ 200; simpa using hqz
        have Hs3 : Hid (s3.data.toList = q) := Lib.hid (by rw [← hs3])
        rw [hs2, hs3] at HT
        rw [hs2]
        have hX4 := hX3.alloc (.cells #[.int .i64 x.len, .int .i64 x.ax, .int .i64 x.ms, .int .i64 x.br, .int .i64 x.gd] 3)
        have hX5 := hX4.below hb5 hX4.lt
        have y7 : w5.cell? ⟨wr.heap.size, 7, none⟩ = some (.string x.de) := hX5.cell 7
        have hb5' := below_step hbc4 hb5
        have hbd5 := (hbdc.below ((Below.refl wc.heap.size wc).alloc (Nat.le_refl _) (.cells #[.int .i64 x.len, .int .i64 x.ax, .int .i64 x.ms, .int .i64 x.br, .int .i64 x.gd] 3))).below hb5
        obtain ⟨gw, hgw⟩ : ∃ gw, baOf (Fn.gtW x.gt) = gw := ⟨_, rfl⟩
        have hgz : gw.size ≤ 6 := by rw [← hgw, Fn.ba_size]; unfold Fn.gtW; split <;> decide
        have Hgw : Hid (gw.data.toList = Fn.gtW x.gt) := Lib.hid (by rw [← hgw]; rfl)
        rw [hgw]
        clear hs2 hs3 hq hlq hgw HL y0 y1 y2 y3 y4 y5 hX3 hX4 hX5 hb5 hbc hbc4 hbdc
        go_wp2_with fail
        refine HT.out.mono ?_
        rintro e w6 ⟨rfl, rfl⟩
        obtain ⟨s4, hs4⟩ : ∃ s4, s3 ++ (⟨#[32]⟩ : ByteArray) ++ gw ++ ⟨#[32]⟩ ++ x.de ++ ⟨#[10]⟩ = s4 := ⟨_, rfl⟩
        have hs4z : s4.size ≤ 300 := by rw [← hs4]; simp only [ByteArray.size_append]; omega
        have Hs4 : Hid (s4.data.toList = (Fn.join (Fn.wagonW x) ++ [10])) := Lib.hid (by
          rw [← hs4]
          rw [Fn.join_wagon, Hq.out, ← Hs3.out, ← Hgw.out]
          simp)
        go_wp2_with fail
        refine (writeString_c w1.heap.size w1.heap.size (Fn.pre f (1 + t)) s4 _ hbd5 (by have := HLn.out; omega) hb5'.size).mono ?_
        rintro e w7 ⟨rfl, hbd7, hb7, _⟩
        rw [Hs4.out] at hbd7
        go_wp2_with fail
        go_roundw
        case rel => exact (show FwI _ _ _ _ _ _ from ⟨t + 1, by omega, by go_num, by rw [show 1 + (t + 1) = 1 + t + 1 by omega, Hst.out]; exact hbd7, hb5'.trans hb7⟩)
        case measure => simp [intOf]; omega
    · obtain rfl : t = n := by omega
      have hXr := hX1.below hbr hX1.lt
      have x2 : wr.cell? ⟨w.heap.size, 2, none⟩ = some (.int .i64 b0) := hXr.cell 2
      have x3 : wr.cell? ⟨w.heap.size, 3, none⟩ = some (.int .i64 b1) := hXr.cell 3
      have x4 : wr.cell? ⟨w.heap.size, 4, none⟩ = some (.int .i64 b2) := hXr.cell 4
      have x5 : wr.cell? ⟨w.heap.size, 5, none⟩ = some (.int .i64 b3) := hXr.cell 5
      have x6 : wr.cell? ⟨w.heap.size, 6, none⟩ = some (.int .i64 b4) := hXr.cell 6
      have x7 : wr.cell? ⟨w.heap.size, 7, none⟩ = some (.int .i64 b5) := hXr.cell 7
      have x8 : wr.cell? ⟨w.heap.size, 8, none⟩ = some (.int .i64 b6) := hXr.cell 8
      go_wp2_with fail
      refine (fnumbers_c b0 b1 b2 b3 b4 b5 b6 wr).mono ?_
      rintro e w3 ⟨v, rfl, own3, hb3⟩
      rw [← Hbk.out] at own3
      obtain ⟨Al, cl, rfl, hcl1, hcl2⟩ := own_form own3
      have hb3' := below_step hbr hb3
      have hbd3 := hbdr.below hb3
      have hbk7 : f.bk.length = 7 := by rw [Hbk.out]; rfl
      have HL := Lib.hid (fline_c Fn.wBrakes Al 7 cl f.bk w3 (by decide) (by omega) (own_IR own3) (Fn.bk_in Hz.out) (HTab.out.below hb3'))
      have hl2 := Fn.lineL_len (p := Fn.wBrakes) (Fn.bk_in Hz.out)
      rw [hbk7, show Fn.wBrakes.length = 6 from rfl] at hl2
      clear x2 x3 x4 x5 x6 x7 x8 own3 hb3
      go_wp2_with fail
      refine HL.out.mono ?_
      rintro e w4 ⟨rfl, hb4⟩
      have hb4' := below_step hb3' hb4
      have hbd4 := hbd3.below hb4
      obtain ⟨s4, hs4⟩ : ∃ s4, baOf (Fn.lineL Fn.wBrakes f.bk) = s4 := ⟨_, rfl⟩
      have hs4z : s4.size ≤ 200 := by rw [← hs4, Fn.ba_size]; omega
      have Ho2 : Hid (Fn.pre f (1 + t) ++ s4.data.toList = Fn.pre f (2 + t)) := Lib.hid (by
        rw [show 2 + t = 1 + t + 1 by omega, Fn.pre_step (by have := Fn.at_brakes f; rw [Hnl.out] at this; exact this), Fn.join_brakes, ← hs4]
        rfl)
      rw [hs4]
      clear hs4 HL hb4 hb3' hXr hbd3 hbdr
      go_wp2_with fail
      refine (writeString_c w1.heap.size w1.heap.size (Fn.pre f (1 + t)) s4 _ hbd4 (by have := HLn.out; omega) hb4'.size).mono ?_
      rintro e w7 ⟨rfl, hbd7, hb7, _⟩
      rw [Ho2.out] at hbd7
      have hb7' := hb4'.trans hb7
      have hX7 := hX1.below hb7' hX1.lt
      have x9 : w7.cell? ⟨w.heap.size, 9, none⟩ = some (.slice B m d) := hX7.cell 9
      clear hb4' hb7 hbd4
      go_wp2_with fail
      go_loopw [66] (fun vi wr => FwI f m (2 + t) w1 vi wr) (fun vi _ => m - (intOf vi).toNat)
      case atStart => exact (show FwI _ _ _ _ _ _ from ⟨0, by omega, rfl, hbd7, hb7'⟩)
      case round =>
        obtain ⟨j, hjm, rfl, hbdq, hbq⟩ := hrel
        clear Ho2 hb7' hbd7
        have HLj := Lib.hid (Hlen.out (2 + t + j))
        by_cases hlt2 : j < m
        · have hji : (j : Int) < (m : Int) := by omega
          obtain ⟨ad2, x, rfl, _, hp, c0, c1, c2⟩ := (HR.out.so.below hbq).at_ hlt2
          have Hin := Lib.hid (Fn.so_in Hz.out (List.mem_of_getElem? hp))
          have Hst := Lib.hid (Fn.pre_step (Fn.at_setout hp))
          rw [Hnl.out] at Hst
          clear hp
          have hl3 := Fn.lineL_len (p := Fn.wSetout) Hin.out
          rw [show (Fn.soL x).length = 3 from rfl, show Fn.wSetout.length = 6 from rfl] at hl3
          obtain ⟨w8, hw8⟩ : ∃ w8, wr.alloc (.cells #[.int .i64 x.st, .int .i64 x.wg, .int .i64 x.gr] 39) = w8 := ⟨_, rfl⟩
          have hX8 : Blk w8 wr.heap.size 39 #[.int .i64 x.st, .int .i64 x.wg, .int .i64 x.gr] := by rw [← hw8]; exact Blk.new wr _ _
          have hb8 : Below w1.heap.size w1 w8 := by rw [← hw8]; exact hbq.alloc hbq.size _
          have hbd8 : Bd w1.heap.size w1.heap.size (Fn.pre f (2 + t + j)) w8 := by rw [← hw8]; exact hbdq.below ((Below.refl wr.heap.size wr).alloc (Nat.le_refl _) _)
          have z0 : w8.cell? ⟨wr.heap.size, 0, none⟩ = some (.int .i64 x.st) := hX8.cell 0
          have z1 : w8.cell? ⟨wr.heap.size, 1, none⟩ = some (.int .i64 x.wg) := hX8.cell 1
          have z2 : w8.cell? ⟨wr.heap.size, 2, none⟩ = some (.int .i64 x.gr) := hX8.cell 2
          have hb9 := hb8.alloc hb8.size (.cells #[.int .i64 x.st, .int .i64 x.wg, .int .i64 x.gr] 3)
          have hbd9 := hbd8.below ((Below.refl w8.heap.size w8).alloc (Nat.le_refl _) (.cells #[.int .i64 x.st, .int .i64 x.wg, .int .i64 x.gr] 3))
          have HL := Lib.hid (fline_c Fn.wSetout (some ⟨w8.heap.size, 0, none⟩) 3 3 (Fn.soL x) (w8.alloc (.cells #[.int .i64 x.st, .int .i64 x.wg, .int .i64 x.gr] 3)) (by decide) (by omega) (IR.new (Fn.soL x) 3 rfl rfl (by decide)) Hin.out (HTab.out.below hb9))
          clear hX8
          go_wp2_with fail
          refine HL.out.mono ?_
          rintro e w5 ⟨rfl, hb5⟩
          obtain ⟨s5, hs5⟩ : ∃ s5, baOf (Fn.lineL Fn.wSetout (Fn.soL x)) = s5 := ⟨_, rfl⟩
          have hs5z : s5.size ≤ 200 := by rw [← hs5, Fn.ba_size]; omega
          have hb5' := below_step hb9 hb5
          have hbd5 := hbd9.below hb5
          have Hs5 : Hid (Fn.pre f (2 + t + j) ++ s5.data.toList = Fn.pre f (2 + t + j + 1)) := Lib.hid (by rw [Hst.out, Fn.join_setout, ← hs5]; rfl)
          rw [hs5]
          clear hs5 HL hb5 c0 c1 c2 hw8 z0 z1 z2 hb8 hb9 hbd8 hbd9 hbdq
          go_wp2_with fail
          refine (writeString_c w1.heap.size w1.heap.size (Fn.pre f (2 + t + j)) s5 _ hbd5 (by have := HLj.out; omega) hb5'.size).mono ?_
          rintro e w7 ⟨rfl, hbd7, hb7, _⟩
          rw [Hs5.out] at hbd7
          go_wp2_with fail
          go_roundw
          case rel => exact (show FwI _ _ _ _ _ _ from ⟨j + 1, by omega, by go_num, hbd7, hb5'.trans hb7⟩)
          case measure => simp [intOf]; omega
        · obtain rfl : j = m := by omega
          rw [Fn.pre_all (by rw [Hnl.out, Hml.out]; exact Nat.le_refl _)] at hbdq
          have HLb : Hid ((Fn.body f).length ≤ 9000) := Lib.hid (by have := Hlen.out (2 + t + j); rwa [Fn.pre_all (by rw [Hnl.out, Hml.out]; exact Nat.le_refl _)] at this)
          go_wp2_with fail
          have hne : Fn.body f ≠ [] := by obtain ⟨p, hp⟩ := Fn.body_last f; rw [hp]; simp
          obtain ⟨o2, ho2⟩ : ∃ o2 : ByteArray, (⟨(Fn.body f).toArray⟩ : ByteArray) = o2 := ⟨_, rfl⟩
          have ho2z : o2.size ≤ 9000 := by rw [← ho2]; show (Fn.body f).toArray.size ≤ 9000; simpa using HLb.out
          have Hbody : Hid (o2.data.toList = Fn.body f) := Lib.hid (by rw [← ho2])
          refine (str_c w1.heap.size w1.heap.size (Fn.body f) _ (BdF.of hbdq hne) hne).mono ?_
          rintro e w4 ⟨rfl, hF4, hb4⟩
          have HS := Lib.hid (str_c w1.heap.size w1.heap.size (Fn.body f) w4 hF4 hne)
          have hbq4 := hbq.trans hb4
          rw [ho2] at HS ⊢
          have HC : Hid (∀ W, Calls Tryd.prog 19 #[.string o2] W fun e w' => e = .returned (.int .i64 ((Fn.chk (Fn.body f) : Nat) : Int)) ∧ W = w') := Lib.hid (fun W => by
            have := fcheck_c o2 W (by unfold maxLen; omega)
            rwa [show Fn.chk o2.data.toList = Fn.chk (Fn.body f) by rw [Hbody.out]] at this)
          obtain ⟨K, hK⟩ : ∃ K, Fn.chk (Fn.body f) = K := ⟨_, rfl⟩
          have hKz : K < 65521 := by rw [← hK]; exact Fn.chkTo_lt _ _
          have HK := Lib.hid hK
          rw [hK] at HC
          clear hK ho2 hne hF4 hb4 hbdq
          go_wp2_with fail
          refine HS.out.mono ?_
          rintro e w5 ⟨rfl, _, hb5⟩
          have hbq5 := hbq4.trans hb5
          go_wp2_with fail
          refine (HC.out _).mono ?_
          rintro e w6 ⟨rfl, rfl⟩
          have hKin : ∀ x ∈ [(K : Int)], 0 ≤ x ∧ x ≤ 1000000000000 := by intro x hx; simp at hx; omega
          have hbq6 := hbq5.alloc hbq5.size (.cells #[.int .i64 (K : Int)] 3)
          have HE := Lib.hid (fline_c Fn.wEnd (some ⟨w5.heap.size, 0, none⟩) 1 1 [(K : Int)] (w5.alloc (.cells #[.int .i64 (K : Int)] 3)) (by decide) (by omega) (IR.new [(K : Int)] 1 rfl rfl (by decide)) hKin (HTab.out.below hbq6))
          have hl3 := Fn.lineL_len (p := Fn.wEnd) hKin
          rw [show ([(K : Int)]).length = 1 from rfl, show Fn.wEnd.length = 3 from rfl] at hl3
          clear hKin HS HC hb5
          go_wp2_with fail
          refine HE.out.mono ?_
          rintro e w6 ⟨rfl, hb6⟩
          obtain ⟨s6, hs6⟩ : ∃ s6, baOf (Fn.lineL Fn.wEnd [(K : Int)]) = s6 := ⟨_, rfl⟩
          have hs6z : s6.size ≤ 200 := by rw [← hs6, Fn.ba_size]; omega
          have hb6' := below_step hb1' (below_step hbq6 hb6)
          have Hfin : Hid (o2 ++ s6 = baOf (Fn.fmtL f)) := Lib.hid (by
            rw [← hs6]
            unfold Fn.fmtL
            rw [HK.out, Fn.join_end]
            refine Fn.ba_ext ?_
            rw [ByteArray.data_append, Array.toList_append, Hbody.out]
            rfl)
          rw [hs6]
          clear hs6 HE hb6
          go_wp2_with fail
          go_ret2
          exact fformatR_ok Hz.out Hfin.out hb6'
end Go.Proofs.YtiegpkbollihgaaDoor
