/- The walk of the reference's Format of a sheet. -/
import Derived.Test.YtiegpkbollihgaaDoorFnFmt
import Derived.BigQuiet
import Derived.Test.YtiegpkbollihgaaDoorReg3
import Derived.StillTailTactics
namespace Go.Proofs.YtiegpkbollihgaaDoor
open Go.RowKit
theorem below_todrew {B : Nat} {a w : World} (h : Below B a w) : Below B a w.drew := ⟨h.os, h.tape, h.output, h.size, h.block⟩
def fcS : List (Nat × Nat) := [(79, 2), (81, 4), (82, 5), (83, 6), (85, 8), (87, 10), (88, 11), (89, 12), (91, 14), (93, 16), (94, 17), (95, 18), (96, 19), (97, 20), (98, 21), (5, 22)]
def fcPure : List Nat := [0, 1, 3, 7, 9, 13, 15]
def fcF (k : Nat) : Nat := match k with
  | 2 => 79
  | 4 => 81
  | 5 => 82
  | 6 => 83
  | 8 => 85
  | 10 => 87
  | 11 => 88
  | 12 => 89
  | 14 => 91
  | 16 => 93
  | 17 => 94
  | 18 => 95
  | 19 => 96
  | 20 => 97
  | 21 => 98
  | 22 => 5
  | _ => 0
def fcT (x : SO) (ad2 : Addr) (m d j : Nat) (s5 s6 : ByteArray) (k : Nat) (v : Value) (W : World) : Prop := match k with
  | 2 => v = .slice (some ad2) m d
  | 4 => v = .pointer (some (ad2.add (j * 3)))
  | 5 => v = .pointer (some (ad2.add (j * 3)))
  | 6 => v = .int .i64 x.st
  | 8 => v = .slice (some ad2) m d
  | 10 => v = .pointer (some (ad2.add (j * 3)))
  | 11 => v = .pointer (some ⟨(ad2.add (j * 3)).block, (ad2.add (j * 3)).off + 1, none⟩)
  | 12 => v = .int .i64 x.wg
  | 14 => v = .slice (some ad2) m d
  | 16 => v = .pointer (some (ad2.add (j * 3)))
  | 17 => v = .pointer (some ⟨(ad2.add (j * 3)).block, (ad2.add (j * 3)).off + 2, none⟩)
  | 18 => v = .int .i64 x.gr
  | 19 => ∃ g, v = .slice (some ⟨g, 0, none⟩) 3 3 ∧ IR .i64 W (some ⟨g, 0, none⟩) 3 [x.st, x.wg, x.gr]
  | 20 => v = .string s5
  | 21 => v = .string s6
  | 22 => v = .string s6
  | _ => True
theorem fcT_below (x : SO) (ad2 : Addr) (m d j : Nat) (s5 s6 : ByteArray) {W W' : World} (hb : Below W.heap.size W W') (k : Nat) (v : Value) (h : fcT x ad2 m d j s5 s6 k v W) : fcT x ad2 m d j s5 s6 k v W' := by
  unfold fcT at h ⊢
  split at h
  · exact h
  · exact h
  · exact h
  · exact h
  · exact h
  · exact h
  · exact h
  · exact h
  · exact h
  · exact h
  · exact h
  · exact h
  · obtain ⟨g, h1, h2⟩ := h
    exact ⟨g, h1, h2.below hb⟩
  · exact h
  · exact h
  · exact h
  · trivial
theorem fcPureT (x : SO) (ad2 : Addr) (m d j : Nat) (s5 s6 : ByteArray) : ∀ k, k ∈ fcPure → ∀ v W, fcT x ad2 m d j s5 s6 k v W := by
  intro k hk v W
  simp only [fcPure, List.mem_cons, List.not_mem_nil, or_false] at hk
  rcases hk with rfl | rfl | rfl | rfl | rfl | rfl | rfl <;> exact trivial
/-- The text so far, and a counter. -/
def RfW (f : FN) (n base : Nat) (w1 : World) (vo vi : Value) (wr : World) : Prop := ∃ t : Nat, t ≤ n ∧ vi = .int .i64 (t : Int) ∧ vo = .string (baOf (Fn.pre f (base + t))) ∧ Below w1.heap.size w1 wr
set_option maxRecDepth 100000 in
set_option maxHeartbeats 8000000 in
theorem rformat38_c (A : Option Addr) (n c : Nat) (B : Option Addr) (m d : Nat) (f : FN) (b0 b1 b2 b3 b4 b5 b6 : Int) (w : World) (hb : f.bk = [b0, b1, b2, b3, b4, b5, b6]) (h : FR w A n B m f) :
    Calls Tryd.prog 14 #[fnV A n c B m d f.nm b0 b1 b2 b3 b4 b5 b6] w (FFormatR f w) := by
  have hbw : Below w.heap.size w (w.alloc (.cells #[.string f.nm, .slice A n c, .int .i64 b0, .int .i64 b1, .int .i64 b2, .int .i64 b3, .int .i64 b4, .int .i64 b5, .int .i64 b6, .slice B m d] 28)) := (Below.refl _ _).alloc (Nat.le_refl _) _
  have hX := Blk.new w 28 #[.string f.nm, .slice A n c, .int .i64 b0, .int .i64 b1, .int .i64 b2, .int .i64 b3, .int .i64 b4, .int .i64 b5, .int .i64 b6, .slice B m d]
  have HV := Lib.hid (rfvalid_c A n c B m d f b0 b1 b2 b3 b4 b5 b6 _ hb (h.below hbw))
  obtain ⟨W1, hW1⟩ : ∃ W1, w.alloc (.cells #[.string f.nm, .slice A n c, .int .i64 b0, .int .i64 b1, .int .i64 b2, .int .i64 b3, .int .i64 b4, .int .i64 b5, .int .i64 b6, .slice B m d] 28) = W1 := ⟨_, rfl⟩
  have hW1s : W1.heap.size = w.heap.size + 1 := by rw [← hW1]; simp
  rw [hW1] at hX hbw HV
  unfold fnV at HV
  have H := Lib.hid h
  have Hbk := Lib.hid hb
  have Hnl := Lib.hid h.ws.len
  have Hml := Lib.hid h.so.len
  clear h hb
  have x0 : W1.cell? ⟨w.heap.size, 0, none⟩ = some (.string f.nm) := hX.cell 0
  have x1 : W1.cell? ⟨w.heap.size, 1, none⟩ = some (.slice A n c) := hX.cell 1
  have x2 : W1.cell? ⟨w.heap.size, 2, none⟩ = some (.int .i64 b0) := hX.cell 2
  have x3 : W1.cell? ⟨w.heap.size, 3, none⟩ = some (.int .i64 b1) := hX.cell 3
  have x4 : W1.cell? ⟨w.heap.size, 4, none⟩ = some (.int .i64 b2) := hX.cell 4
  have x5 : W1.cell? ⟨w.heap.size, 5, none⟩ = some (.int .i64 b3) := hX.cell 5
  have x6 : W1.cell? ⟨w.heap.size, 6, none⟩ = some (.int .i64 b4) := hX.cell 6
  have x7 : W1.cell? ⟨w.heap.size, 7, none⟩ = some (.int .i64 b5) := hX.cell 7
  have x8 : W1.cell? ⟨w.heap.size, 8, none⟩ = some (.int .i64 b6) := hX.cell 8
  have x9 : W1.cell? ⟨w.heap.size, 9, none⟩ = some (.slice B m d) := hX.cell 9
  go_enter Tryd.func14, Tryd.ntmps14
  unfold fnV
  go_wp2_with fail
  refine HV.out.mono ?_
  rintro e w1 ⟨rfl, hb1⟩
  have hb1' := hbw.trans (hb1.mono (by omega))
  have hX1 := hX.below hb1 hX.lt
  have hsz1 : w.heap.size + 1 ≤ w1.heap.size := by have := hb1.size; omega
  clear HV x0 x1 x2 x3 x4 x5 x6 x7 x8 x9 hX hb1
  by_cases h0 : Fn.fErr f = 0
  case neg =>
    have d0 : (Fn.fErr f != 0) = true := by simp [h0]
    have Hz := Lib.hid h0
    clear h0
    go_wp2_with fail
    go_ret2
    exact fformatR_bad Hz.out hb1'
  case pos =>
  have d0 : (Fn.fErr f != 0) = false := by simp [h0]
  have Hz := Lib.hid h0
  obtain ⟨hz1, hz2, hz3, hz4, hz5⟩ := Fn.fErr_zero h0
  have hnm := Fn.nm_size hz1
  have hn96 : n ≤ 96 := by have := Hnl.out; omega
  have hm16 : m ≤ 16 := by have := Hml.out; omega
  have H3 := Lib.hid hz3
  have Hlen := Lib.hid (Fn.pre_len h0 (by rw [Hbk.out]; rfl))
  have HR := Lib.hid (H.out.below hb1')
  clear h0 hz1 hz2 hz3 hz4 hz5 H
  have x0 : w1.cell? ⟨w.heap.size, 0, none⟩ = some (.string f.nm) := hX1.cell 0
  have x1 : w1.cell? ⟨w.heap.size, 1, none⟩ = some (.slice A n c) := hX1.cell 1
  have hl6 : (⟨#[116, 114, 97, 105, 110, 32]⟩ : ByteArray).size = 6 := rfl
  have hl1 : (⟨#[10]⟩ : ByteArray).size = 1 := rfl
  obtain ⟨o1, ho1⟩ : ∃ o1, (⟨#[116, 114, 97, 105, 110, 32]⟩ : ByteArray) ++ f.nm ++ ⟨#[10]⟩ = o1 := ⟨_, rfl⟩
  have Ho1 : Hid (o1 = baOf (Fn.pre f 1)) := Lib.hid (by
    rw [← ho1]
    refine Fn.ba_ext ?_
    rw [show Fn.pre f 1 = Fn.pre f (0 + 1) from rfl, Fn.pre_step (Fn.at_train f), Fn.join_train]
    simp [baOf, Fn.pre, Fn.ended, Fn.wTrain])
  go_wp2_with fail
  go_loopw [5, 6] (fun vo vi wr => RfW f n 1 w1 vo vi wr) (fun _ vi _ => n - (intOf vi).toNat)
  case atStart => exact (show RfW _ _ _ _ _ _ _ from ⟨0, by omega, rfl, by rw [Ho1.out], Below.refl _ _⟩)
  case round =>
    obtain ⟨t, htn, rfl, rfl, hbr⟩ := hrel
    clear ho1 Ho1
    have x1' := keep_cell hbr x1
    obtain ⟨o, ho⟩ : ∃ o, baOf (Fn.pre f (1 + t)) = o := ⟨_, rfl⟩
    have hoz : o.size ≤ 9000 := by rw [← ho, Fn.ba_size]; exact Hlen.out _
    have Ho := Lib.hid ho
    rw [ho]
    clear ho
    by_cases hlt : t < n
    · have hti : (t : Int) < (n : Int) := by omega
      obtain ⟨ad, x, rfl, _, hp, c0, c1, c2, c3, c4, c5, c6, c7⟩ := (HR.out.ws.below hbr).at_ hlt
      have hx := H3.out x (List.mem_of_getElem? hp)
      have hnu := Fn.nu_size hx
      have hde := Fn.de_size hx
      have Hin := Lib.hid (Fn.wag_in hx)
      have Hst := Lib.hid (Fn.pre_step (Fn.at_wagon hp))
      clear hp hx
      have hX2 := Blk.new wr 34 #[.string x.nu, .int .i64 x.len, .int .i64 x.ax, .int .i64 x.ms, .int .i64 x.br, .int .i64 x.gd, .bool x.gt, .string x.de]
      have hbx := hbr.alloc hbr.size (.cells #[.string x.nu, .int .i64 x.len, .int .i64 x.ax, .int .i64 x.ms, .int .i64 x.br, .int .i64 x.gd, .bool x.gt, .string x.de] 34)
      obtain ⟨s1, hs1⟩ : ∃ s1, (⟨#[119, 97, 103, 111, 110, 32]⟩ : ByteArray) ++ x.nu = s1 := ⟨_, rfl⟩
      have Hs1 : Hid (s1 = baOf (Fn.wWagon ++ 32 :: x.nu.data.toList)) := Lib.hid (by rw [← hs1]; exact Fn.ba_ext (by simp [baOf, Fn.wWagon]))
      have hl6w : (⟨#[119, 97, 103, 111, 110, 32]⟩ : ByteArray).size = 6 := rfl
      go_upto_if 33 with fail
      go_cut [8] from 20 to 63 (fun a W => a = .string (baOf (Fn.gtW x.gt)) ∧ W = wr.alloc (.cells #[.string x.nu, .int .i64 x.len, .int .i64 x.ax, .int .i64 x.ms, .int .i64 x.br, .int .i64 x.gd, .bool x.gt, .string x.de] 34))
      case first =>
        cases hg : x.gt with
        | false =>
          go_wp2_with fail
          go_meet
          exact ⟨by rw [hg]; rfl, by rw [hg]⟩
        | true =>
          go_wp2_with fail
          go_meet
          exact ⟨by rw [hg]; rfl, by rw [hg]⟩
      case rest =>
        obtain ⟨rfl, hwc⟩ := hcut
        have hX3 : Blk wc wr.heap.size 34 #[.string x.nu, .int .i64 x.len, .int .i64 x.ax, .int .i64 x.ms, .int .i64 x.br, .int .i64 x.gd, .bool x.gt, .string x.de] := by rw [hwc]; exact hX2
        have hbc : Below w1.heap.size w1 wc := by rw [hwc]; exact hbx
        have y0 : wc.cell? ⟨wr.heap.size, 0, none⟩ = some (.string x.nu) := hX3.cell 0
        have y1 : wc.cell? ⟨wr.heap.size, 1, none⟩ = some (.int .i64 x.len) := hX3.cell 1
        have y2 : wc.cell? ⟨wr.heap.size, 2, none⟩ = some (.int .i64 x.ax) := hX3.cell 2
        have y3 : wc.cell? ⟨wr.heap.size, 3, none⟩ = some (.int .i64 x.ms) := hX3.cell 3
        have y4 : wc.cell? ⟨wr.heap.size, 4, none⟩ = some (.int .i64 x.br) := hX3.cell 4
        have y5 : wc.cell? ⟨wr.heap.size, 5, none⟩ = some (.int .i64 x.gd) := hX3.cell 5
        clear hwc hX2 hbx c0 c1 c2 c3 c4 c5 c6 c7
        have hplen : (Fn.wWagon ++ 32 :: x.nu.data.toList).length = 18 := by
          have : x.nu.data.toList.length = x.nu.size := by simp
          simp [Fn.wWagon, hnu]
        have HL := Lib.hid (rline38_c (Fn.wWagon ++ 32 :: x.nu.data.toList) (some ⟨wc.heap.size, 0, none⟩) 5 5 (Fn.wagL x) (wc.alloc (.cells #[.int .i64 x.len, .int .i64 x.ax, .int .i64 x.ms, .int .i64 x.br, .int .i64 x.gd] 3)) (by omega) (by omega) (IR.new (Fn.wagL x) 5 rfl rfl (by decide)) Hin.out)
        rw [← Hs1.out] at HL
        have hl2 := Fn.lineL_len (p := Fn.wWagon ++ 32 :: x.nu.data.toList) Hin.out
        rw [hplen, show (Fn.wagL x).length = 5 from rfl] at hl2
        go_wp2_with fail
        refine HL.out.mono ?_
        rintro e w5 ⟨rfl, hb5⟩
        obtain ⟨s2, hs2⟩ : ∃ s2, baOf (Fn.lineL (Fn.wWagon ++ 32 :: x.nu.data.toList) (Fn.wagL x)) = s2 := ⟨_, rfl⟩
        obtain ⟨K, hK⟩ : ∃ K, ((Fn.wWagon ++ 32 :: x.nu.data.toList) ++ (Fn.wagL x).flatMap Fn.sp).length = K := ⟨_, rfl⟩
        have hs2z : s2.size = K + 1 := by rw [← hs2, Fn.ba_size, ← hK]; unfold Fn.lineL; rw [List.length_append]; rfl
        have hKz : K ≤ 200 := by rw [← hs2, Fn.ba_size] at hs2z; omega
        have hKi : (s2.size : Int) - 1 = (K : Int) := by omega
        have hKs : (K : Int) ≤ (s2.size : Int) := by omega
        obtain ⟨s3, hs3⟩ : ∃ s3, s2.extract 0 K = s3 := ⟨_, rfl⟩
        have Hs3 : Hid (s3 = baOf ((Fn.wWagon ++ 32 :: x.nu.data.toList) ++ (Fn.wagL x).flatMap Fn.sp)) := Lib.hid (by
          rw [← hs3, ← hs2]
          refine Fn.ba_ext ?_
          rw [Lib.extract_data, List.drop_zero, Nat.sub_zero, ← hK]
          unfold Fn.lineL
          rw [baOf_data, List.take_left']
          · rfl
          · rfl)
        have hs3z : s3.size = K := by rw [← hs3]; simp; omega
        have hX4 := hX3.alloc (.cells #[.int .i64 x.len, .int .i64 x.ax, .int .i64 x.ms, .int .i64 x.br, .int .i64 x.gd] 3)
        have hX5 := hX4.below hb5 hX4.lt
        have y7 : w5.cell? ⟨wr.heap.size, 7, none⟩ = some (.string x.de) := hX5.cell 7
        have hb5' := below_step (hbc.alloc hbc.size (.cells #[.int .i64 x.len, .int .i64 x.ax, .int .i64 x.ms, .int .i64 x.br, .int .i64 x.gd] 3)) hb5
        obtain ⟨gw, hgw⟩ : ∃ gw, baOf (Fn.gtW x.gt) = gw := ⟨_, rfl⟩
        have hgz : gw.size ≤ 6 := by rw [← hgw, Fn.ba_size]; unfold Fn.gtW; split <;> decide
        have Hgw := Lib.hid hgw
        have e32 : (⟨#[32]⟩ : ByteArray).size = 1 := rfl
        have e10 : (⟨#[10]⟩ : ByteArray).size = 1 := rfl
        rw [hs2, hgw]
        clear hs2 hK hgw HL y0 y1 y2 y3 y4 y5 hX3 hX4 hX5 hb5 hbc
        go_wp2_with fail
        go_quiet (fail)
        go_wp2_with fail
        go_roundw
        case rel => exact (show RfW _ _ _ _ _ _ _ from ⟨t + 1, by omega, by go_num, by
          rw [show 1 + (t + 1) = 1 + t + 1 by omega, Hst.out, Fn.join_wagon, ← Ho.out, ← Hgw.out, Hs3.out]
          refine congrArg Value.string (Fn.ba_ext ?_)
          simp [baOf], below_drewN hb5' _⟩)
        case measure => simp [intOf]; omega
    · obtain rfl : t = n := by omega
      have hXr := hX1.below hbr hX1.lt
      have x2 : wr.cell? ⟨w.heap.size, 2, none⟩ = some (.int .i64 b0) := hXr.cell 2
      have x3 : wr.cell? ⟨w.heap.size, 3, none⟩ = some (.int .i64 b1) := hXr.cell 3
      have x4 : wr.cell? ⟨w.heap.size, 4, none⟩ = some (.int .i64 b2) := hXr.cell 4
      have x5 : wr.cell? ⟨w.heap.size, 5, none⟩ = some (.int .i64 b3) := hXr.cell 5
      have x6 : wr.cell? ⟨w.heap.size, 6, none⟩ = some (.int .i64 b4) := hXr.cell 6
      have x7 : wr.cell? ⟨w.heap.size, 7, none⟩ = some (.int .i64 b5) := hXr.cell 7
      have x8 : wr.cell? ⟨w.heap.size, 8, none⟩ = some (.int .i64 b6) := hXr.cell 8
      go_wp2_with fail
      refine (rnumbers_c b0 b1 b2 b3 b4 b5 b6 wr).mono ?_
      rintro e w3 ⟨v, rfl, own3, hb3⟩
      rw [← Hbk.out] at own3
      obtain ⟨Al, cl, rfl, hcl1, hcl2⟩ := own_form own3
      have hb3' := below_step hbr hb3
      have hbk7 : f.bk.length = 7 := by rw [Hbk.out]; rfl
      have HL := Lib.hid (rline38_c Fn.wBrakes Al 7 cl f.bk w3 (by decide) (by omega) (own_IR own3) (Fn.bk_in Hz.out))
      have hl2 := Fn.lineL_len (p := Fn.wBrakes) (Fn.bk_in Hz.out)
      rw [hbk7] at hl2
      clear x2 x3 x4 x5 x6 x7 x8 own3 hb3
      go_wp2_with fail
      refine HL.out.mono ?_
      rintro e w4 ⟨rfl, hb4⟩
      have hb4' := below_step hb3' hb4
      obtain ⟨s4, hs4⟩ : ∃ s4, baOf (Fn.lineL Fn.wBrakes f.bk) = s4 := ⟨_, rfl⟩
      have hs4z : s4.size ≤ 200 := by rw [← hs4, Fn.ba_size]; have : Fn.wBrakes.length = 6 := rfl; omega
      have Ho2 : Hid (o ++ s4 = baOf (Fn.pre f (2 + t))) := Lib.hid (by
        rw [show 2 + t = 1 + t + 1 by omega, Fn.pre_step (by have := Fn.at_brakes f; rw [Hnl.out] at this; exact this), Fn.join_brakes, ← Ho.out, ← hs4]
        exact Fn.ba_ext (by simp [baOf]))
      rw [hs4]
      clear hs4 HL hb4 hb3' hXr
      go_wp2_with fail
      go_loopw [5, 10] (fun vo vi wq => RfW f m (2 + t) w1 vo vi wq) (fun _ vi _ => m - (intOf vi).toNat)
      case atStart => exact (show RfW _ _ _ _ _ _ _ from ⟨0, by omega, rfl, by rw [Ho2.out]; rfl, hb4'⟩)
      case round =>
        obtain ⟨j, hjm, rfl, rfl, hbq⟩ := hrel
        clear Ho Ho2 hb4' hoz
        have hXq := hX1.below hbq hX1.lt
        have x9 : wr.cell? ⟨w.heap.size, 9, none⟩ = some (.slice B m d) := hXq.cell 9
        obtain ⟨o2, ho2⟩ : ∃ o2, baOf (Fn.pre f (2 + t + j)) = o2 := ⟨_, rfl⟩
        have hoz2 : o2.size ≤ 9000 := by rw [← ho2, Fn.ba_size]; exact Hlen.out _
        have Ho2 := Lib.hid ho2
        rw [ho2]
        clear ho2
        by_cases hlt2 : j < m
        · have hji : (j : Int) < (m : Int) := by omega
          obtain ⟨ad2, x, rfl, _, hp, c0, c1, c2⟩ := (HR.out.so.below hbq).at_ hlt2
          have Hin := Lib.hid (Fn.so_in Hz.out (List.mem_of_getElem? hp))
          have Hst := Lib.hid (Fn.pre_step (Fn.at_setout hp))
          rw [Hnl.out] at Hst
          clear hp
          have hbd := hbq.drew
          have hl3 := Fn.lineL_len (p := Fn.wSetout) Hin.out
          rw [show (Fn.soL x).length = 3 from rfl, show Fn.wSetout.length = 6 from rfl] at hl3
          go_wp2_with fail
          have HLc : Hid (∀ W g, IR .i64 W (some ⟨g, 0, none⟩) 3 [x.st, x.wg, x.gr] → Calls Tryd.prog 27 #[.string ⟨#[115, 101, 116, 111, 117, 116]⟩, .slice (some ⟨g, 0, none⟩) 3 3] W fun e w' => e = .returned (.string (baOf (Fn.lineL Fn.wSetout (Fn.soL x)))) ∧ Below W.heap.size W w') :=
            Lib.hid (fun W g hI => rline38_c Fn.wSetout (some ⟨g, 0, none⟩) 3 3 (Fn.soL x) W (by decide) (by omega) hI Hin.out)
          obtain ⟨s5, hs5⟩ : ∃ s5, baOf (Fn.lineL Fn.wSetout (Fn.soL x)) = s5 := ⟨_, rfl⟩
          have hs5z : s5.size ≤ 200 := by rw [← hs5, Fn.ba_size]; omega
          have Hs5 := Lib.hid hs5
          rw [hs5] at HLc
          obtain ⟨s6, hs6⟩ : ∃ s6, o2 ++ s5 = s6 := ⟨_, rfl⟩
          have Hs6 : Hid (baOf (Fn.pre f (2 + t + j) ++ Fn.lineL Fn.wSetout (Fn.soL x)) = s6) := Lib.hid (by
            rw [← hs6, ← Ho2.out, ← hs5]
            exact Fn.ba_ext (by simp [baOf]))
          clear hs5
          refine wp_region_any (by kernel_rfl) ?_
          change wpAny _ _ _ _ _ _ _ (World.drew _)
          refine wpAny_take (i := 0) (v := ?vfc0) rfl (by kernel_rfl) (by kernel_rfl) (by kernel_rfl) (fun _ _ _ h => h) (Or.inl ⟨by rfl, ?yfc0⟩) ?_
          case yfc0 => (intro w; go_simp; with_reducible rfl)
          refine wpAny_take (i := 1) (v := ?vfc1) rfl (by kernel_rfl) (by kernel_rfl) (by kernel_rfl) (fun _ _ _ h => h) (Or.inl ⟨by rfl, ?yfc1⟩) ?_
          case yfc1 => (intro w; go_simp; with_reducible rfl)
          refine wpAny_take (i := 3) (v := ?vfc3) rfl (by kernel_rfl) (by kernel_rfl) (by kernel_rfl) (fun _ _ _ h => h) (Or.inl ⟨by rfl, ?yfc3⟩) ?_
          case yfc3 => (intro w; go_simp; with_reducible rfl)
          refine wpAny_take (i := 7) (v := ?vfc7) rfl (by kernel_rfl) (by kernel_rfl) (by kernel_rfl) (fun _ _ _ h => h) (Or.inl ⟨by rfl, ?yfc7⟩) ?_
          case yfc7 => (intro w; go_simp; with_reducible rfl)
          refine wpAny_take (i := 9) (v := ?vfc9) rfl (by kernel_rfl) (by kernel_rfl) (by kernel_rfl) (fun _ _ _ h => h) (Or.inl ⟨by rfl, ?yfc9⟩) ?_
          case yfc9 => (intro w; go_simp; with_reducible rfl)
          refine wpAny_take (i := 13) (v := ?vfc13) rfl (by kernel_rfl) (by kernel_rfl) (by kernel_rfl) (fun _ _ _ h => h) (Or.inl ⟨by rfl, ?yfc13⟩) ?_
          case yfc13 => (intro w; go_simp; with_reducible rfl)
          refine wpAny_take (i := 15) (v := ?vfc15) rfl (by kernel_rfl) (by kernel_rfl) (by kernel_rfl) (fun _ _ _ h => h) (Or.inl ⟨by rfl, ?yfc15⟩) ?_
          case yfc15 => (intro w; go_simp; with_reducible rfl)
          refine with_act (φ := fun a => wpAny _ _ _ _ _ _ a _) ?_
          intro a0 ha0
          simp only [Act.put, List.setIfInBounds_toArray, List.set_cons_zero, List.set_cons_succ, List.getElem_toArray, List.getElem_cons_zero, List.getElem_cons_succ] at ha0
          refine wpAny_inv (by kernel_rfl) (fun L a W => RI (fun vs => putL a0 vs fcS) (fcT x ad2 m d j s5 s6) (R3 fcPure (Below wr.heap.size wr)) L a W) ?_ ?_ _ _ _ _ (by kernel_rfl) (by decide +kernel) ?_
          · rintro i L a W hi ⟨vs, rfl, hG, hT⟩
            obtain ⟨h0, hsz, hlt'⟩ := ready_at hi
            have hsz' : i < 23 := hsz
            have hnp : i ∉ fcPure := fun h => by rw [hG.pure i h] at h0; cases h0
            have hcs : i = 2 ∨ i = 4 ∨ i = 5 ∨ i = 6 ∨ i = 8 ∨ i = 10 ∨ i = 11 ∨ i = 12 ∨ i = 14 ∨ i = 16 ∨ i = 17 ∨ i = 18 ∨ i = 19 ∨ i = 20 ∨ i = 21 ∨ i = 22 := by
              simp only [fcPure, List.mem_cons, List.not_mem_nil, or_false, not_or] at hnp
              omega
            clear hnp hsz hsz' hlt'
            rcases hcs with rfl | rfl | rfl | rfl | rfl | rfl | rfl | rfl | rfl | rfl | rfl | rfl | rfl | rfl | rfl | rfl
            · have hc1 : W.cell? ⟨w.heap.size, 9, none⟩ = some (.slice (some ad2) m d) := keep_cell hG.inv x9
              obtain ⟨_, o, ho, _⟩ := mem_ready.1 hi
              have ho2 := ho
              simp only [List.getElem?_toArray, List.getElem?_cons_succ, List.getElem?_cons_zero, Option.some.injEq] at ho2
              subst ho2
              refine step_free ho ?_ ?_
              · rfl
              intro K' hK
              clear ho
              have HT := Lib.hid hT
              have HG := Lib.hid hG
              clear hT hG h0 hi
              subst ha0
              simp only [fcS, putL, Act.put, List.setIfInBounds_toArray, List.set_cons_zero, List.set_cons_succ]
              go_simp
              refine RI.next (v := .slice (some ad2) m d) hK HT (fun _ _ h => h) (HG.out.same 2 HG.out.inv) (show fcT x ad2 m d j s5 s6 2 _ _ from rfl) ?_
              simp only [fcS, putL, Act.put, List.setIfInBounds_toArray, List.set_cons_zero, List.set_cons_succ]
              rfl
            · have e2 := hT 2 (ready_dep hi rfl 2 (by kernel_rfl))
              refine step_free rfl rfl (fun K' hK => ?_)
              have HT := Lib.hid hT
              have HG := Lib.hid hG
              clear hT hG h0 hi
              subst ha0
              simp only [fcS, putL, Act.put, List.setIfInBounds_toArray, List.set_cons_zero, List.set_cons_succ, List.getElem_toArray, List.getElem_cons_zero, List.getElem_cons_succ]
              rw [e2]
              go_simp
              refine RI.next (v := .pointer (some (ad2.add (j * 3)))) hK HT (fun _ _ h => h) (HG.out.same 4 HG.out.inv) (show fcT x ad2 m d j s5 s6 4 _ _ from rfl) ?_
              simp only [fcS, putL, Act.put, List.setIfInBounds_toArray, List.set_cons_zero, List.set_cons_succ]
              rw [← e2]
              rfl
            · have e4 := hT 4 (ready_dep hi rfl 4 (by kernel_rfl))
              refine step_free rfl rfl (fun K' hK => ?_)
              have HT := Lib.hid hT
              have HG := Lib.hid hG
              clear hT hG h0 hi
              subst ha0
              simp only [fcS, putL, Act.put, List.setIfInBounds_toArray, List.set_cons_zero, List.set_cons_succ, List.getElem_toArray, List.getElem_cons_zero, List.getElem_cons_succ]
              rw [e4]
              go_simp
              refine RI.next (v := .pointer (some (ad2.add (j * 3)))) hK HT (fun _ _ h => h) (HG.out.same 5 HG.out.inv) (show fcT x ad2 m d j s5 s6 5 _ _ from rfl) ?_
              simp only [fcS, putL, Act.put, List.setIfInBounds_toArray, List.set_cons_zero, List.set_cons_succ]
              rw [← e4]
              rfl
            · have hc1 : W.cell? (ad2.add (j * 3)) = some (.int .i64 x.st) := keep_cell hG.inv c0
              have e5 := hT 5 (ready_dep hi rfl 5 (by kernel_rfl))
              obtain ⟨_, o, ho, _⟩ := mem_ready.1 hi
              have ho2 := ho
              simp only [List.getElem?_toArray, List.getElem?_cons_succ, List.getElem?_cons_zero, Option.some.injEq] at ho2
              subst ho2
              refine step_free ho ?_ ?_
              · rfl
              intro K' hK
              clear ho
              have HT := Lib.hid hT
              have HG := Lib.hid hG
              clear hT hG h0 hi
              subst ha0
              simp only [fcS, putL, Act.put, List.setIfInBounds_toArray, List.set_cons_zero, List.set_cons_succ]
              rw [e5]
              go_simp
              refine RI.next (v := .int .i64 x.st) hK HT (fun _ _ h => h) (HG.out.same 6 HG.out.inv) (show fcT x ad2 m d j s5 s6 6 _ _ from rfl) ?_
              simp only [fcS, putL, Act.put, List.setIfInBounds_toArray, List.set_cons_zero, List.set_cons_succ]
              rw [← e5]
              rfl
            · have hc1 : W.cell? ⟨w.heap.size, 9, none⟩ = some (.slice (some ad2) m d) := keep_cell hG.inv x9
              obtain ⟨_, o, ho, _⟩ := mem_ready.1 hi
              have ho2 := ho
              simp only [List.getElem?_toArray, List.getElem?_cons_succ, List.getElem?_cons_zero, Option.some.injEq] at ho2
              subst ho2
              refine step_free ho ?_ ?_
              · rfl
              intro K' hK
              clear ho
              have HT := Lib.hid hT
              have HG := Lib.hid hG
              clear hT hG h0 hi
              subst ha0
              simp only [fcS, putL, Act.put, List.setIfInBounds_toArray, List.set_cons_zero, List.set_cons_succ]
              go_simp
              refine RI.next (v := .slice (some ad2) m d) hK HT (fun _ _ h => h) (HG.out.same 8 HG.out.inv) (show fcT x ad2 m d j s5 s6 8 _ _ from rfl) ?_
              simp only [fcS, putL, Act.put, List.setIfInBounds_toArray, List.set_cons_zero, List.set_cons_succ]
              rfl
            · have e8 := hT 8 (ready_dep hi rfl 8 (by kernel_rfl))
              refine step_free rfl rfl (fun K' hK => ?_)
              have HT := Lib.hid hT
              have HG := Lib.hid hG
              clear hT hG h0 hi
              subst ha0
              simp only [fcS, putL, Act.put, List.setIfInBounds_toArray, List.set_cons_zero, List.set_cons_succ, List.getElem_toArray, List.getElem_cons_zero, List.getElem_cons_succ]
              rw [e8]
              go_simp
              refine RI.next (v := .pointer (some (ad2.add (j * 3)))) hK HT (fun _ _ h => h) (HG.out.same 10 HG.out.inv) (show fcT x ad2 m d j s5 s6 10 _ _ from rfl) ?_
              simp only [fcS, putL, Act.put, List.setIfInBounds_toArray, List.set_cons_zero, List.set_cons_succ]
              rw [← e8]
              rfl
            · have e10 := hT 10 (ready_dep hi rfl 10 (by kernel_rfl))
              refine step_free rfl rfl (fun K' hK => ?_)
              have HT := Lib.hid hT
              have HG := Lib.hid hG
              clear hT hG h0 hi
              subst ha0
              simp only [fcS, putL, Act.put, List.setIfInBounds_toArray, List.set_cons_zero, List.set_cons_succ, List.getElem_toArray, List.getElem_cons_zero, List.getElem_cons_succ]
              rw [e10]
              go_simp
              refine RI.next (v := .pointer (some ⟨(ad2.add (j * 3)).block, (ad2.add (j * 3)).off + 1, none⟩)) hK HT (fun _ _ h => h) (HG.out.same 11 HG.out.inv) (show fcT x ad2 m d j s5 s6 11 _ _ from rfl) ?_
              simp only [fcS, putL, Act.put, List.setIfInBounds_toArray, List.set_cons_zero, List.set_cons_succ]
              rw [← e10]
              rfl
            · have hc1 : W.cell? ⟨(ad2.add (j * 3)).block, (ad2.add (j * 3)).off + 1, none⟩ = some (.int .i64 x.wg) := keep_cell hG.inv c1
              have e11 := hT 11 (ready_dep hi rfl 11 (by kernel_rfl))
              obtain ⟨_, o, ho, _⟩ := mem_ready.1 hi
              have ho2 := ho
              simp only [List.getElem?_toArray, List.getElem?_cons_succ, List.getElem?_cons_zero, Option.some.injEq] at ho2
              subst ho2
              refine step_free ho ?_ ?_
              · rfl
              intro K' hK
              clear ho
              have HT := Lib.hid hT
              have HG := Lib.hid hG
              clear hT hG h0 hi
              subst ha0
              simp only [fcS, putL, Act.put, List.setIfInBounds_toArray, List.set_cons_zero, List.set_cons_succ]
              rw [e11]
              go_simp
              refine RI.next (v := .int .i64 x.wg) hK HT (fun _ _ h => h) (HG.out.same 12 HG.out.inv) (show fcT x ad2 m d j s5 s6 12 _ _ from rfl) ?_
              simp only [fcS, putL, Act.put, List.setIfInBounds_toArray, List.set_cons_zero, List.set_cons_succ]
              rw [← e11]
              rfl
            · have hc1 : W.cell? ⟨w.heap.size, 9, none⟩ = some (.slice (some ad2) m d) := keep_cell hG.inv x9
              obtain ⟨_, o, ho, _⟩ := mem_ready.1 hi
              have ho2 := ho
              simp only [List.getElem?_toArray, List.getElem?_cons_succ, List.getElem?_cons_zero, Option.some.injEq] at ho2
              subst ho2
              refine step_free ho ?_ ?_
              · rfl
              intro K' hK
              clear ho
              have HT := Lib.hid hT
              have HG := Lib.hid hG
              clear hT hG h0 hi
              subst ha0
              simp only [fcS, putL, Act.put, List.setIfInBounds_toArray, List.set_cons_zero, List.set_cons_succ]
              go_simp
              refine RI.next (v := .slice (some ad2) m d) hK HT (fun _ _ h => h) (HG.out.same 14 HG.out.inv) (show fcT x ad2 m d j s5 s6 14 _ _ from rfl) ?_
              simp only [fcS, putL, Act.put, List.setIfInBounds_toArray, List.set_cons_zero, List.set_cons_succ]
              rfl
            · have e14 := hT 14 (ready_dep hi rfl 14 (by kernel_rfl))
              refine step_free rfl rfl (fun K' hK => ?_)
              have HT := Lib.hid hT
              have HG := Lib.hid hG
              clear hT hG h0 hi
              subst ha0
              simp only [fcS, putL, Act.put, List.setIfInBounds_toArray, List.set_cons_zero, List.set_cons_succ, List.getElem_toArray, List.getElem_cons_zero, List.getElem_cons_succ]
              rw [e14]
              go_simp
              refine RI.next (v := .pointer (some (ad2.add (j * 3)))) hK HT (fun _ _ h => h) (HG.out.same 16 HG.out.inv) (show fcT x ad2 m d j s5 s6 16 _ _ from rfl) ?_
              simp only [fcS, putL, Act.put, List.setIfInBounds_toArray, List.set_cons_zero, List.set_cons_succ]
              rw [← e14]
              rfl
            · have e16 := hT 16 (ready_dep hi rfl 16 (by kernel_rfl))
              refine step_free rfl rfl (fun K' hK => ?_)
              have HT := Lib.hid hT
              have HG := Lib.hid hG
              clear hT hG h0 hi
              subst ha0
              simp only [fcS, putL, Act.put, List.setIfInBounds_toArray, List.set_cons_zero, List.set_cons_succ, List.getElem_toArray, List.getElem_cons_zero, List.getElem_cons_succ]
              rw [e16]
              go_simp
              refine RI.next (v := .pointer (some ⟨(ad2.add (j * 3)).block, (ad2.add (j * 3)).off + 2, none⟩)) hK HT (fun _ _ h => h) (HG.out.same 17 HG.out.inv) (show fcT x ad2 m d j s5 s6 17 _ _ from rfl) ?_
              simp only [fcS, putL, Act.put, List.setIfInBounds_toArray, List.set_cons_zero, List.set_cons_succ]
              rw [← e16]
              rfl
            · have hc1 : W.cell? ⟨(ad2.add (j * 3)).block, (ad2.add (j * 3)).off + 2, none⟩ = some (.int .i64 x.gr) := keep_cell hG.inv c2
              have e17 := hT 17 (ready_dep hi rfl 17 (by kernel_rfl))
              obtain ⟨_, o, ho, _⟩ := mem_ready.1 hi
              have ho2 := ho
              simp only [List.getElem?_toArray, List.getElem?_cons_succ, List.getElem?_cons_zero, Option.some.injEq] at ho2
              subst ho2
              refine step_free ho ?_ ?_
              · rfl
              intro K' hK
              clear ho
              have HT := Lib.hid hT
              have HG := Lib.hid hG
              clear hT hG h0 hi
              subst ha0
              simp only [fcS, putL, Act.put, List.setIfInBounds_toArray, List.set_cons_zero, List.set_cons_succ]
              rw [e17]
              go_simp
              refine RI.next (v := .int .i64 x.gr) hK HT (fun _ _ h => h) (HG.out.same 18 HG.out.inv) (show fcT x ad2 m d j s5 s6 18 _ _ from rfl) ?_
              simp only [fcS, putL, Act.put, List.setIfInBounds_toArray, List.set_cons_zero, List.set_cons_succ]
              rw [← e17]
              rfl
            · have e6 := hT 6 (ready_dep hi rfl 6 (by kernel_rfl))
              have e12 := hT 12 (ready_dep hi rfl 12 (by kernel_rfl))
              have e18 := hT 18 (ready_dep hi rfl 18 (by kernel_rfl))
              have HI := Lib.hid hG.inv
              refine step_free rfl rfl (fun K' hK => ?_)
              have HT := Lib.hid hT
              have HG := Lib.hid hG
              clear hT hG h0 hi
              subst ha0
              simp only [fcS, putL, Act.put, List.setIfInBounds_toArray, List.set_cons_zero, List.set_cons_succ, List.getElem_toArray, List.getElem_cons_zero, List.getElem_cons_succ]
              rw [e6, e12, e18]
              go_simp
              refine RI.next (v := .slice (some ⟨W.heap.size, 0, none⟩) 3 3) hK HT (fcT_below x ad2 m d j s5 s6 ((Below.refl _ _).alloc (Nat.le_refl _) _)) (HG.out.same 19 (HI.out.alloc HI.out.size _)) (show fcT x ad2 m d j s5 s6 19 _ _ from ⟨W.heap.size, rfl, IR.new [x.st, x.wg, x.gr] 3 rfl rfl (by decide)⟩) ?_
              simp only [fcS, putL, Act.put, List.setIfInBounds_toArray, List.set_cons_zero, List.set_cons_succ]
              rw [← e6, ← e12, ← e18]
              rfl
            · obtain ⟨g2, e19, hI2⟩ := hT 19 (ready_dep hi rfl 19 (by kernel_rfl))
              have HI := Lib.hid hG.inv
              refine step_free rfl rfl (fun K' hK => ?_)
              have HT := Lib.hid hT
              have HG := Lib.hid hG
              clear hT hG h0 hi
              subst ha0
              simp only [fcS, putL, Act.put, List.setIfInBounds_toArray, List.set_cons_zero, List.set_cons_succ, List.getElem_toArray, List.getElem_cons_zero, List.getElem_cons_succ]
              rw [e19]
              go_simp
              refine (HLc.out _ g2 hI2).mono ?_
              rintro e w2 ⟨rfl, hb2⟩
              go_simp
              refine RI.next (v := .string s5) hK HT (fcT_below x ad2 m d j s5 s6 hb2) (HG.out.same 20 (HI.out.trans (hb2.mono HI.out.size))) (show fcT x ad2 m d j s5 s6 20 _ _ from rfl) ?_
              simp only [fcS, putL, Act.put, List.setIfInBounds_toArray, List.set_cons_zero, List.set_cons_succ]
              rw [← e19]
              rfl
            · have e20 := hT 20 (ready_dep hi rfl 20 (by kernel_rfl))
              refine step_free rfl rfl (fun K' hK => ?_)
              have HT := Lib.hid hT
              have HG := Lib.hid hG
              clear hT hG h0 hi
              subst ha0
              simp only [fcS, putL, Act.put, List.setIfInBounds_toArray, List.set_cons_zero, List.set_cons_succ, List.getElem_toArray, List.getElem_cons_zero, List.getElem_cons_succ]
              rw [e20]
              go_simp
              rw [if_neg (by omega)]
              simp only [Oper.upon_value]
              refine RI.next (v := .string s6) hK HT (fun _ _ h => h) (HG.out.same 21 HG.out.inv) (show fcT x ad2 m d j s5 s6 21 _ _ from rfl) ?_
              simp only [fcS, putL, Act.put, List.setIfInBounds_toArray, List.set_cons_zero, List.set_cons_succ]
              rw [← e20]
              rfl
            · have e21 := hT 21 (ready_dep hi rfl 21 (by kernel_rfl))
              refine step_free rfl rfl (fun K' hK => ?_)
              have HT := Lib.hid hT
              have HG := Lib.hid hG
              clear hT hG h0 hi
              subst ha0
              simp only [fcS, putL, Act.put, List.setIfInBounds_toArray, List.set_cons_zero, List.set_cons_succ, List.getElem_toArray, List.getElem_cons_zero, List.getElem_cons_succ]
              rw [e21]
              go_simp
              refine RI.next (v := .string s6) hK HT (fun _ _ h => h) (HG.out.same 22 HG.out.inv) (show fcT x ad2 m d j s5 s6 22 _ _ from rfl) ?_
              simp only [fcS, putL, Act.put, List.setIfInBounds_toArray, List.set_cons_zero, List.set_cons_succ]
              rw [← e21]
              rfl
          · rintro L a W3 hall ⟨vs, rfl, hG, hT⟩
            have e22 := hT 22 (hall 22 (by decide))
            have hX3 := hG.inv
            clear hG hT hall
            subst ha0
            simp only [fcS, putL, Act.put, List.setIfInBounds_toArray, List.set_cons_zero, List.set_cons_succ]
            rw [e22]
            go_wp2_with fail
            go_roundw
            case rel => exact (show RfW _ _ _ _ _ _ _ from ⟨j + 1, by omega, by go_num, by
              rw [show 2 + t + (j + 1) = 2 + t + j + 1 by omega, Hst.out, Fn.join_setout, Hs6.out], below_step hbq hX3⟩)
            case measure => simp [intOf]; omega
          · exact RI.init3 fcPure (fun k hk v => fcPureT x ad2 m d j s5 s6 k hk v _) (fun k => a0.tmps.getD (fcF k) undef) (putL_self a0 fcF fcS (by kernel_rfl)).symm (R3.init (by kernel_rfl) (below_todrew (Below.refl _ _))) (by kernel_rfl)
        · obtain rfl : j = m := by omega
          have Hbody : Hid (o2 = baOf (Fn.body f)) := Lib.hid (by rw [← Ho2.out, Fn.pre_all (by rw [Hnl.out, Hml.out]; exact Nat.le_refl _)])
          have HC : Hid (∀ W, Calls Tryd.prog 20 #[.string o2] W fun e w' => e = .returned (.int .i64 ((Fn.chk (Fn.body f) : Nat) : Int)) ∧ W = w') := Lib.hid (fun W => by
            have := rcheck_c o2 W (by unfold maxLen; omega)
            rwa [show Fn.chk o2.data.toList = Fn.chk (Fn.body f) by rw [Hbody.out]; rfl] at this)
          obtain ⟨K, hK⟩ : ∃ K, Fn.chk (Fn.body f) = K := ⟨_, rfl⟩
          have hKz : K < 65521 := by rw [← hK]; exact Fn.chkTo_lt _ _
          have HK := Lib.hid hK
          rw [hK] at HC
          have hKin : ∀ x ∈ [(K : Int)], 0 ≤ x ∧ x ≤ 1000000000000 := by intro x hx; simp at hx; omega
          have HE := Lib.hid (rline38_c Fn.wEnd (some ⟨wr.heap.size, 0, none⟩) 1 1 [(K : Int)] (wr.alloc (.cells #[.int .i64 (K : Int)] 3)) (by decide) (by omega) (IR.new [(K : Int)] 1 rfl rfl (by decide)) hKin)
          have hl3 := Fn.lineL_len (p := Fn.wEnd) hKin
          rw [show ([(K : Int)]).length = 1 from rfl, show Fn.wEnd.length = 3 from rfl] at hl3
          clear hK hKin
          go_wp2_with fail
          refine (HC.out _).mono ?_
          rintro e w5 ⟨rfl, rfl⟩
          go_wp2_with fail
          refine HE.out.mono ?_
          rintro e w6 ⟨rfl, hb6⟩
          obtain ⟨s6, hs6⟩ : ∃ s6, baOf (Fn.lineL Fn.wEnd [(K : Int)]) = s6 := ⟨_, rfl⟩
          have hs6z : s6.size ≤ 200 := by rw [← hs6, Fn.ba_size]; omega
          have hb6' := below_step hb1' (below_step (hbq.alloc hbq.size (.cells #[.int .i64 (K : Int)] 3)) hb6)
          have Hfin : Hid (o2 ++ s6 = baOf (Fn.fmtL f)) := Lib.hid (by
            rw [Hbody.out, ← hs6]
            unfold Fn.fmtL
            rw [HK.out, Fn.join_end]
            exact Fn.ba_ext (by simp [baOf]))
          rw [hs6]
          clear hs6 HE HC hb6
          go_wp2_with fail
          go_ret2
          exact fformatR_ok Hz.out Hfin.out hb6'
end Go.Proofs.YtiegpkbollihgaaDoor
