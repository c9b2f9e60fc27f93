/- The walk of 'LayoutParses'. -/
import Derived.Test.YtmjdjcpmkdninaaDoorLyT5
import Derived.Test.YtmjdjcpmkdninaaDoorLyG1
import Derived.Test.YtmjdjcpmkdninaaDoorGenSpoil
import Derived.Test.YtmjdjcpmkdninaaDoorLyY
namespace Go.Proofs.YtmjdjcpmkdninaaDoor
open Go.RowKit
set_option maxRecDepth 100000 in
set_option maxHeartbeats 4000000 in
theorem lreads_c (s : ByteArray) (mx : Int) (w : World) (hs : s.size ≤ maxLen) (hm : w.cell? ⟨1, 0, none⟩ = some (.int .i64 mx)) :
    Calls Tryd.prog 22 #[.string s] w fun e w' => e = .returned (.bool true) ∧ Below w.heap.size w w' := by
  have H2 := Lib.hid (fun w' => rlparse_c s w' hs)
  have H1 := Lib.hid (lparse_c s mx w hs hm)
  clear hs hm
  go_enter Tryd.func22, Tryd.ntmps22
  go_wp2_with fail
  refine H1.out.mono ?_
  rintro e w4 ⟨A4, n4, c4, rfl, hR4, hn4, _, hb4⟩
  obtain ⟨pl, pi, pe, hpp⟩ : ∃ pl pi pe, Ly.parse s = (pl, pi, pe) := ⟨_, _, _, rfl⟩
  rw [hpp] at hR4 ⊢
  have Hpp := Lib.hid hpp
  clear hpp H1
  go_wp2_with fail
  refine (H2.out w4).mono ?_
  rintro e w5 ⟨A5, n5, c5, rfl, hR5, _, _, hb5⟩
  rw [Hpp.out] at hR5 ⊢
  have hR4' := hR4.below hb5
  have hb5' := below_step hb4 hb5
  clear hR4 hb5 hb4 H2
  go_wp2_with fail
  refine (elems_c A4 A5 n4 n5 c4 c5 pl w5 (by unfold maxLen; omega) hR4' hR5).mono ?_
  rintro e w6 ⟨rfl, hb6⟩
  have hb6' := below_step hb5' hb6
  clear hR4' hR5 hb5' hb6
  go_wp2_with fail
  go_ret
  exact ⟨rfl, hb6'⟩
end Go.Proofs.YtmjdjcpmkdninaaDoor
namespace Go.Proofs.YtmjdjcpmkdninaaDoor
open Go.RowKit
theorem ten_cell {W : World} {b : Nat} {e : TypeId} (h : Blk W b e #[.string ⟨#[32]⟩, .string ⟨#[10]⟩, .string ⟨#[35]⟩, .string ⟨#[58, 108, 101, 102, 116]⟩, .string ⟨#[32, 48]⟩, .string ⟨#[45]⟩, .string ⟨#[116, 114, 97, 99, 107, 32]⟩, .string ⟨#[10, 10, 35, 32, 120, 10]⟩, .string ⟨#[115, 119, 105, 116, 99, 104, 32, 97, 32, 98, 32, 49, 32, 50, 32, 51, 10]⟩, .string ⟨#[49, 48, 48, 48, 48, 48, 48, 48, 48, 49]⟩]) {y : Nat} (hy : y < 10) : ∃ q : ByteArray, q.size ≤ 17 ∧ W.cell? ⟨b, y, none⟩ = some (.string q) := by
  have hh : y = 0 ∨ y = 1 ∨ y = 2 ∨ y = 3 ∨ y = 4 ∨ y = 5 ∨ y = 6 ∨ y = 7 ∨ y = 8 ∨ y = 9 := by omega
  rcases hh with rfl | rfl | rfl | rfl | rfl | rfl | rfl | rfl | rfl | rfl
  · exact ⟨_, by decide, h.cell 0⟩
  · exact ⟨_, by decide, h.cell 1⟩
  · exact ⟨_, by decide, h.cell 2⟩
  · exact ⟨_, by decide, h.cell 3⟩
  · exact ⟨_, by decide, h.cell 4⟩
  · exact ⟨_, by decide, h.cell 5⟩
  · exact ⟨_, by decide, h.cell 6⟩
  · exact ⟨_, by decide, h.cell 7⟩
  · exact ⟨_, by decide, h.cell 8⟩
  · exact ⟨_, by decide, h.cell 9⟩
def LpO (w : World) (vi : Value) (wr : World) : Prop := ∃ i c : Nat, i ≤ 6 ∧ vi = .int .i64 (i : Int) ∧ c ≤ 1000 + 10 * i ∧ Mk w.heap.size wr w.heap.size c ∧ Below w.heap.size w wr
set_option linter.unusedVariables false in
set_option maxRecDepth 100000 in
set_option maxHeartbeats 16000000 in
theorem walk_LayoutParses (a0 : Option Addr) (len0 cap0 : Nat) (z0 : List Int) (a1 : ByteArray) (mx : Int) (w : World) (w0 : IsRow .i64 w a0 len0 cap0 z0) (w1 : a1.size ≤ maxLen) (hmx : w.cell? ⟨1, 0, none⟩ = some (.int .i64 mx)) (ht : Tab10 w) :
    Calls Tryd.prog 6 #[.slice a0 len0 cap0, .string a1] w fun e w' => e = .returned (.bool true) ∧ Below w.heap.size w w' := by
  obtain ⟨r0, m0, _⟩ := w0.reads
  have hmax := w1
  unfold maxLen at hmax
  clear w0 w1
  generalize z0.take len0 = l0 at r0
  go_enter Tryd.func6, Tryd.ntmps6
  go_wp2_with fail
  refine (new_c _ _ _ _ _ m0 r0).mono ?_
  rintro e w1 ⟨rfl, hm1, hb1, hz1⟩
  clear r0 m0
  go_wp2_with fail
  refine (lmade_c w.heap.size w.heap.size 0 4 w1 hm1 (by omega) (by omega) hb1.size).mono ?_
  rintro e w2 ⟨A, n, cp, l, c2, rfl, _, hR, hn1, _, _, Hok, HL, hc2, hm2, hg2⟩
  have hb2 := hb1.trans (grown_below hg2 hb1.size (Nat.le_refl _))
  have hll := hR.len
  have HF := Lib.hid (rlformat_c A n cp l w2 (by unfold maxLen; omega) hR (leOk_size HL.out))
  have Hlen := Lib.hid (Ly.fmtL_len (Ly.vErr_zero Hok.out).2.2.1)
  clear hm1 hb1 hz1 hg2 hR
  go_wp2_with fail
  refine HF.out.mono ?_
  rintro e w3 ⟨rfl, hb3⟩
  have hb3' := below_step hb2 hb3
  have hm3 := hm2.below hb3
  obtain ⟨s, hs⟩ : ∃ s, baOf (Ly.fmt l).1 = s := ⟨_, rfl⟩
  have hs2 : s.size ≤ 3584 := by rw [← hs, Ly.fmt_ok Hok.out, Ly.baOf_size]; have := Hlen.out; simp only; omega
  rw [hs]
  clear hs hb2 hb3 hm2 HF
  go_wp2_with fail
  refine (lreads_c s mx w3 (by unfold maxLen; omega) (keep_cell hb3' hmx)).mono ?_
  rintro e w4 ⟨rfl, hb4⟩
  have hb4' := below_step hb3' hb4
  have hm4 := hm3.below hb4
  clear hb3' hm3 hb4
  go_wp2_with fail
  go_loopw [8] (fun vi wr => LpO w vi wr) (fun vi _ => 6 - (intOf vi).toNat)
  case atStart => exact (show LpO _ _ _ from ⟨0, c2, by omega, rfl, by omega, hm4, hb4'⟩)
  case round =>
    obtain ⟨i, c, hi6, rfl, hc, hmk, hbr⟩ := hrel
    clear hm4 hb4'
    by_cases hlt : i < 6
    case neg =>
      obtain rfl : i = 6 := by omega
      have hpre : (⟨#[99, 114, 101, 115, 116, 32, 99, 10]⟩ : ByteArray).size = 8 := rfl
      by_cases hbig : 400 < a1.size
      · have d1 : decide ((400 : Int) < (a1.size : Int)) = true := decide_eq_true (by omega)
        have d1' : decide (400 < a1.size) = true := decide_eq_true hbig
        go_wp2_with fail
        go_ret
        exact ⟨rfl, hbr⟩
      · have d1 : decide ((400 : Int) < (a1.size : Int)) = false := decide_eq_false (by omega)
        have d1' : decide (400 < a1.size) = false := decide_eq_false hbig
        go_wp2_with fail
        refine (lreads_c a1 mx _ (by unfold maxLen; omega) (keep_cell hbr hmx)).mono ?_
        rintro e w5 ⟨rfl, hb5⟩
        have hb5' := below_step hbr hb5
        go_wp2_with fail
        refine (lreads_c _ mx _ (by unfold maxLen; simp; omega) (keep_cell hb5' hmx)).mono ?_
        rintro e w6 ⟨rfl, hb6⟩
        have hb6' := below_step hb5' hb6
        go_wp2_with fail
        refine (lsane_c mx _ (keep_cell hb6' hmx) (ht.below hb6')).mono ?_
        rintro e w7 ⟨rfl, hb7⟩
        go_wp2_with fail
        go_ret
        exact ⟨rfl, below_step hb6' hb7⟩
    case pos =>
      have hlti : (i : Int) < 6 := by omega
      go_wp2_with fail
      refine (spoil_c w.heap.size w.heap.size c s _ hmk (by omega) (by omega)).mono ?_
      rintro e wq ⟨x, c', rfl, hxs, hcc, hmq, hgq⟩
      have hbq := hbr.trans (grown_below hgq hbr.size (Nat.le_refl _))
      clear hmk hbr hgq
      by_cases hi2 : 2 < i
      case neg =>
        have d2 : decide ((2 : Int) < (i : Int)) = false := decide_eq_false (by omega)
        have d2' : decide (2 < i) = false := decide_eq_false hi2
        go_wp2_with fail
        refine (lreads_c x mx wq (by unfold maxLen; omega) (keep_cell hbq hmx)).mono ?_
        rintro e w5 ⟨rfl, hb5⟩
        go_wp2_with fail
        go_roundw
        case rel => exact (show LpO _ _ _ from ⟨i + 1, c', by omega, by go_num, by omega, hmq.below hb5, below_step hbq hb5⟩)
        case measure => simp [intOf]; omega
      case pos =>
        have d2 : decide ((2 : Int) < (i : Int)) = true := decide_eq_true (by omega)
        have d2' : decide (2 < i) = true := decide_eq_true hi2
        go_wp2_with fail
        refine (next_c w.heap.size w.heap.size c' ((s.size : Int) + 1) _ hmq (by omega) (by omega) (by omega)).mono ?_
        rintro e wn ⟨q, hq0, hq1, rfl, hmn, hgn⟩
        obtain ⟨j, rfl⟩ := Int.eq_ofNat_of_zero_le hq0
        have hbn := hbq.trans (grown_below hgn hbq.size (Nat.le_refl _))
        clear hmq hbq hgn
        have hjs : (j : Int) ≤ (s.size : Int) := by omega
        go_wp2_with fail
        obtain ⟨p1, hp1⟩ : ∃ p1, s.extract 0 j = p1 := ⟨_, rfl⟩
        obtain ⟨p2, hp2⟩ : ∃ p2, s.extract j s.size = p2 := ⟨_, rfl⟩
        have hz1 : p1.size ≤ 3584 := by rw [← hp1]; simp; omega
        have hz2 : p2.size ≤ 3584 := by rw [← hp2]; simp; omega
        have hmd : Mk w.heap.size wn.drew w.heap.size (c' + 1) := ⟨hmn.ge, hmn.blk⟩
        have hmd2 : Mk w.heap.size (wn.alloc (.cells #[.string ⟨#[32]⟩, .string ⟨#[10]⟩, .string ⟨#[35]⟩, .string ⟨#[58, 108, 101, 102, 116]⟩, .string ⟨#[32, 48]⟩, .string ⟨#[45]⟩, .string ⟨#[116, 114, 97, 99, 107, 32]⟩, .string ⟨#[10, 10, 35, 32, 120, 10]⟩, .string ⟨#[115, 119, 105, 116, 99, 104, 32, 97, 32, 98, 32, 49, 32, 50, 32, 51, 10]⟩, .string ⟨#[49, 48, 48, 48, 48, 48, 48, 48, 48, 49]⟩] 9)).drew w.heap.size (c' + 1) := by
          have hma := hmn.alloc (.cells #[.string ⟨#[32]⟩, .string ⟨#[10]⟩, .string ⟨#[35]⟩, .string ⟨#[58, 108, 101, 102, 116]⟩, .string ⟨#[32, 48]⟩, .string ⟨#[45]⟩, .string ⟨#[116, 114, 97, 99, 107, 32]⟩, .string ⟨#[10, 10, 35, 32, 120, 10]⟩, .string ⟨#[115, 119, 105, 116, 99, 104, 32, 97, 32, 98, 32, 49, 32, 50, 32, 51, 10]⟩, .string ⟨#[49, 48, 48, 48, 48, 48, 48, 48, 48, 49]⟩] 9)
          exact ⟨hma.ge, hma.blk⟩
        have hBd : Blk (wn.alloc (.cells #[.string ⟨#[32]⟩, .string ⟨#[10]⟩, .string ⟨#[35]⟩, .string ⟨#[58, 108, 101, 102, 116]⟩, .string ⟨#[32, 48]⟩, .string ⟨#[45]⟩, .string ⟨#[116, 114, 97, 99, 107, 32]⟩, .string ⟨#[10, 10, 35, 32, 120, 10]⟩, .string ⟨#[115, 119, 105, 116, 99, 104, 32, 97, 32, 98, 32, 49, 32, 50, 32, 51, 10]⟩, .string ⟨#[49, 48, 48, 48, 48, 48, 48, 48, 48, 49]⟩] 9)).drew wn.heap.size 9 #[.string ⟨#[32]⟩, .string ⟨#[10]⟩, .string ⟨#[35]⟩, .string ⟨#[58, 108, 101, 102, 116]⟩, .string ⟨#[32, 48]⟩, .string ⟨#[45]⟩, .string ⟨#[116, 114, 97, 99, 107, 32]⟩, .string ⟨#[10, 10, 35, 32, 120, 10]⟩, .string ⟨#[115, 119, 105, 116, 99, 104, 32, 97, 32, 98, 32, 49, 32, 50, 32, 51, 10]⟩, .string ⟨#[49, 48, 48, 48, 48, 48, 48, 48, 48, 49]⟩] := Blk.new wn _ _
        have hwl : w.heap.size ≠ wn.heap.size := by have := hmn.lt; omega
        go_region_with (go_at_call 24
                        with_reducible refine (next_c w.heap.size w.heap.size (c' + 1) 10 _ (by first | exact hmd | exact hmd2) (by omega) (by omega) (by omega)).mono ?_
                        rintro e w3 ⟨y, hy0, hy1, rfl, hm3, hg3⟩
                        obtain ⟨t, rfl⟩ := Int.eq_ofNat_of_zero_le hy0
                        first
                        | have hqq := ten_cell (hBd.grown hg3 (fun e => hwl (Option.some.inj e).symm)) (y := t) (by omega)
                        | have hqq := ten_cell (Blk.new w3 9 #[.string ⟨#[32]⟩, .string ⟨#[10]⟩, .string ⟨#[35]⟩, .string ⟨#[58, 108, 101, 102, 116]⟩, .string ⟨#[32, 48]⟩, .string ⟨#[45]⟩, .string ⟨#[116, 114, 97, 99, 107, 32]⟩, .string ⟨#[10, 10, 35, 32, 120, 10]⟩, .string ⟨#[115, 119, 105, 116, 99, 104, 32, 97, 32, 98, 32, 49, 32, 50, 32, 51, 10]⟩, .string ⟨#[49, 48, 48, 48, 48, 48, 48, 48, 48, 49]⟩]) (y := t) (by omega)
                        obtain ⟨q, hqz, hq⟩ := hqq)
        all_goals
          have hyz : (p1 ++ q ++ p2).size ≤ 10000 := by simp; omega
          first
          | have hbA := (hbn.alloc hbn.size (.cells #[.string ⟨#[32]⟩, .string ⟨#[10]⟩, .string ⟨#[35]⟩, .string ⟨#[58, 108, 101, 102, 116]⟩, .string ⟨#[32, 48]⟩, .string ⟨#[45]⟩, .string ⟨#[116, 114, 97, 99, 107, 32]⟩, .string ⟨#[10, 10, 35, 32, 120, 10]⟩, .string ⟨#[115, 119, 105, 116, 99, 104, 32, 97, 32, 98, 32, 49, 32, 50, 32, 51, 10]⟩, .string ⟨#[49, 48, 48, 48, 48, 48, 48, 48, 48, 49]⟩] 9)).trans (grown_below (grown_drew' hg3) (by simp; have := hbn.size; omega) (Nat.le_refl _))
          | have hbA := (hbn.trans (grown_below (grown_drew' hg3) hbn.size (Nat.le_refl _))).alloc (by have := hm3.lt; omega) (.cells #[.string ⟨#[32]⟩, .string ⟨#[10]⟩, .string ⟨#[35]⟩, .string ⟨#[58, 108, 101, 102, 116]⟩, .string ⟨#[32, 48]⟩, .string ⟨#[45]⟩, .string ⟨#[116, 114, 97, 99, 107, 32]⟩, .string ⟨#[10, 10, 35, 32, 120, 10]⟩, .string ⟨#[115, 119, 105, 116, 99, 104, 32, 97, 32, 98, 32, 49, 32, 50, 32, 51, 10]⟩, .string ⟨#[49, 48, 48, 48, 48, 48, 48, 48, 48, 49]⟩] 9)
          go_wp2_with fail
          refine (lreads_c (p1 ++ q ++ p2) mx _ (by unfold maxLen; omega) (keep_cell hbA hmx)).mono ?_
          rintro e w5 ⟨rfl, hb5⟩
          go_wp2_with fail
          go_roundw
          case rel => exact (show LpO _ _ _ from ⟨i + 1, c' + 1 + 1, by omega, by go_num, by omega, by first | exact hm3.below hb5 | exact (hm3.alloc _).below hb5, below_step hbA hb5⟩)
          case measure => simp [intOf]; omega
end Go.Proofs.YtmjdjcpmkdninaaDoor
