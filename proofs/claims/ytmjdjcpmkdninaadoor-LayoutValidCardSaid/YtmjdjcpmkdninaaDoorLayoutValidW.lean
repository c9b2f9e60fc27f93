/- The walk of 'LayoutValid'. -/
import Derived.Test.YtmjdjcpmkdninaaDoorLyWr
import Derived.Test.YtmjdjcpmkdninaaDoorLayoutCountsW
namespace Go.Proofs.YtmjdjcpmkdninaaDoor
open Go.RowKit
def LvO (w : World) (vi : Value) (wr : World) : Prop := ∃ i c : Nat, i ≤ 6 ∧ vi = .int .i64 (i : Int) ∧ c ≤ 1000 * i ∧ Mk w.heap.size wr w.heap.size c ∧ Below w.heap.size w wr
set_option linter.unusedVariables false in
set_option maxRecDepth 100000 in
set_option maxHeartbeats 8000000 in
theorem walk_LayoutValid (a0 : Option Addr) (len0 cap0 : Nat) (z0 : List Int) (a1 : Option Addr) (len1 cap1 : Nat) (z1 : List LE) (mx : Int) (w : World) (w0 : IsRow .i64 w a0 len0 cap0 z0) (w1 : LR w a1 len1 z1 ∧ len1 ≤ maxLen ∧ ∀ x ∈ z1, LeWf x) (hmx : w.cell? ⟨1, 0, none⟩ = some (.int .i64 mx)) (ht : Tab10 w) :
    Calls Tryd.prog 5 #[.slice a0 len0 cap0, .slice a1 len1 cap1] w fun e w' => e = .returned (.bool true) ∧ Below w.heap.size w w' := by
  obtain ⟨r0, m0, _⟩ := w0.reads
  obtain ⟨hR1, m1, hs1⟩ := w1
  clear w0
  generalize z0.take len0 = l0 at r0
  have HR1 := Lib.hid hR1
  have HS1 := Lib.hid hs1
  clear hR1 hs1
  have m1' := m1
  unfold maxLen at m1'
  go_enter Tryd.func5, Tryd.ntmps5
  go_wp2_with fail
  refine (new_c _ _ _ _ _ m0 r0).mono ?_
  rintro e w1 ⟨rfl, hm1, hb1, hz1⟩
  clear r0 m0
  go_wp2_with fail
  go_loopw [6] (fun vi wr => LvO w vi wr) (fun vi _ => 6 - (intOf vi).toNat)
  case atStart => exact (show LvO _ _ _ from ⟨0, 0, by omega, rfl, by omega, hm1, hb1⟩)
  case round =>
    obtain ⟨i, c, hi6, rfl, hc, hmk, hbr⟩ := hrel
    clear hm1 hb1 hz1
    by_cases hlt : i < 6
    case neg =>
      obtain rfl : i = 6 := by omega
      by_cases hbig : 40 < len1
      · have d1 : decide ((40 : Int) < (len1 : Int)) = true := decide_eq_true (by omega)
        have d1' : decide (40 < len1) = true := decide_eq_true hbig
        go_wp2_with fail
        go_ret
        exact ⟨rfl, hbr⟩
      · have d1 : decide ((40 : Int) < (len1 : Int)) = false := decide_eq_false (by omega)
        have d1' : decide (40 < len1) = false := decide_eq_false hbig
        go_wp2_with fail
        refine (writes_c a1 len1 cap1 z1 _ m1 (HR1.out.below hbr) HS1.out (ht.below hbr)).mono ?_
        rintro e w3 ⟨rfl, hb3⟩
        have hb3' := below_step hbr hb3
        go_wp2_with fail
        refine (lsane_c mx _ (keep_cell hb3' hmx) (ht.below hb3')).mono ?_
        rintro e w4 ⟨rfl, hb4⟩
        go_wp2_with fail
        go_ret
        exact ⟨rfl, below_step hb3' hb4⟩
    case pos =>
      have hlti : (i : Int) < 6 := by omega
      go_wp2_with fail
      refine (lmade_c w.heap.size w.heap.size c 5 _ hmk (by omega) (by omega) hbr.size).mono ?_
      rintro e w2 ⟨A, n, cp, l, c2, rfl, _, hR, hn1, _, _, Hok, HL, hc2, hm2, hg2⟩
      have hb2 := hbr.trans (grown_below hg2 hbr.size (Nat.le_refl _))
      clear hmk hg2 hbr
      by_cases hi0 : 0 < i
      case neg =>
        have d2 : decide ((0 : Int) < (i : Int)) = false := decide_eq_false (by omega)
        have d2' : decide (0 < i) = false := decide_eq_false hi0
        have d3 : decide ((3 : Int) < (i : Int)) = false := decide_eq_false (by omega)
        have d3' : decide (3 < i) = false := decide_eq_false (by omega)
        go_wp2_with fail
        refine (writes_c A n cp l w2 (by unfold maxLen; omega) hR (LeWf.of_ok HL.out) (ht.below hb2)).mono ?_
        rintro e w3 ⟨rfl, hb3⟩
        go_wp2_with fail
        go_roundw
        case rel => exact (show LvO _ _ _ from ⟨i + 1, c2, by omega, by go_num, by omega, hm2.below hb3, below_step hb2 hb3⟩)
        case measure => simp [intOf]; omega
      case pos =>
        have d2 : decide ((0 : Int) < (i : Int)) = true := decide_eq_true (by omega)
        have d2' : decide (0 < i) = true := decide_eq_true hi0
        go_wp2_with fail
        refine (spoilLayout_c w.heap.size w.heap.size c2 n cp A l w2 hm2 (by omega) (by omega) hb2.size hR (LeSp.of_ok HL.out Hok.out)).mono ?_
        rintro e w5 ⟨A5, n5, cp5, l5, c5, rfl, own5, hn5, Hs5, hc5, hm5, hg5⟩
        have hb5 := hb2.trans (grown_below hg5 hb2.size (Nat.le_refl _))
        have hR5 := own_LR own5
        have HSp := Lib.hid Hs5
        clear hm2 hb2 hR own5 hg5 Hs5
        by_cases hi3 : 3 < i
        case neg =>
          have d3 : decide ((3 : Int) < (i : Int)) = false := decide_eq_false (by omega)
          have d3' : decide (3 < i) = false := decide_eq_false hi3
          go_wp2_with fail
          refine (writes_c A5 n5 cp5 l5 w5 (by unfold maxLen; omega) hR5 (LeWf.of_sp HSp.out) (ht.below hb5)).mono ?_
          rintro e w3 ⟨rfl, hb3⟩
          go_wp2_with fail
          go_roundw
          case rel => exact (show LvO _ _ _ from ⟨i + 1, c5, by omega, by go_num, by omega, hm5.below hb3, below_step hb5 hb3⟩)
          case measure => simp [intOf]; omega
        case pos =>
          have d3 : decide ((3 : Int) < (i : Int)) = true := decide_eq_true (by omega)
          have d3' : decide (3 < i) = true := decide_eq_true hi3
          go_wp2_with fail
          refine (spoilLayout_c w.heap.size w.heap.size c5 n5 cp5 A5 l5 w5 hm5 (by omega) (by omega) hb5.size hR5 HSp.out).mono ?_
          rintro e w6 ⟨A6, n6, cp6, l6, c6, rfl, own6, hn6, Hs6, hc6, hm6, hg6⟩
          have hb6 := hb5.trans (grown_below hg6 hb5.size (Nat.le_refl _))
          have hR6 := own_LR own6
          have HSp6 := Lib.hid Hs6
          clear hm5 hb5 hR5 own6 hg6 Hs6
          go_wp2_with fail
          refine (writes_c A6 n6 cp6 l6 w6 (by unfold maxLen; omega) hR6 (LeWf.of_sp HSp6.out) (ht.below hb6)).mono ?_
          rintro e w3 ⟨rfl, hb3⟩
          go_wp2_with fail
          go_roundw
          case rel => exact (show LvO _ _ _ from ⟨i + 1, c6, by omega, by go_num, by omega, hm6.below hb3, below_step hb6 hb3⟩)
          case measure => simp [intOf]; omega
end Go.Proofs.YtmjdjcpmkdninaaDoor
