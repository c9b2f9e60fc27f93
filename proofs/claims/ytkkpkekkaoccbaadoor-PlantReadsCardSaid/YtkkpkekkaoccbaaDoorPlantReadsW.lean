/- The walk of 'PlantReads'. -/
import Derived.Test.YtkkpkekkaoccbaaDoorPlY0
import Derived.Test.YtkkpkekkaoccbaaDoorGenSpoil
namespace Go.Proofs.YtkkpkekkaoccbaaDoor
open Go.RowKit
theorem rfmtOk_c (A : Option Addr) (n c : Nat) (l : List PE) (w : World) (hn : n ≤ maxLen) (h : PR6 w A n l) (hs : ∀ x ∈ l, x.nm.size ≤ maxLen) (hv : Pl.vErr l = 0) :
    Calls Tryd.prog 9 #[.slice A n c] w fun e w' => e = .returned (.tuple #[.string (bOf (Pl.fmtL l)), .int .i64 0]) ∧ Below w.heap.size w w' := by
  refine (rformat_c A n c l w hn h hs).mono ?_
  rintro e w' ⟨he, hb⟩
  rw [Pl.fmt_ok hv] at he
  exact ⟨he, hb⟩
set_option maxRecDepth 100000 in
set_option maxHeartbeats 8000000 in
theorem walk_PlantReads (a0 : Option Addr) (len0 cap0 : Nat) (z0 : List Int) (a1 : ByteArray) (mx : Int) (w : World) (w0 : IsRow .i64 w a0 len0 cap0 z0) (w1 : a1.size ≤ maxLen) (hmx : w.cell? ⟨0, 0, none⟩ = some (.int .i64 mx)) :
    Calls Tryd.prog 3 #[.slice a0 len0 cap0, .string a1] w fun e w' => e = .returned (.bool true) ∧ Below w.heap.size w w' := by
  obtain ⟨r0, m0, _⟩ := w0.reads
  have hmax := w1
  unfold maxLen at hmax
  clear w0 w1
  generalize z0.take len0 = l0 at r0
  go_enter Tryd.func3, Tryd.ntmps3
  go_wp2_with fail
  refine (new_c _ _ _ _ _ m0 r0).mono ?_
  rintro e w1 ⟨rfl, hm1, hb1, hz1⟩
  clear r0 m0
  go_wp2_with fail
  refine (made_c w.heap.size w.heap.size 0 12 w1 hm1 (by omega) (by omega) hb1.size).mono ?_
  rintro e w2 ⟨A, n, cp, l, c2, rfl, _, hR, hn1, hn96, _, _, Hok, Hnm, hc2, hm2, hg2⟩
  have hb2 := hb1.trans (grown_below hg2 hb1.size (Nat.le_refl _))
  have hll := hR.len
  have hnm : n ≤ maxLen := by unfold maxLen; omega
  have Hnx : Hid (∀ x ∈ l, x.nm.size ≤ maxLen) := Lib.hid (fun x hx => by have := Hnm.out x hx; unfold maxLen; omega)
  clear hm1 hb1 hz1 hg2
  have Hlen := Lib.hid (Pl.fmtL_len l (Pl.vErr_zero Hok.out).2)
  obtain ⟨s, hs⟩ : ∃ s, bOf (Pl.fmtL l) = s := ⟨_, rfl⟩
  have hs2 : s.size ≤ 9600 := by rw [← hs, bOf_size]; have := Hlen.out; omega
  have HF1 := Lib.hid (rfmtOk_c A n cp l w2 hnm hR Hnx.out Hok.out)
  rw [hs] at HF1
  go_wp2_with fail
  refine HF1.out.mono ?_
  rintro e w3 ⟨rfl, hb3⟩
  have hm3 := hm2.below hb3
  have hb3' := below_step hb2 hb3
  clear hR HF1 hs Hlen hb3 hb2 hm2 hll Hnx Hnm
  go_wp2_with fail
  go_loopw [8] (fun p wr => ∃ t : Int, 0 ≤ t ∧ t ≤ 6 ∧ p = .int .i64 t ∧ ∃ c : Nat, c ≤ 130 + 3 * t.toNat ∧ Mk w.heap.size wr w.heap.size c ∧ Below w.heap.size w wr) (fun p _ => (6 - intOf p).toNat)
  case atStart => exact ⟨0, by omega, by omega, rfl, c2, by omega, hm3, hb3'⟩
  case round =>
    obtain ⟨t, ht0, ht6, rfl, c, hc, hmk, hbr⟩ := hrel
    obtain rfl | rfl | rfl | rfl | rfl | rfl | rfl : t = 0 ∨ t = 1 ∨ t = 2 ∨ t = 3 ∨ t = 4 ∨ t = 5 ∨ t = 6 := by omega
    · have hss : s.size ≤ 9600 := hs2
      by_cases hbig : 3000 < s.size
      · have d1 : decide (3000 < (s.size : Int)) = true := decide_eq_true (by omega)
        go_wp2_with fail
        go_roundw
        case rel => exact ⟨0 + 1, by omega, by omega, by go_num, c, by omega, hmk, hbr⟩
        case measure => simp [intOf]
      · have d1 : decide (3000 < (s.size : Int)) = false := decide_eq_false (by omega)
        go_wp2_with fail
        refine (parse_c s mx _ (by unfold maxLen; omega) (keep_cell hbr hmx)).mono ?_
        rintro e w4 ⟨A4, n4, c4, rfl, hR4, hn4, _, hb4⟩
        obtain ⟨pl, pi, pe, hpp⟩ : ∃ pl pi pe, Pl.parse s = (pl, pi, pe) := ⟨_, _, _, rfl⟩
        rw [hpp] at hR4 ⊢
        have Hpp := Lib.hid hpp
        clear hpp
        go_wp2_with fail
        refine (rparse_c s w4 (by unfold maxLen; omega)).mono ?_
        rintro e w5 ⟨A5, n5, c5, rfl, hR5, _, _, hb5⟩
        rw [Hpp.out] at hR5 ⊢
        have hR4' := hR4.below hb5
        have hb5' := below_step hb4 hb5
        clear hR4 hb5 hb4
        go_wp2_with fail
        refine (same_c A4 A5 n4 n5 c4 c5 pl w5 hn4 hR4' hR5).mono ?_
        rintro e w6 ⟨rfl, hb6⟩
        have hb6' := below_step hb5' hb6
        clear hR4' hR5 hb5' hb6
        go_wp2_with fail
        go_roundw
        case rel => exact ⟨0 + 1, by omega, by omega, by go_num, c, by omega, hmk.below hb6', below_step hbr hb6'⟩
        case measure => simp [intOf]
    · go_wp2_with fail
      refine (spoil_c w.heap.size w.heap.size c s _ hmk (by omega) (by omega)).mono ?_
      rintro e wq ⟨x, c', rfl, hxs, hcc, hmq, hgq⟩
      have hbq := hbr.trans (grown_below hgq hbr.size (Nat.le_refl _))
      clear hmk hbr hgq
      have hmk := hmq
      have hbr := hbq
      clear hmq hbq
      by_cases hbig : 3000 < x.size
      · have d1 : decide (3000 < (x.size : Int)) = true := decide_eq_true (by omega)
        go_wp2_with fail
        go_roundw
        case rel => exact ⟨1 + 1, by omega, by omega, by go_num, c', by omega, hmk, hbr⟩
        case measure => simp [intOf]
      · have d1 : decide (3000 < (x.size : Int)) = false := decide_eq_false (by omega)
        go_wp2_with fail
        refine (parse_c x mx _ (by unfold maxLen; omega) (keep_cell hbr hmx)).mono ?_
        rintro e w4 ⟨A4, n4, c4, rfl, hR4, hn4, _, hb4⟩
        obtain ⟨pl, pi, pe, hpp⟩ : ∃ pl pi pe, Pl.parse x = (pl, pi, pe) := ⟨_, _, _, rfl⟩
        rw [hpp] at hR4 ⊢
        have Hpp := Lib.hid hpp
        clear hpp
        go_wp2_with fail
        refine (rparse_c x w4 (by unfold maxLen; omega)).mono ?_
        rintro e w5 ⟨A5, n5, c5, rfl, hR5, _, _, hb5⟩
        rw [Hpp.out] at hR5 ⊢
        have hR4' := hR4.below hb5
        have hb5' := below_step hb4 hb5
        clear hR4 hb5 hb4
        go_wp2_with fail
        refine (same_c A4 A5 n4 n5 c4 c5 pl w5 hn4 hR4' hR5).mono ?_
        rintro e w6 ⟨rfl, hb6⟩
        have hb6' := below_step hb5' hb6
        clear hR4' hR5 hb5' hb6
        go_wp2_with fail
        go_roundw
        case rel => exact ⟨1 + 1, by omega, by omega, by go_num, c', by omega, hmk.below hb6', below_step hbr hb6'⟩
        case measure => simp [intOf]
    · go_wp2_with fail
      refine (spoil_c w.heap.size w.heap.size c s _ hmk (by omega) (by omega)).mono ?_
      rintro e wq ⟨x, c', rfl, hxs, hcc, hmq, hgq⟩
      have hbq := hbr.trans (grown_below hgq hbr.size (Nat.le_refl _))
      clear hmk hbr hgq
      have hmk := hmq
      have hbr := hbq
      clear hmq hbq
      by_cases hbig : 3000 < x.size
      · have d1 : decide (3000 < (x.size : Int)) = true := decide_eq_true (by omega)
        go_wp2_with fail
        go_roundw
        case rel => exact ⟨2 + 1, by omega, by omega, by go_num, c', by omega, hmk, hbr⟩
        case measure => simp [intOf]
      · have d1 : decide (3000 < (x.size : Int)) = false := decide_eq_false (by omega)
        go_wp2_with fail
        refine (parse_c x mx _ (by unfold maxLen; omega) (keep_cell hbr hmx)).mono ?_
        rintro e w4 ⟨A4, n4, c4, rfl, hR4, hn4, _, hb4⟩
        obtain ⟨pl, pi, pe, hpp⟩ : ∃ pl pi pe, Pl.parse x = (pl, pi, pe) := ⟨_, _, _, rfl⟩
        rw [hpp] at hR4 ⊢
        have Hpp := Lib.hid hpp
        clear hpp
        go_wp2_with fail
        refine (rparse_c x w4 (by unfold maxLen; omega)).mono ?_
        rintro e w5 ⟨A5, n5, c5, rfl, hR5, _, _, hb5⟩
        rw [Hpp.out] at hR5 ⊢
        have hR4' := hR4.below hb5
        have hb5' := below_step hb4 hb5
        clear hR4 hb5 hb4
        go_wp2_with fail
        refine (same_c A4 A5 n4 n5 c4 c5 pl w5 hn4 hR4' hR5).mono ?_
        rintro e w6 ⟨rfl, hb6⟩
        have hb6' := below_step hb5' hb6
        clear hR4' hR5 hb5' hb6
        go_wp2_with fail
        go_roundw
        case rel => exact ⟨2 + 1, by omega, by omega, by go_num, c', by omega, hmk.below hb6', below_step hbr hb6'⟩
        case measure => simp [intOf]
    · go_wp2_with fail
      refine (spoil_c w.heap.size w.heap.size c s _ hmk (by omega) (by omega)).mono ?_
      rintro e wq ⟨x, c', rfl, hxs, hcc, hmq, hgq⟩
      have hbq := hbr.trans (grown_below hgq hbr.size (Nat.le_refl _))
      clear hmk hbr hgq
      have hmk := hmq
      have hbr := hbq
      clear hmq hbq
      by_cases hbig : 3000 < x.size
      · have d1 : decide (3000 < (x.size : Int)) = true := decide_eq_true (by omega)
        go_wp2_with fail
        go_roundw
        case rel => exact ⟨3 + 1, by omega, by omega, by go_num, c', by omega, hmk, hbr⟩
        case measure => simp [intOf]
      · have d1 : decide (3000 < (x.size : Int)) = false := decide_eq_false (by omega)
        go_wp2_with fail
        refine (parse_c x mx _ (by unfold maxLen; omega) (keep_cell hbr hmx)).mono ?_
        rintro e w4 ⟨A4, n4, c4, rfl, hR4, hn4, _, hb4⟩
        obtain ⟨pl, pi, pe, hpp⟩ : ∃ pl pi pe, Pl.parse x = (pl, pi, pe) := ⟨_, _, _, rfl⟩
        rw [hpp] at hR4 ⊢
        have Hpp := Lib.hid hpp
        clear hpp
        go_wp2_with fail
        refine (rparse_c x w4 (by unfold maxLen; omega)).mono ?_
        rintro e w5 ⟨A5, n5, c5, rfl, hR5, _, _, hb5⟩
        rw [Hpp.out] at hR5 ⊢
        have hR4' := hR4.below hb5
        have hb5' := below_step hb4 hb5
        clear hR4 hb5 hb4
        go_wp2_with fail
        refine (same_c A4 A5 n4 n5 c4 c5 pl w5 hn4 hR4' hR5).mono ?_
        rintro e w6 ⟨rfl, hb6⟩
        have hb6' := below_step hb5' hb6
        clear hR4' hR5 hb5' hb6
        go_wp2_with fail
        go_roundw
        case rel => exact ⟨3 + 1, by omega, by omega, by go_num, c', by omega, hmk.below hb6', below_step hbr hb6'⟩
        case measure => simp [intOf]
    · go_wp2_with fail
      refine (next_c w.heap.size w.heap.size c ((s.size : Int) + 1) _ hmk (by omega) (by omega) (by omega)).mono ?_
      rintro e wq ⟨q, hq0, hq1, rfl, hmq, hgq⟩
      obtain ⟨j, rfl⟩ := Int.eq_ofNat_of_zero_le hq0
      have hbq := hbr.trans (grown_below hgq hbr.size (Nat.le_refl _))
      clear hmk hbr hgq
      have hmk := hmq
      have hbr := hbq
      clear hmq hbq
      have hjs : (j : Int) ≤ (s.size : Int) := by omega
      obtain ⟨x, hx⟩ : ∃ x, s.extract 0 j = x := ⟨_, rfl⟩
      have hxs : x.size ≤ 9600 := by rw [← hx]; simp; omega
      by_cases hbig : 3000 < x.size
      · have d1 : decide (3000 < (x.size : Int)) = true := decide_eq_true (by omega)
        go_wp2_with fail
        go_roundw
        case rel => exact ⟨4 + 1, by omega, by omega, by go_num, (c + 1), by omega, hmk, hbr⟩
        case measure => simp [intOf]
      · have d1 : decide (3000 < (x.size : Int)) = false := decide_eq_false (by omega)
        go_wp2_with fail
        refine (parse_c x mx _ (by unfold maxLen; omega) (keep_cell hbr hmx)).mono ?_
        rintro e w4 ⟨A4, n4, c4, rfl, hR4, hn4, _, hb4⟩
        obtain ⟨pl, pi, pe, hpp⟩ : ∃ pl pi pe, Pl.parse x = (pl, pi, pe) := ⟨_, _, _, rfl⟩
        rw [hpp] at hR4 ⊢
        have Hpp := Lib.hid hpp
        clear hpp
        go_wp2_with fail
        refine (rparse_c x w4 (by unfold maxLen; omega)).mono ?_
        rintro e w5 ⟨A5, n5, c5, rfl, hR5, _, _, hb5⟩
        rw [Hpp.out] at hR5 ⊢
        have hR4' := hR4.below hb5
        have hb5' := below_step hb4 hb5
        clear hR4 hb5 hb4
        go_wp2_with fail
        refine (same_c A4 A5 n4 n5 c4 c5 pl w5 hn4 hR4' hR5).mono ?_
        rintro e w6 ⟨rfl, hb6⟩
        have hb6' := below_step hb5' hb6
        clear hR4' hR5 hb5' hb6
        go_wp2_with fail
        go_roundw
        case rel => exact ⟨4 + 1, by omega, by omega, by go_num, (c + 1), by omega, hmk.below hb6', below_step hbr hb6'⟩
        case measure => simp [intOf]
    · have hss := hmax
      by_cases hbig : 3000 < a1.size
      · have d1 : decide (3000 < (a1.size : Int)) = true := decide_eq_true (by omega)
        go_wp2_with fail
        go_roundw
        case rel => exact ⟨5 + 1, by omega, by omega, by go_num, c, by omega, hmk, hbr⟩
        case measure => simp [intOf]
      · have d1 : decide (3000 < (a1.size : Int)) = false := decide_eq_false (by omega)
        go_wp2_with fail
        refine (parse_c a1 mx _ (by unfold maxLen; omega) (keep_cell hbr hmx)).mono ?_
        rintro e w4 ⟨A4, n4, c4, rfl, hR4, hn4, _, hb4⟩
        obtain ⟨pl, pi, pe, hpp⟩ : ∃ pl pi pe, Pl.parse a1 = (pl, pi, pe) := ⟨_, _, _, rfl⟩
        rw [hpp] at hR4 ⊢
        have Hpp := Lib.hid hpp
        clear hpp
        go_wp2_with fail
        refine (rparse_c a1 w4 (by unfold maxLen; omega)).mono ?_
        rintro e w5 ⟨A5, n5, c5, rfl, hR5, _, _, hb5⟩
        rw [Hpp.out] at hR5 ⊢
        have hR4' := hR4.below hb5
        have hb5' := below_step hb4 hb5
        clear hR4 hb5 hb4
        go_wp2_with fail
        refine (same_c A4 A5 n4 n5 c4 c5 pl w5 hn4 hR4' hR5).mono ?_
        rintro e w6 ⟨rfl, hb6⟩
        have hb6' := below_step hb5' hb6
        clear hR4' hR5 hb5' hb6
        go_wp2_with fail
        go_roundw
        case rel => exact ⟨5 + 1, by omega, by omega, by go_num, c, by omega, hmk.below hb6', below_step hbr hb6'⟩
        case measure => simp [intOf]
    · go_wp2_with fail
      refine (sane_c mx _ (keep_cell hbr hmx)).mono ?_
      rintro e w4 ⟨rfl, hb4⟩
      go_wp2_with fail
      go_ret
      exact ⟨rfl, below_step hbr hb4⟩
end Go.Proofs.YtkkpkekkaoccbaaDoor
