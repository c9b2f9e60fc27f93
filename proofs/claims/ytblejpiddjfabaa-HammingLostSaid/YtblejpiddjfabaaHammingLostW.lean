/- The walk of 'HammingLost'. -/
import Derived.Test.YtblejpiddjfabaaHammingPacksW
namespace Go.Proofs.Ytblejpiddjfabaa
open Go.RowKit
theorem in16 (v : Int) : ∃ n : Nat, n < 16 ∧ ((v.tmod 16 + 16) % 16) = (n : Int) := by
  have := mod_bd (v.tmod 16 + 16) 16 (by omega)
  exact ⟨((v.tmod 16 + 16) % 16).toNat, by omega, by omega⟩
theorem in15 (v : Int) : ∃ n : Nat, n < 15 ∧ ((v.tmod 15 + 15) % 15) = (n : Int) := by
  have := mod_bd (v.tmod 15 + 15) 15 (by omega)
  exact ⟨((v.tmod 15 + 15) % 15).toNat, by omega, by omega⟩
theorem inN (v : Int) (m : Nat) (hm : 0 < m) : ∃ n : Nat, n < m ∧ ((v.tmod (m : Int) + (m : Int)) % (m : Int)) = (n : Int) := by
  have := mod_bd (v.tmod (m : Int) + (m : Int)) (m : Int) (by omega)
  exact ⟨((v.tmod (m : Int) + (m : Int)) % (m : Int)).toNat, by omega, by omega⟩
theorem unpack_lost (A : Option Addr) (n c at_ : Nat) (l B : List Int) (w : World) (hn : n ≤ 65536) (hl : l.length = n) (h : IR .u8 w A (2 * n) B) (hr : ∀ x ∈ B, 0 ≤ x ∧ x < 256)
    (hu : Ham.unpE B = 0 ∧ Ham.unpackV B = l.set at_ (-1) ∧ Ham.unpackL B = [(at_ : Int)]) :
    Calls Try.prog 15 #[.slice A (2 * n) c] w fun e w' => ∃ v u, e = .returned (.tuple #[v, u, .int .i64 0]) ∧ w'.ownsRow w.heap.size 3 1 v n ((l.set at_ (-1)).map (Value.int .i64)) ∧
      w'.ownsRow w.heap.size 3 1 u 1 ([(at_ : Int)].map (Value.int .i64)) ∧ Below w.heap.size w w' := by
  refine (unpack_c A (2 * n) c B w (by simp only [maxLen]; omega) h hr).mono fun e w' ⟨v, u, he, ho, hu', _, hb⟩ => ⟨v, u, by rw [he, hu.1], ?_, ?_, hb⟩
  · rwa [hu.2.1, List.length_set, hl] at ho
  · rw [hu.2.2] at hu'; exact hu'
set_option linter.unusedVariables false in
set_option maxHeartbeats 1000000 in
theorem walk_HammingLost (a0 : Option Addr) (len0 cap0 : Nat) (z0 : List Int) (a1 a2 a3 : Int) (w : World)
    (w0 : IsRow .i64 w a0 len0 cap0 z0) (w1 : (Lit.int .i64 a1).wf = true) (w2 : (Lit.int .i64 a2).wf = true) (w3 : (Lit.int .i64 a3).wf = true) :
    Calls Try.prog 8 #[.slice a0 len0 cap0, .int .i64 a1, .int .i64 a2, .int .i64 a3] w fun e w' => e = .returned (.bool true) ∧ Below w.heap.size w w' := by
  obtain ⟨r0, m0, _⟩ := w0.reads
  clear w0 w1 w2 w3
  generalize z0.take len0 = l0 at r0
  have hvl := Ham.valsL_len l0
  have hvr := Lib.hid (Ham.valsL_range l0)
  have hl0 := r0.len
  go_enter Try.func8, Try.ntmps8
  go_wp2_with fail
  refine (values_c _ _ _ _ _ m0 r0).mono ?_
  rintro e w2 ⟨v2, rfl, own2, hb2⟩
  obtain ⟨n, hn⟩ : ∃ n, n = min 60 len0 := ⟨_, rfl⟩
  rw [← hn] at own2
  obtain ⟨A2, c2, rfl, k2, k2'⟩ := own_form own2
  have hn60 : n ≤ 60 := by omega
  have hvl' : (Ham.valsL l0).length = n := by rw [hvl, hl0, hn]
  generalize Ham.valsL l0 = L at own2 hvr hvl'
  have Hvl := Lib.hid hvl'
  clear hn hvl hl0 m0 hvl' r0
  go_wp2_with fail
  refine (pack_ok _ n _ L _ (by omega) (own_IR own2) hvr.out).mono ?_
  rintro e w3 ⟨v3, rfl, own3, hb3⟩
  have hap := apart_old own2 own3 (Nat.le_refl _)
  obtain ⟨A3, c3, rfl, _, _⟩ := own_form own3
  have own2a := own_below own2 hb3
  have hb3a := below_step hb2 hb3
  have own3a := own_more own3 hb2.size
  clear own2 hb3 hb2 own3
  have hne : ((2 * n : Nat) : Int) = 2 * (n : Int) := by omega
  have hne2 : (((2 * n : Nat) : Int) != 2 * (n : Int)) = false := by simp
  by_cases hn0 : n = 0
  · have hn0' : ((n : Int) == 0) = true := by simp [hn0]
    go_wp2_with fail
    refine (sane03_c _).mono ?_
    rintro e w6 ⟨rfl, hb6⟩
    go_wp2_with fail
    go_ret
    exact ⟨rfl, below_step hb3a hb6⟩
  · have hn0' : ((n : Int) == 0) = false := by simp [hn0]
    have hnp : 0 < n := by omega
    have hnp' : 1 ≤ (n : Int) := by omega
    obtain ⟨at_, hat, hatx⟩ := inN a1 n hnp
    obtain ⟨p, hp, hpx⟩ := in16 a2
    obtain ⟨q0, hq0, hqx⟩ := in15 a3
    have t1 := tmod_bd a1 n (by omega)
    have t2 := tmod_bd a2 16 (by omega)
    have t3 := tmod_bd a3 15 (by omega)
    obtain ⟨g, cap, hform, hbg, hgl⟩ := own3a.form (by omega)
    simp only [Value.slice.injEq, true_and] at hform
    obtain ⟨rfl, rfl⟩ := hform
    obtain ⟨g2, cap2, hform2, hbg2, hgl2⟩ := own2a.form (by omega)
    simp only [Value.slice.injEq, true_and] at hform2
    obtain ⟨rfl, rfl⟩ := hform2
    have hgg : g2 ≠ g := by
      rcases hap with ha | ha
      · simp [Value.ownBlock] at ha
      · simpa [Value.ownBlock] using ha
    clear hn0
    -- the two bits, the second moved past the first
    obtain ⟨q, hq, hpq, hqq⟩ : ∃ q : Nat, q < 16 ∧ p ≠ q ∧ ((p ≤ q0 ∧ q = q0 + 1) ∨ (q0 < p ∧ q = q0)) := by
      by_cases h : p ≤ q0
      · exact ⟨q0 + 1, by omega, by omega, .inl ⟨h, rfl⟩⟩
      · exact ⟨q0, by omega, by omega, .inr ⟨by omega, rfl⟩⟩
    have hEl := Ham.encB_len L
    have hB1r := Ham.encB_range L
    have hB2r := Ham.flipB_range _ at_ p hB1r
    have hjd : ∃ j : Nat, j = 2 * at_ + 1 - p / 8 ∧ j < 2 * n := ⟨_, rfl, by omega⟩
    obtain ⟨j, hj, hjn⟩ := hjd
    have hid : ∃ i : Nat, i = 2 * at_ + 1 - q / 8 ∧ i < 2 * n := ⟨_, rfl, by omega⟩
    obtain ⟨i, hi, hin⟩ := hid
    have hcell := own_cell own3a hjn
    have hfz := own3a.frozenAt j
    have hbx := Ham.getD_range _ hB1r j
    obtain ⟨y, hy⟩ := Int.eq_ofNat_of_zero_le hbx.1
    have hfl : Ham.flipB (Ham.encB L) at_ p = (Ham.encB L).set j ((y ^^^ 2 ^ (p % 8) : Nat) : Int) := by rw [Ham.flipB, ← hj, hy, Int.toNat_natCast]
    rw [hy] at hcell hbx
    have hxor := Lib.hid (u8_flip y p (by omega))
    have s1 : IntKind.i64.wrap (2 * (at_ : Int)) = 2 * (at_ : Int) := IntWalk.i64_in _ ⟨by omega, by omega⟩
    have s2 : IntKind.i64.wrap (2 * (at_ : Int) + 1) = 2 * (at_ : Int) + 1 := IntWalk.i64_in _ ⟨by omega, by omega⟩
    have s3 : IntKind.i64.wrap (2 * (at_ : Int) + 1 - (p : Int) / 8) = (j : Int) := by rw [IntWalk.i64_in _ ⟨by omega, by omega⟩]; omega
    have s4 : 2 * (at_ : Int) + 1 - (p : Int) / 8 = (j : Int) := by omega
    have s5 : IntKind.i64.wrap (2 * (at_ : Int) + 1 - (q : Int) / 8) = (i : Int) := by rw [IntWalk.i64_in _ ⟨by omega, by omega⟩]; omega
    have s6 : 2 * (at_ : Int) + 1 - (q : Int) / 8 = (i : Int) := by omega
    have Hfl := Lib.hid hfl
    have Hj := Lib.hid hj
    have Hi := Lib.hid hi
    have Hy := Lib.hid hy
    clear hfl hy hj hi hEl
    have hx2 := Ham.two_flips L at_ p q (by rw [Hvl.out]; exact hat) hp hq
    have hun := Ham.lost_unpack L (Ham.flipB (Ham.flipB (Ham.encB L) at_ p) at_ q) at_ p q hvr.out (by rw [Hvl.out]; omega) (by rw [Ham.flipB_len, Ham.flipB_len, Ham.encB_len]) (by rw [Hvl.out]; exact hat) hp hq hpq hx2.1 hx2.2
    have Hun := Lib.hid hun
    clear hx2 hun
    have own3b := own_drew (own_set own3a (j := j) ((y ^^^ 2 ^ (p % 8) : Nat) : Int))
    have own2b := own_drew (own_set_other own2a (g := g) (j := j) (by simp [Value.ownBlock]; exact hgg) (.int .u8 ((y ^^^ 2 ^ (p % 8) : Nat) : Int)))
    have hb3b := (Below.setCell hb3a (p := ⟨g, j, none⟩) hbg (.int .u8 ((y ^^^ 2 ^ (p % 8) : Nat) : Int))).drew
    rw [← Hfl.out] at own3b
    have hq1 : p ≤ q0 → (q0 : Int) + 1 = (q : Int) := by intro h; omega
    have hq2 : q0 < p → q0 = q := by intro h; omega
    have Hqq := Lib.hid hqq
    clear hqq
    by_cases hle : p ≤ q0
    · have hqe := hq1 hle
      clear hq1 hq2
      go_wp2_with fail
      simp only [hatx, hpx, hqx]
      clear hqe hle
      go_region
      rw [hxor.out]
      generalize (w3.setCell ⟨g, j, none⟩ (.int .u8 ((y ^^^ 2 ^ (p % 8) : Nat) : Int))).drew = W1 at own3b own2b hb3b ⊢
      clear own3a own2a hb3a hcell hfz hxor hbx
      have hcell2 := own_cell own3b hin
      have hfz2 := own3b.frozenAt i
      have hbx2 := Ham.getD_range _ hB2r i
      obtain ⟨y2, hy2⟩ := Int.eq_ofNat_of_zero_le hbx2.1
      rw [hy2] at hcell2 hbx2
      have hxor2 := Lib.hid (u8_flip y2 q (by omega))
      have hfl2 : Ham.flipB (Ham.flipB (Ham.encB L) at_ p) at_ q = (Ham.flipB (Ham.encB L) at_ p).set i ((y2 ^^^ 2 ^ (q % 8) : Nat) : Int) := by rw [Ham.flipB, ← Hi.out, hy2, Int.toNat_natCast]
      have own3c := own_drew (own_set own3b (j := i) ((y2 ^^^ 2 ^ (q % 8) : Nat) : Int))
      have own2c := own_drew (own_set_other own2b (g := g) (j := i) (by simp [Value.ownBlock]; exact hgg) (.int .u8 ((y2 ^^^ 2 ^ (q % 8) : Nat) : Int)))
      have hb3c := (Below.setCell hb3b (p := ⟨g, i, none⟩) hbg (.int .u8 ((y2 ^^^ 2 ^ (q % 8) : Nat) : Int))).drew
      rw [← hfl2] at own3c
      clear hfl2 hy2
      go_wp2_with fail
      go_region
      rw [hxor2.out]
      generalize (W1.setCell ⟨g, i, none⟩ (.int .u8 ((y2 ^^^ 2 ^ (q % 8) : Nat) : Int))).drew = W2 at own3c own2c hb3c ⊢
      clear own3b own2b hb3b hcell2 hfz2 hxor2 hbx2
      have hc3 := own_cell own2c hat
      have hfz3 := own2c.frozenAt at_
      have own2d := own_set own2c (j := at_) (-1)
      have own3d := own_set_other own3c (g := g2) (j := at_) (by simp [Value.ownBlock]; exact fun e => hgg e.symm) (.int .i64 (-1))
      have hb3d := Below.setCell hb3c (p := ⟨g2, at_, none⟩) hbg2 (.int .i64 (-1))
      clear own2c own3c hb3c
      generalize L.getD at_ 0 = v0 at hc3
      clear s1 s2 s3 s4 s5 s6
      go_wp2_with fail
      refine (unpack_lost _ n _ at_ L _ _ (by omega) Hvl.out (own_IR own3d) (Ham.flipB_range _ _ _ hB2r) Hun.out).mono ?_
      rintro e w4 ⟨v4, u4, rfl, own4, own4', hb4⟩
      obtain ⟨A4, c4, rfl, k4, k4'⟩ := own_form own4
      obtain ⟨B4, d4, rfl, l4, l4'⟩ := own_form own4'
      have own2e := own_below own2d hb4
      have hb4a := below_step hb3d hb4
      clear own2d own3d hb3d hb4 hc3 hfz3 hB1r hB2r
      go_wp2_with fail
      have hir := IR.new (k := .i64) (w := w4) (cs := #[.int .i64 (at_ : Int)]) (t := 3) [(at_ : Int)] 1 rfl rfl (by decide)
      have own4a := own4.alloc (.cells #[.int .i64 (at_ : Int)] 3)
      have own4b := own4'.alloc (.cells #[.int .i64 (at_ : Int)] 3)
      have own2f := own2e.alloc (.cells #[.int .i64 (at_ : Int)] 3)
      have hb4b := hb4a.alloc hb4a.size (.cells #[.int .i64 (at_ : Int)] 3)
      refine (ints_eq _ _ _ _ _ _ _ _ (by simp [maxLen]) (own_IR own4b) hir).mono ?_
      rintro e w5 ⟨rfl, hb5⟩
      have own4c := own_below own4a hb5
      have own2g := own_below own2f hb5
      have hb5a := below_step hb4b hb5
      clear hb5 hb4b own4a own4b own2f hir own4 own4' own2e hb4a
      go_wp2_with fail
      refine (ints_eq _ _ _ _ _ _ _ _ (Nat.le_trans k4 k4') (own_IR own4c) (own_IR own2g)).mono ?_
      rintro e w6 ⟨rfl, hb6⟩
      have hb6a := below_step hb5a hb6
      clear hb6 hb5a own4c own2g
      go_wp2_with fail
      refine (sane03_c _).mono ?_
      rintro e w7 ⟨rfl, hb7⟩
      go_wp2_with fail
      go_ret
      exact ⟨rfl, below_step hb6a hb7⟩
    · obtain rfl := hq2 (by omega)
      clear hq1 hq2
      have hle' : q0 < p := by omega
      clear hle
      go_wp2_with fail
      simp only [hatx, hpx, hqx]
      clear hle'
      go_region
      rw [hxor.out]
      generalize (w3.setCell ⟨g, j, none⟩ (.int .u8 ((y ^^^ 2 ^ (p % 8) : Nat) : Int))).drew = W1 at own3b own2b hb3b ⊢
      clear own3a own2a hb3a hcell hfz hxor hbx
      have hcell2 := own_cell own3b hin
      have hfz2 := own3b.frozenAt i
      have hbx2 := Ham.getD_range _ hB2r i
      obtain ⟨y2, hy2⟩ := Int.eq_ofNat_of_zero_le hbx2.1
      rw [hy2] at hcell2 hbx2
      have hxor2 := Lib.hid (u8_flip y2 q0 (by omega))
      have hfl2 : Ham.flipB (Ham.flipB (Ham.encB L) at_ p) at_ q0 = (Ham.flipB (Ham.encB L) at_ p).set i ((y2 ^^^ 2 ^ (q0 % 8) : Nat) : Int) := by rw [Ham.flipB, ← Hi.out, hy2, Int.toNat_natCast]
      have own3c := own_drew (own_set own3b (j := i) ((y2 ^^^ 2 ^ (q0 % 8) : Nat) : Int))
      have own2c := own_drew (own_set_other own2b (g := g) (j := i) (by simp [Value.ownBlock]; exact hgg) (.int .u8 ((y2 ^^^ 2 ^ (q0 % 8) : Nat) : Int)))
      have hb3c := (Below.setCell hb3b (p := ⟨g, i, none⟩) hbg (.int .u8 ((y2 ^^^ 2 ^ (q0 % 8) : Nat) : Int))).drew
      rw [← hfl2] at own3c
      clear hfl2 hy2
      go_wp2_with fail
      go_region
      rw [hxor2.out]
      generalize (W1.setCell ⟨g, i, none⟩ (.int .u8 ((y2 ^^^ 2 ^ (q0 % 8) : Nat) : Int))).drew = W2 at own3c own2c hb3c ⊢
      clear own3b own2b hb3b hcell2 hfz2 hxor2 hbx2
      have hc3 := own_cell own2c hat
      have hfz3 := own2c.frozenAt at_
      have own2d := own_set own2c (j := at_) (-1)
      have own3d := own_set_other own3c (g := g2) (j := at_) (by simp [Value.ownBlock]; exact fun e => hgg e.symm) (.int .i64 (-1))
      have hb3d := Below.setCell hb3c (p := ⟨g2, at_, none⟩) hbg2 (.int .i64 (-1))
      clear own2c own3c hb3c
      generalize L.getD at_ 0 = v0 at hc3
      clear s1 s2 s3 s4 s5 s6
      go_wp2_with fail
      refine (unpack_lost _ n _ at_ L _ _ (by omega) Hvl.out (own_IR own3d) (Ham.flipB_range _ _ _ hB2r) Hun.out).mono ?_
      rintro e w4 ⟨v4, u4, rfl, own4, own4', hb4⟩
      obtain ⟨A4, c4, rfl, k4, k4'⟩ := own_form own4
      obtain ⟨B4, d4, rfl, l4, l4'⟩ := own_form own4'
      have own2e := own_below own2d hb4
      have hb4a := below_step hb3d hb4
      clear own2d own3d hb3d hb4 hc3 hfz3 hB1r hB2r
      go_wp2_with fail
      have hir := IR.new (k := .i64) (w := w4) (cs := #[.int .i64 (at_ : Int)]) (t := 3) [(at_ : Int)] 1 rfl rfl (by decide)
      have own4a := own4.alloc (.cells #[.int .i64 (at_ : Int)] 3)
      have own4b := own4'.alloc (.cells #[.int .i64 (at_ : Int)] 3)
      have own2f := own2e.alloc (.cells #[.int .i64 (at_ : Int)] 3)
      have hb4b := hb4a.alloc hb4a.size (.cells #[.int .i64 (at_ : Int)] 3)
      refine (ints_eq _ _ _ _ _ _ _ _ (by simp [maxLen]) (own_IR own4b) hir).mono ?_
      rintro e w5 ⟨rfl, hb5⟩
      have own4c := own_below own4a hb5
      have own2g := own_below own2f hb5
      have hb5a := below_step hb4b hb5
      clear hb5 hb4b own4a own4b own2f hir own4 own4' own2e hb4a
      go_wp2_with fail
      refine (ints_eq _ _ _ _ _ _ _ _ (Nat.le_trans k4 k4') (own_IR own4c) (own_IR own2g)).mono ?_
      rintro e w6 ⟨rfl, hb6⟩
      have hb6a := below_step hb5a hb6
      clear hb6 hb5a own4c own2g
      go_wp2_with fail
      refine (sane03_c _).mono ?_
      rintro e w7 ⟨rfl, hb7⟩
      go_wp2_with fail
      go_ret
      exact ⟨rfl, below_step hb6a hb7⟩
end Go.Proofs.Ytblejpiddjfabaa
