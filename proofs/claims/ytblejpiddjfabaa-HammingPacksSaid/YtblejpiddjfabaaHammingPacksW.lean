/- The walk of 'HammingPacks'; Pack and Unpack at good values. -/
import Derived.Test.YtblejpiddjfabaaHamW3
import Derived.RegionTactic
import Derived.BigRegion
namespace Go.Proofs.Ytblejpiddjfabaa
open Go.RowKit
theorem pack_ok (A : Option Addr) (n c : Nat) (l : List Int) (w : World) (hn : n ≤ 65536) (h : IR .i64 w A n l) (hr : ∀ v ∈ l, 0 ≤ v ∧ v < 2048) :
    Calls Try.prog 14 #[.slice A n c] w fun e w' => ∃ v, e = .returned (.tuple #[v, .int .i64 0]) ∧ w'.ownsRow w.heap.size 5 1 v (2 * n) ((Ham.encB l).map (Value.int .u8)) ∧ Below w.heap.size w w' := by
  have hl := h.len
  have hv := Ham.vals_ok l hr
  have he : Ham.packE l = 0 := by rw [Ham.packE, if_neg (by omega), if_pos hv]
  have hb : Ham.packB l = Ham.encB l := by rw [Ham.packB, if_neg (by omega), if_pos hv]
  have hlen : (Ham.encB l).length = 2 * n := by rw [Ham.encB_len, hl]
  refine (pack_c A n c l w (by simp only [maxLen]; omega) h).mono fun e w' ⟨v, h1, h2, h3⟩ => ⟨v, by rw [h1, he], ?_, h3⟩
  rwa [hb, hlen] at h2
theorem unpack_near (A : Option Addr) (n c : Nat) (l B : List Int) (w : World) (hn : n ≤ 65536) (hl : l.length = n) (h : IR .u8 w A (2 * n) B) (hnr : Ham.Near l B) (hr : ∀ v ∈ l, 0 ≤ v ∧ v < 2048) :
    Calls Try.prog 15 #[.slice A (2 * n) c] w fun e w' => ∃ v u, e = .returned (.tuple #[v, u, .int .i64 0]) ∧ w'.ownsRow w.heap.size 3 1 v n (l.map (Value.int .i64)) ∧
      w'.ownsRow w.heap.size 3 1 u 0 [] ∧ Below w.heap.size w w' := by
  obtain ⟨h1, h2, h3⟩ := hnr.unpack hr (by omega)
  refine (unpack_c A (2 * n) c B w (by simp only [maxLen]; omega) h hnr.range).mono fun e w' ⟨v, u, he, ho, hu, _, hb⟩ => ⟨v, u, by rw [he, h1], ?_, ?_, hb⟩
  · rwa [h2, hl] at ho
  · rw [h3] at hu; exact hu
theorem in17 (v : Int) : ∃ n : Nat, n < 17 ∧ ((v.tmod 17 + 17) % 17) = (n : Int) := by
  have := mod_bd (v.tmod 17 + 17) 17 (by omega)
  exact ⟨((v.tmod 17 + 17) % 17).toNat, by omega, by omega⟩
theorem u8_flip (x p : Nat) (hx : x < 256) : bits .xor .u8 (x : Int) (2 ^ (p % 8) % 256) = ((x ^^^ 2 ^ (p % 8) : Nat) : Int) := by
  have h1 : 2 ^ (p % 8) < 2 ^ 8 := Nat.pow_lt_pow_right (by decide) (by omega)
  have h2 : (2 : Int) ^ (p % 8) % 256 = ((2 ^ (p % 8) : Nat) : Int) := by
    rw [show ((2 : Int) ^ (p % 8)) = ((2 ^ (p % 8) : Nat) : Int) by simp]
    generalize 2 ^ (p % 8) = q at h1 ⊢
    omega
  rw [h2, u8_xor_nat _ _ hx (by omega)]
set_option linter.unusedVariables false in
set_option maxHeartbeats 4000000 in
theorem walk_HammingPacks (a0 : Option Addr) (len0 cap0 : Nat) (z0 : List Int) (a1 : Option Addr) (len1 cap1 : Nat) (z1 : List Int) (w : World)
    (w0 : IsRow .i64 w a0 len0 cap0 z0) (w1 : IsRow .i64 w a1 len1 cap1 z1) :
    Calls Try.prog 7 #[.slice a0 len0 cap0, .slice a1 len1 cap1] w fun e w' => e = .returned (.bool true) ∧ Below w.heap.size w w' := by
  obtain ⟨r0, m0, _⟩ := w0.reads
  obtain ⟨r1, m1, _⟩ := w1.reads
  clear w0 w1
  generalize z0.take len0 = l0 at r0
  generalize z1.take len1 = l1 at r1
  have hvl := Ham.valsL_len l0
  have hvr := Lib.hid (Ham.valsL_range l0)
  have hl0 := r0.len
  have m1' := m1
  unfold maxLen at m1'
  go_enter Try.func7, Try.ntmps7
  go_wp2_with fail
  refine (values_c _ _ _ _ _ m0 r0).mono ?_
  rintro e w2 ⟨v2, rfl, own2, hb2⟩
  obtain ⟨n, hn⟩ : ∃ n, n = min 60 len0 := ⟨_, rfl⟩
  rw [← hn] at own2
  obtain ⟨A2, c2, rfl, _, _⟩ := own_form own2
  have hn60 : n ≤ 60 := by omega
  have hvl' : (Ham.valsL l0).length = n := by rw [hvl, hl0, hn]
  generalize Ham.valsL l0 = L at own2 hvr hvl'
  have Hvl := Lib.hid hvl'
  clear hn hvl hl0 r0 m0 hvl'
  go_wp2_with fail
  refine (pack_ok _ n _ L _ (by omega) (own_IR own2) hvr.out).mono ?_
  rintro e w3 ⟨v3, rfl, own3, hb3⟩
  have hap := apart_old own2 own3 (Nat.le_refl _)
  obtain ⟨A3, c3, rfl, _, _⟩ := own_form own3
  have own2a := own_below own2 hb3
  have hb3a := below_step hb2 hb3
  have hz2 := hb2.size
  have own3a := own_more own3 hb2.size
  clear own2 hb3 hb2 own3 hz2
  have hne : ((2 * n : Nat) : Int) = 2 * (n : Int) := by omega
  have hne2 : (((2 * n : Nat) : Int) != 2 * (n : Int)) = false := by simp
  go_wp2_with fail
  go_loopw [7, 8, 31] (fun _ _ p wr => ∃ (k : Nat) (B : List Int), k ≤ n ∧ p = .int .i64 k ∧ Ham.Near L B ∧ Hid (∀ j, k ≤ j → j < n → Ham.wordAt B j = Ham.word (L.getD j 0).toNat) ∧
    wr.ownsRow w.heap.size 5 1 (.slice A3 (2 * n) c3) (2 * n) (B.map (Value.int .u8)) ∧ wr.ownsRow w.heap.size 3 1 (.slice A2 n c2) n (L.map (Value.int .i64)) ∧ Below w.heap.size w wr) (fun _ _ p _ => n - (intOf p).toNat)
  case atStart => exact ⟨0, _, by omega, rfl, Ham.Near.enc L, Lib.hid (fun j _ hj => Ham.wordAt_enc L j (by rw [Hvl.out]; exact hj)), own3a, own2a, hb3a⟩
  case round =>
    obtain ⟨k, B, hk, rfl, hnear, hrest, own3r, own2r, hbr⟩ := hrel
    by_cases hlt : k < n
    · obtain ⟨g, cap, hform, hbg, hgl⟩ := own3r.form (by omega)
      simp only [Value.slice.injEq, true_and] at hform
      obtain ⟨rfl, rfl⟩ := hform
      by_cases h1 : 0 < len1
      · have hq1 : k % len1 < len1 := Nat.mod_lt _ h1
        have hqi : (k : Int) % (len1 : Int) = ((k % len1 : Nat) : Int) := by omega
        generalize hq : k % len1 = q at hq1 hqi
        obtain ⟨bd, rfl, hbb, hcb⟩ := r1.at_ hq1
        have hcb' := IR.cell hcb hbb hbr
        generalize l1.getD q 0 = x at hcb'
        obtain ⟨p, hp17, hpx⟩ := in17 x
        have hxt := tmod_bd x 17 (by omega)
        clear hcb hq
        by_cases hp : p < 16
        · have hjd : ∃ j : Nat, j = 2 * k + 1 - p / 8 ∧ j < 2 * n := ⟨_, rfl, by omega⟩
          obtain ⟨j, hj, hjn⟩ := hjd
          have hcell := own_cell own3r hjn
          have hfz := own3r.frozenAt j
          have hbx := Ham.getD_range B hnear.range j
          obtain ⟨y, hy⟩ := Int.eq_ofNat_of_zero_le hbx.1
          have hfl : Ham.flipB B k p = B.set j ((y ^^^ 2 ^ (p % 8) : Nat) : Int) := by rw [Ham.flipB, ← hj, hy, Int.toNat_natCast]
          rw [hy] at hcell hbx
          have hxor := Lib.hid (u8_flip y p (by omega))
          have s1 : IntKind.i64.wrap (2 * (k : Int)) = 2 * (k : Int) := IntWalk.i64_in _ ⟨by omega, by omega⟩
          have s2 : IntKind.i64.wrap (2 * (k : Int) + 1) = 2 * (k : Int) + 1 := IntWalk.i64_in _ ⟨by omega, by omega⟩
          have s3 : IntKind.i64.wrap (2 * (k : Int) + 1 - (p : Int) / 8) = (j : Int) := by rw [IntWalk.i64_in _ ⟨by omega, by omega⟩]; omega
          have s4 : 2 * (k : Int) + 1 - (p : Int) / 8 = (j : Int) := by omega
          have Hfl := Lib.hid hfl
          have Hj := Lib.hid hj
          clear hfl hy hj
          go_wp2_with fail
          simp only [hpx]
          go_region
          go_wp2_with fail
          go_roundw
          case rel =>
            have hLn := Hvl.out
            refine ⟨k + 1, Ham.flipB B k p, by omega, by go_num, hnear.flip k p (by omega) hp (hrest.out k (Nat.le_refl _) hlt), Lib.hid (fun i hi hin => ?_), ?_, ?_, ?_⟩
            · rw [Ham.wordAt_flip_other _ _ _ _ hp (by have := hnear.len; omega) (by omega)]
              exact hrest.out i (by omega) hin
            · rw [Hfl.out, hxor.out]
              exact own_drew (own_set own3r _)
            · refine own_set_other own2r (fun e => ?_) _
              rcases hap with ha | ha
              · rw [ha] at e; cases e
              · exact ha (by rw [e]; rfl)
            · exact (Below.setCell (show Below w.heap.size w wr from hbr) (p := ⟨g, j, none⟩) hbg _).drew
          case measure => simp [intOf]; omega
        · obtain rfl : p = 16 := by omega
          have hB0 : decide (((16 : Nat) : Int) < 16) = false := by decide
          go_wp2_with fail
          go_roundw
          case rel => exact ⟨k + 1, B, by omega, by go_num, hnear, Lib.hid (fun i hi hin => hrest.out i (by omega) hin), own3r, own2r, hbr⟩
          case measure => simp [intOf]; omega
      · have hB0 : decide (0 < (len1 : Int)) = false := by simp; omega
        go_wp2_with fail
        go_roundw
        case rel => exact ⟨k + 1, B, by omega, by go_num, hnear, Lib.hid (fun i hi hin => hrest.out i (by omega) hin), own3r, own2r, hbr⟩
        case measure => simp [intOf]; omega
    · obtain rfl : k = n := by omega
      go_wp2_with fail
      refine (unpack_near _ k _ L B _ (by omega) Hvl.out (own_IR own3r) hnear hvr.out).mono ?_
      rintro e w4 ⟨v4, u4, rfl, own4, own4', hb4⟩
      obtain ⟨A4, c4, rfl, k4, k4'⟩ := own_form own4
      obtain ⟨B4, d4, rfl, _, _⟩ := own_form own4'
      have own2s := own_below own2r hb4
      have hb4a := below_step hbr hb4
      clear own3r own2r hb4 hbr own4' own3a own2a hb3a r1
      go_wp2_with fail
      refine (ints_eq _ _ _ _ _ _ _ _ (Nat.le_trans k4 k4') (own_IR own4) (own_IR own2s)).mono ?_
      rintro e w5 ⟨rfl, hb5⟩
      have hb5a := below_step hb4a hb5
      clear hb5 hb4a
      go_wp2_with fail
      refine (sane03_c _).mono ?_
      rintro e w6 ⟨rfl, hb6⟩
      go_wp2_with fail
      go_ret
      exact ⟨rfl, below_step hb5a hb6⟩
end Go.Proofs.Ytblejpiddjfabaa
