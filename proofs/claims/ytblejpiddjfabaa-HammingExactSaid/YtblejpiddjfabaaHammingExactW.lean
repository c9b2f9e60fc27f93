/- The walk of 'HammingExact'. -/
import Derived.Test.YtblejpiddjfabaaHamR2
import Derived.OpenShut
namespace Go.Proofs.Ytblejpiddjfabaa
open Go.RowKit
theorem u8_range {l : List Int} (h : ∀ n ∈ l, (Lit.int .u8 n).wf = true) : ∀ x ∈ l, 0 ≤ x ∧ x < 256 := fun x hx => by
  have := bounds_u8 (h x hx)
  omega
theorem in65536 (v : Int) : ∃ n : Nat, n < 65536 ∧ ((v.tmod 65536 + 65536) % 65536) = (n : Int) := by
  have := mod_bd (v.tmod 65536 + 65536) 65536 (by omega)
  exact ⟨((v.tmod 65536 + 65536) % 65536).toNat, by omega, by omega⟩
set_option linter.unusedVariables false in
set_option maxRecDepth 100000 in
set_option maxHeartbeats 4000000 in
theorem walk_HammingExact (a0 a1 a2 : Int) (a3 : Option Addr) (len3 cap3 : Nat) (z3 : List Int) (a4 : Option Addr) (len4 cap4 : Nat) (z4 : List Int) (w : World)
    (w0 : (Lit.int .i64 a0).wf = true) (w1 : (Lit.int .i64 a1).wf = true) (w2 : (Lit.int .i64 a2).wf = true) (w3 : IsRow .i64 w a3 len3 cap3 z3) (w4 : IsRow .u8 w a4 len4 cap4 z4) :
    Calls Try.prog 9 #[.int .i64 a0, .int .i64 a1, .int .i64 a2, .slice a3 len3 cap3, .slice a4 len4 cap4] w fun e w' => e = .returned (.bool true) ∧ Below w.heap.size w w' := by
  obtain ⟨r3, m3, _⟩ := w3.reads
  obtain ⟨r4, m4, f4⟩ := w4.reads
  clear w3 w4
  generalize z3.take len3 = l3 at r3
  generalize z4.take len4 = l4 at r4 f4
  have b4 := u8_range f4
  have Hb4 := Lib.hid b4
  clear f4 b4
  have t0 := tmod_bd a0 2048 (by omega)
  have t1 := tmod_bd a1 65536 (by omega)
  have t2 := tmod_bd a2 65536 (by omega)
  obtain ⟨n0, _, hv0⟩ := in2048 a0
  obtain ⟨n1, _, hv1⟩ := in65536 a1
  obtain ⟨n2, _, hv2⟩ := in65536 a2
  have m3' := m3
  have m4' := m4
  unfold maxLen at m3' m4'
  go_enter Try.func9, Try.ntmps9
  go_wp2_with fail
  simp only [hv0]
  go_loopw [12, 13, 14, 15, 16, 47] (fun _ _ _ _ _ p wr => ∃ (k : Nat) (l : List Int), k ≤ 3 ∧ p = .int .i64 k ∧ IR .i64 wr (some ⟨w.heap.size, 0, none⟩) 3 l ∧ Below w.heap.size w wr) (fun _ _ _ _ _ p _ => 3 - (intOf p).toNat)
  case atStart => exact ⟨0, [a0, n0, a1], by omega, rfl, IR.new _ 3 rfl rfl (by decide), (Below.refl _ _).alloc (Nat.le_refl _) _⟩
  case round =>
    obtain ⟨k, l, hk, rfl, hir, hbr⟩ := hrel
    by_cases hlt : k < 3
    · have hca := hir.atb hlt
      generalize l.getD k 0 = x at hca
      go_wp2_with fail
      refine (encode_c x _).mono ?_
      rintro e w5 ⟨rfl, hb5⟩
      have hir5 := hir.below hb5
      have hbr5 := below_step hbr hb5
      clear hir hb5 hbr hca
      go_wp2_with fail
      refine (encode_r x _).mono ?_
      rintro e w6 ⟨rfl, hb6⟩
      have hir6 := hir5.below hb6
      have hbr6 := below_step hbr5 hb6
      clear hir5 hb6 hbr5
      go_wp2_with fail
      go_roundw
      case rel => exact ⟨k + 1, l, by omega, by go_num, hir6, hbr6⟩
      case measure => simp [intOf]; omega
    · obtain rfl : k = 3 := by omega
      have r3' := r3.below hbr
      have r4' := r4.below hbr
      clear r3 r4 hir
      rw [show ((3 : Nat) : Int) = 3 from rfl]
      go_wp2_with fail
      simp only [hv1, hv2]
      go_loopw [18, 19, 20, 21, 22, 23, 24, 25, 26, 27, 28, 82] (fun _ _ _ _ _ _ _ _ _ _ _ p wq => ∃ (k : Nat) (l : List Int), k ≤ 4 ∧ p = .int .i64 k ∧ IR .i64 wq (some ⟨wr.heap.size, 0, none⟩) 4 l ∧ Below wr.heap.size wr wq) (fun _ _ _ _ _ _ _ _ _ _ _ p _ => 4 - (intOf p).toNat)
      case atStart => exact ⟨0, [a1, a2, n1, n2], by omega, rfl, IR.new _ 4 rfl rfl (by decide), (Below.refl _ _).alloc (Nat.le_refl _) _⟩
      case round =>
        obtain ⟨k, l, hk, rfl, hir, hbq⟩ := hrel
        by_cases hlt : k < 4
        · have hca := hir.atb hlt
          generalize l.getD k 0 = x at hca
          go_wp2_with fail
          refine (decode_c x _).mono ?_
          rintro e w5 ⟨rfl, hb5⟩
          have hir5 := hir.below hb5
          have hbr5 := below_step hbq hb5
          clear hir hb5 hbq hca
          go_wp2_with fail
          refine (decode_r x _).mono ?_
          rintro e w6 ⟨rfl, hb6⟩
          have hir6 := hir5.below hb6
          have hbr6 := below_step hbr5 hb6
          clear hir5 hb6 hbr5
          go_wp2_with fail
          refine (distance_c x a1 _).mono ?_
          rintro e w7 ⟨rfl, rfl⟩
          go_wp2_with fail
          refine (distance_r x a1 _).mono ?_
          rintro e w7 ⟨rfl, rfl⟩
          go_wp2_with fail
          go_roundw
          case rel => exact ⟨k + 1, l, by omega, by go_num, hir6, hbr6⟩
          case measure => simp [intOf]; omega
        · obtain rfl : k = 4 := by omega
          rw [show ((4 : Nat) : Int) = 4 from rfl]
          have r3q := r3'.below hbq
          have r4q := r4'.below hbq
          have hbw := below_step hbr hbq
          clear r3' r4' hir hbq hbr
          by_cases hbig : 200 < len3 ∨ 400 < len4
          · by_cases hb3 : 200 < len3
            · clear hbig
              go_wp2_with fail
              refine (sane03_c _).mono ?_
              rintro e w8 ⟨rfl, hb8⟩
              go_wp2_with fail
              go_ret
              exact ⟨rfl, below_step hbw hb8⟩
            · have hb4 : 400 < len4 := by omega
              clear hbig
              go_wp2_with fail
              refine (sane03_c _).mono ?_
              rintro e w8 ⟨rfl, hb8⟩
              go_wp2_with fail
              go_ret
              exact ⟨rfl, below_step hbw hb8⟩
          · have hb3 : len3 ≤ 200 := by omega
            have hb4 : len4 ≤ 400 := by omega
            clear hbig
            go_wp2_with fail
            refine (pack_c _ _ _ _ _ m3 r3q).mono ?_
            rintro e w8 ⟨v8, rfl, own8, hb8⟩
            obtain ⟨A8, c8, rfl, _, _⟩ := own_form own8
            have r3a := r3q.below hb8
            have r4a := r4q.below hb8
            have hba := below_step hbw hb8
            clear r3q r4q hb8 hbw
            go_wp2_with fail
            refine (pack_r _ _ _ _ _ m3 r3a).mono ?_
            rintro e w9 ⟨v9, rfl, own9, hb9⟩
            obtain ⟨A9, c9, rfl, k9, k9'⟩ := own_form own9
            have r4b := r4a.below hb9
            have own8b := own_below own8 hb9
            have hbb := below_step hba hb9
            clear r3a r4a hb9 hba own8
            go_wp2_with fail
            refine (unpack_c _ _ _ _ _ m4 r4b Hb4.out).mono ?_
            rintro e w10 ⟨v10, u10, rfl, own10, own10', _, hb10⟩
            obtain ⟨A10, c10, rfl, k10, k10'⟩ := own_form own10
            obtain ⟨B10, d10, rfl, l10, l10'⟩ := own_form own10'
            have r4c := r4b.below hb10
            have own8c := own_below own8b hb10
            have own9c := own_below own9 hb10
            have hbc := below_step hbb hb10
            clear r4b hb10 hbb own8b own9
            go_wp2_with fail
            refine (unpack_r _ _ _ _ _ m4 r4c Hb4.out).mono ?_
            rintro e w11 ⟨v11, u11, rfl, own11, own11', _, hb11⟩
            obtain ⟨A11, c11, rfl, _, _⟩ := own_form own11
            obtain ⟨B11, d11, rfl, _, _⟩ := own_form own11'
            have own8d := own_below own8c hb11
            have own9d := own_below own9c hb11
            have own10d := own_below own10 hb11
            have own10d' := own_below own10' hb11
            have hbd := below_step hbc hb11
            clear r4c hb11 hbc own8c own9c own10 own10'
            go_wp2_with fail
            refine (bytes_eq _ _ _ _ _ _ _ _ (Nat.le_trans k9 k9') (own_IR own8d) (own_IR own9d)).mono ?_
            rintro e w12 ⟨rfl, hb12⟩
            have own10e := own_below own10d hb12
            have own10e' := own_below own10d' hb12
            have own11e := own_below own11 hb12
            have own11e' := own_below own11' hb12
            have hbe := below_step hbd hb12
            clear hb12 hbd own8d own9d own10d own10d' own11 own11'
            go_wp2_with fail
            refine (ints_eq _ _ _ _ _ _ _ _ (Nat.le_trans k10 k10') (own_IR own10e) (own_IR own11e)).mono ?_
            rintro e w13 ⟨rfl, hb13⟩
            have own10f := own_below own10e' hb13
            have own11f := own_below own11e' hb13
            have hbf := below_step hbe hb13
            clear hb13 hbe own10e own10e' own11e own11e'
            go_wp2_with fail
            refine (ints_eq _ _ _ _ _ _ _ _ (Nat.le_trans l10 l10') (own_IR own10f) (own_IR own11f)).mono ?_
            rintro e w14 ⟨rfl, hb14⟩
            have hbg := below_step hbf hb14
            clear hb14 hbf own10f own11f
            go_wp2_with fail
            refine (sane03_c _).mono ?_
            rintro e w15 ⟨rfl, hb15⟩
            go_wp2_with fail
            go_ret
            exact ⟨rfl, below_step hbg hb15⟩
end Go.Proofs.Ytblejpiddjfabaa
