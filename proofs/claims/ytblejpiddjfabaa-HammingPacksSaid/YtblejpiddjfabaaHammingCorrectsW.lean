/- The walk of 'HammingCorrects', and what the laws of layer 3 share: the contracts at code words, 'sane'. -/
import Derived.Test.YtblejpiddjfabaaHamW1
namespace Go.Proofs.Ytblejpiddjfabaa
open Go.RowKit
theorem encode_word (n : Nat) (hn : n < 2048) (w : World) :
    Calls Try.prog 10 #[.int .i64 n] w fun e w' => e = .returned (.tuple #[.int .i64 (Ham.word n : Nat), .int .i64 0]) ∧ Below w.heap.size w w' :=
  (encode_c n w).mono fun _ _ ⟨he, hb⟩ => ⟨by rw [he, Ham.encV, Ham.encE, if_neg (by omega), if_neg (by omega)]; rfl, hb⟩
theorem decode_nat (x v : Nat) (b e0 : Int) (hx : x < 65536) (h : Ham.decV x = v ∧ Ham.decB x = b ∧ Ham.decE x = e0) (w : World) :
    Calls Try.prog 11 #[.int .i64 x] w fun e w' => e = .returned (.tuple #[.int .i64 v, .int .i64 b, .int .i64 e0]) ∧ Below w.heap.size w w' :=
  (decode_c x w).mono fun _ _ ⟨he, hb⟩ => ⟨by
    rw [he, Ham.dV, Ham.dB, Ham.dE, if_neg (by omega), if_neg (by omega), if_neg (by omega), Int.toNat_natCast, h.1, h.2.1, h.2.2], hb⟩
theorem dec14 : Ham.decV 14 = 1 ∧ Ham.decB 14 = 0 ∧ Ham.decE 14 = 0 := by decide +kernel
theorem dec12 : Ham.decV 12 = 0 ∧ Ham.decB 12 = 0 ∧ Ham.decE 12 = 9 := by decide +kernel
theorem enc1 : Ham.word 1 = 15 := by decide +kernel
theorem encode_1 (w : World) : Calls Try.prog 10 #[.int .i64 1] w fun e w' => e = .returned (.tuple #[.int .i64 15, .int .i64 0]) ∧ Below w.heap.size w w' :=
  (encode_word 1 (by omega) w).mono fun _ _ ⟨he, hb⟩ => ⟨by rw [he, enc1]; rfl, hb⟩
theorem decode_14 (w : World) : Calls Try.prog 11 #[.int .i64 14] w fun e w' => e = .returned (.tuple #[.int .i64 1, .int .i64 0, .int .i64 0]) ∧ Below w.heap.size w w' :=
  decode_nat 14 1 0 0 (by omega) dec14 w
theorem decode_12 (w : World) : Calls Try.prog 11 #[.int .i64 12] w fun e w' => e = .returned (.tuple #[.int .i64 0, .int .i64 0, .int .i64 9]) ∧ Below w.heap.size w w' :=
  decode_nat 12 0 0 9 (by omega) dec12 w
set_option maxHeartbeats 800000 in
theorem sane03_c (w : World) : Calls Try.prog 12 #[] w fun e w' => e = .returned (.bool true) ∧ Below w.heap.size w w' := by
  go_enter Try.func12, Try.ntmps12
  go_wp2_with fail
  refine (encode_1 _).mono ?_
  rintro e w1 ⟨rfl, hb1⟩
  go_wp2_with fail
  refine (decode_14 _).mono ?_
  rintro e w2 ⟨rfl, hb2⟩
  go_wp2_with fail
  refine (decode_12 _).mono ?_
  rintro e w3 ⟨rfl, hb3⟩
  go_wp2_with fail
  go_ret
  exact ⟨rfl, below_step (below_step hb1 hb2) hb3⟩

theorem in2048 (v : Int) : ∃ n : Nat, n < 2048 ∧ ((v.tmod 2048 + 2048) % 2048) = (n : Int) := by
  have := mod_bd (v.tmod 2048 + 2048) 2048 (by omega)
  exact ⟨((v.tmod 2048 + 2048) % 2048).toNat, by omega, by omega⟩
theorem flip_word (x p : Nat) (hx : x < 65536) (hp : p < 16) : bits .xor .i64 (x : Int) (wrap64 (2 ^ p)) = ((x ^^^ 2 ^ p : Nat) : Int) := by
  have h5 := i64_one_shl p (by omega)
  rw [Nat.min_eq_left (by omega)] at h5
  have h6 := Ham.pow16 (show p ≤ 15 by omega)
  rw [h5, i64_xor_nat _ _ (by omega) (by omega)]

set_option linter.unusedVariables false in
set_option maxHeartbeats 1000000 in
theorem walk_HammingCorrects (a0 : Int) (w : World) (w0 : (Lit.int .i64 a0).wf = true) :
    Calls Try.prog 3 #[.int .i64 a0] w fun e w' => e = .returned (.bool true) ∧ Below w.heap.size w w' := by
  obtain ⟨n, hn, hv⟩ := in2048 a0
  have ht := tmod_bd a0 2048 (by omega)
  have Hw := Ham.word_lt n
  have hdc := Lib.hid (Ham.dec_clean n hn)
  go_enter Try.func3, Try.ntmps3
  go_wp2_with fail
  refine (encode_word n hn _).mono ?_
  rintro e w1 ⟨rfl, hb1⟩
  go_wp2_with fail
  refine (decode_nat _ n (-1) 0 Hw hdc.out _).mono ?_
  rintro e w2 ⟨rfl, hb2⟩
  have hb2' := below_step hb1 hb2
  clear hb1 hb2
  go_wp2_with fail
  go_loopw [8, 9, 10, 11] (fun p _ _ _ wr => ∃ k : Nat, k ≤ 16 ∧ p = .int .i64 k ∧ Below w.heap.size w wr) (fun p _ _ _ _ => 16 - (intOf p).toNat)
  case atStart => exact ⟨0, by omega, rfl, hb2'⟩
  case round =>
    obtain ⟨k, hk, rfl, hbr⟩ := hrel
    by_cases hlt : k < 16
    · have hf := flip_word (Ham.word n) k Hw hlt
      have hxl := Ham.xor16 Hw (Ham.pow16 (show k ≤ 15 by omega))
      have hdo := Lib.hid (Ham.dec_one n k hn hlt)
      go_wp2_with fail
      refine (decode_nat _ n k 0 hxl hdo.out _).mono ?_
      rintro e w3 ⟨rfl, hb3⟩
      have hbs := below_step hbr hb3
      clear hb3 hbr
      go_wp2_with fail
      go_roundw
      case rel => exact ⟨k + 1, by omega, by go_num, hbs⟩
      case measure => simp [intOf]; omega
    · obtain rfl : k = 16 := by omega
      go_wp2_with fail
      refine (sane03_c _).mono ?_
      rintro e w3 ⟨rfl, hb3⟩
      go_wp2_with fail
      go_ret
      exact ⟨rfl, below_step hbr hb3⟩
end Go.Proofs.Ytblejpiddjfabaa
