/- The walk of 'HammingCorrects', and what the laws of layer 3 share: the contracts at code words, 'sane'. -/
import Derived.Test.YtjlfdkkaljlmjaaHamW1
namespace Go.Proofs.Ytjlfdkkaljlmjaa
open Go.RowKit
theorem decode_nat (x v : Nat) (b e0 : Int) (hx : x < 65536) (h : Ham.decV x = v ∧ Ham.decB x = b ∧ Ham.decE x = e0) (w : World) :
    Calls Try.prog 64 #[.int .i64 x] w fun e w' => e = .returned (.tuple #[.int .i64 v, .int .i64 b, .int .i64 e0]) ∧ Below w.heap.size w w' :=
  (decode_c x w).mono fun _ _ ⟨he, hb⟩ => ⟨by
    rw [he, Ham.dV, Ham.dB, Ham.dE, if_neg (by omega), if_neg (by omega), if_neg (by omega), Int.toNat_natCast, h.1, h.2.1, h.2.2], hb⟩
theorem dec14 : Ham.decV 14 = 1 ∧ Ham.decB 14 = 0 ∧ Ham.decE 14 = 0 := by decide +kernel
theorem dec12 : Ham.decV 12 = 0 ∧ Ham.decB 12 = 0 ∧ Ham.decE 12 = 9 := by decide +kernel
theorem enc1 : Ham.word 1 = 15 := by decide +kernel
theorem decode_14 (w : World) : Calls Try.prog 64 #[.int .i64 14] w fun e w' => e = .returned (.tuple #[.int .i64 1, .int .i64 0, .int .i64 0]) ∧ Below w.heap.size w w' :=
  decode_nat 14 1 0 0 (by omega) dec14 w
theorem decode_12 (w : World) : Calls Try.prog 64 #[.int .i64 12] w fun e w' => e = .returned (.tuple #[.int .i64 0, .int .i64 0, .int .i64 9]) ∧ Below w.heap.size w w' :=
  decode_nat 12 0 0 9 (by omega) dec12 w
theorem in2048 (v : Int) : ∃ n : Nat, n < 2048 ∧ ((v.tmod 2048 + 2048) % 2048) = (n : Int) := by
  have := mod_bd (v.tmod 2048 + 2048) 2048 (by omega)
  exact ⟨((v.tmod 2048 + 2048) % 2048).toNat, by omega, by omega⟩
theorem flip_word (x p : Nat) (hx : x < 65536) (hp : p < 16) : bits .xor .i64 (x : Int) (wrap64 (2 ^ p)) = ((x ^^^ 2 ^ p : Nat) : Int) := by
  have h5 := i64_one_shl p (by omega)
  rw [Nat.min_eq_left (by omega)] at h5
  have h6 := Ham.pow16 (show p ≤ 15 by omega)
  rw [h5, i64_xor_nat _ _ (by omega) (by omega)]

end Go.Proofs.Ytjlfdkkaljlmjaa
