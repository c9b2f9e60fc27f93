/- The walk of 'HammingFinds'. -/
import Derived.Test.YtblejpiddjfabaaHammingCorrectsW
import Derived.Deep.RegionWith
namespace Go.Proofs.Ytblejpiddjfabaa
open Go.RowKit
theorem flip_word' (x p : Nat) (hx : x < 65536) (hp : p < 16) : bits .xor .i64 (x : Int) (IntKind.i64.wrap (2 ^ p)) = ((x ^^^ 2 ^ p : Nat) : Int) := by
  rw [IntWalk.i64_left]
  exact flip_word x p hx hp
set_option linter.unusedVariables false in
set_option maxHeartbeats 1000000 in
theorem walk_HammingFinds (a0 : Int) (w : World) (w0 : (Lit.int .i64 a0).wf = true) :
    Calls Try.prog 4 #[.int .i64 a0] w fun e w' => e = .returned (.bool true) ∧ Below w.heap.size w w' := by
  obtain ⟨n, hn, hv⟩ := in2048 a0
  have ht := tmod_bd a0 2048 (by omega)
  have Hw := Ham.word_lt n
  go_enter Try.func4, Try.ntmps4
  go_wp2_with fail
  refine (encode_word n hn _).mono ?_
  rintro e w1 ⟨rfl, hb1⟩
  go_wp2_with fail
  go_loopw [5, 6, 7, 8, 9] (fun p _ _ _ _ wr => ∃ k : Nat, k ≤ 16 ∧ p = .int .i64 k ∧ Below w.heap.size w wr) (fun p _ _ _ _ _ => 16 - (intOf p).toNat)
  case atStart => exact ⟨0, by omega, rfl, hb1⟩
  case round =>
    obtain ⟨k, hk, rfl, hbr⟩ := hrel
    obtain ⟨wo, rfl⟩ : ∃ wo : World, wo = wr := ⟨_, rfl⟩
    by_cases hlt : k < 16
    · have hB : decide ((k : Int) < 16) = true := by simp; omega
      have hf := flip_word' (Ham.word n) k Hw hlt
      have hxl := Ham.xor16 Hw (Ham.pow16 (show k ≤ 15 by omega))
      go_wp2_with fail
      go_loopw [6, 7, 8, 9] (fun q _ _ _ wr => ∃ j : Nat, j ≤ k ∧ q = .int .i64 j ∧ Below w.heap.size w wr) (fun q _ _ _ _ => k - (intOf q).toNat)
      case atStart => exact ⟨0, by omega, rfl, hbr⟩
      case round =>
        obtain ⟨j, hj, rfl, hbj⟩ := hrel
        by_cases hjl : j < k
        · have hf2 := flip_word' (Ham.word n ^^^ 2 ^ k) j hxl (by omega)
          have hxl2 := Ham.xor16 hxl (Ham.pow16 (show j ≤ 15 by omega))
          have hdo := Lib.hid (Ham.dec_two n k j hn hlt (by omega) (by omega))
          go_wp2_with fail
          go_region_with ((go_at_call 11; refine (decode_nat _ 0 0 9 hxl2 hdo.out _).mono ?_; rintro e w3 ⟨rfl, hb3⟩))
          have hbs := below_step hbj (below_drew' hb3)
          clear hb3 hbj
          go_wp2_with fail
          go_roundw
          case rel => exact ⟨j + 1, by omega, by go_num, hbs⟩
          case measure => simp [intOf]; omega
        · obtain rfl : j = k := by omega
          go_wp2_with fail
          go_roundw
          case rel => exact ⟨j + 1, by omega, by go_num, hbj⟩
          case measure => simp [intOf]; omega
    · obtain rfl : k = 16 := by omega
      go_wp2_with fail
      refine (sane03_c _).mono ?_
      rintro e w3 ⟨rfl, hb3⟩
      go_wp2_with fail
      go_ret
      exact ⟨rfl, below_step hbr hb3⟩
end Go.Proofs.Ytblejpiddjfabaa
