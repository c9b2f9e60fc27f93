/- The walks of humpgen's Ints and Lists at lists that read alike. -/
import Derived.Test.YtlljanbhbnempaaLL
namespace Go.Proofs.Ytlljanbhbnempaa
open Go.RowKit
set_option maxHeartbeats 400000 in
theorem ints_q (A B : Option Addr) (n c d : Nat) (l : List Int) (w : World) (hn : n ≤ maxLen) (ha : IR .i64 w A n l) (hb : IR .i64 w B n l) :
    Calls Try.prog 28 #[.slice A n c, .slice B n d] w fun e w' => e = .returned (.bool true) ∧ ∃ q, w' = w.drewN q := by
  unfold maxLen at hn
  go_enter Try.func28, Try.ntmps28
  go_wp2_with fail
  go_loopw [5] (fun p wr => ∃ k : Nat, k ≤ n ∧ p = .int .i64 k ∧ ∃ q, wr = w.drewN q) (fun p _ => n - (intOf p).toNat)
  case atStart => exact ⟨0, by omega, rfl, 0, rfl⟩
  case round =>
    obtain ⟨k, hk, rfl, q, rfl⟩ := hrel
    by_cases hlt : k < n
    · obtain ⟨ad, rfl, _, hca⟩ := ha.at_ hlt
      obtain ⟨bd, rfl, _, hcb⟩ := hb.at_ hlt
      go_wp2_with fail
      go_quiet (fail)
      go_wp2_with fail
      go_roundw
      case rel => exact ⟨k + 1, by omega, by go_num, _, rfl⟩
      case measure => simp [intOf]; omega
    · go_wp2_with fail
      go_ret
      exact ⟨rfl, q, rfl⟩
set_option maxHeartbeats 1000000 in
theorem lists_c (A B : Option Addr) (n c d : Nat) (L : List (List Nat)) (vs vs' : List Value) (w : World) (hn : n ≤ 1000000) (ha : LLR w A n L vs) (hb : LLR w B n L vs') (hL : ∀ i, (L.getD i []).length ≤ 1000000) :
    Calls Try.prog 17 #[.slice A n c, .slice B n d] w fun e w' => e = .returned (.bool true) ∧ Below w.heap.size w w' := by
  go_enter Try.func17, Try.ntmps17
  go_wp2_with fail
  go_loopw [4, 5] (fun v p wr => v = .bool false ∧ ∃ k : Nat, k ≤ n ∧ p = .int .i64 k ∧ Below w.heap.size w wr) (fun _ p _ => n - (intOf p).toNat)
  case atStart => exact ⟨rfl, 0, by omega, rfl, Below.refl _ _⟩
  case round =>
    obtain ⟨rfl, k, hk, rfl, hbr⟩ := hrel
    by_cases hlt : k < n
    · obtain ⟨ad, Ai, ci, rfl, _, k1, h1⟩ := (ha.below hbr).at_ hlt
      obtain ⟨bd, Bi, di, rfl, _, k2, h2⟩ := (hb.below hbr).at_ hlt
      have hm := hL k
      obtain ⟨m, hmE⟩ : ∃ m, (L.getD k []).length = m := ⟨_, rfl⟩
      rw [hmE] at k1 k2 h1 h2 hm
      have HI : Hid (∀ q, Calls Try.prog 28 #[.slice Ai m ci, .slice Bi m di] (wr.drewN q) fun e w' => e = .returned (.bool true) ∧ ∃ p, w' = (wr.drewN q).drewN p) := Lib.hid fun q => ints_q Ai Bi m ci di _ (wr.drewN q) (by unfold maxLen; omega) h1 h2
      clear h1 h2 hmE
      go_wp2_with fail
      go_quiet (first | (go_at_call 28; exact Calls.quiet_of (HI.out _)))
      go_wp2_with fail
      go_roundw
      case rel => exact ⟨rfl, k + 1, by omega, by go_num, below_drewN hbr _⟩
      case measure => simp [intOf]; omega
    · go_wp2_with fail
      go_ret
      exact ⟨rfl, hbr⟩
end Go.Proofs.Ytlljanbhbnempaa
