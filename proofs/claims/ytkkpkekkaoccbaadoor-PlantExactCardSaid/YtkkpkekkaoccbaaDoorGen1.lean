/- The walks of humpgen's Ints and Bytes at two slices that read alike. -/
import Derived.Test.YtkkpkekkaoccbaaDoorMem
namespace Go.Proofs.YtkkpkekkaoccbaaDoor
open Go.RowKit
theorem sl_int : SlT Tryd.prog 22 3 1 8 := slT_of (z := .int .i64 0) Tryd.underlying22 (by kernel_rfl) rfl (by omega)
theorem sl_u8 : SlT Tryd.prog 51 5 1 1 := slT_of (z := .int .u8 0) Tryd.underlying51 (by kernel_rfl) rfl (by omega)
set_option maxHeartbeats 400000 in
theorem ints_eq (A B : Option Addr) (n m c d : Nat) (l : List Int) (w : World) (hn : n ≤ maxLen) (ha : IR .i64 w A n l) (hb : IR .i64 w B m l) :
    Calls Tryd.prog 33 #[.slice A n c, .slice B m d] w fun e w' => e = .returned (.bool true) ∧ Below w.heap.size w w' := by
  unfold maxLen at hn
  obtain rfl : m = n := by rw [← ha.len, ← hb.len]
  go_enter Tryd.func33, Tryd.ntmps33
  go_wp2_with fail
  go_loopw [5] (fun p wr => ∃ k : Nat, k ≤ m ∧ p = .int .i64 k ∧ Below w.heap.size w wr) (fun p _ => m - (intOf p).toNat)
  case atStart => exact ⟨0, by omega, rfl, Below.refl _ _⟩
  case round =>
    obtain ⟨k, hk, rfl, hbr⟩ := hrel
    by_cases hlt : k < m
    · obtain ⟨ad, rfl, hba, hca⟩ := ha.at_ hlt
      obtain ⟨bd, rfl, hbb, hcb⟩ := hb.at_ hlt
      have hca' := IR.cell hca hba hbr
      have hcb' := IR.cell hcb hbb hbr
      clear hca hcb
      go_wp2_with fail
      go_quiet (fail)
      go_wp2_with fail
      go_roundw
      case rel => exact ⟨k + 1, by omega, by go_num, below_drewN hbr _⟩
      case measure => simp [intOf]; omega
    · go_wp2_with fail
      go_ret
      exact ⟨rfl, hbr⟩
end Go.Proofs.YtkkpkekkaoccbaaDoor
