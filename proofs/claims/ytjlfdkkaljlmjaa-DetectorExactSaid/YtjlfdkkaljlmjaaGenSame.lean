/- humpgen's Pulses and Intervals at two slices that read alike. -/
import Derived.Test.YtjlfdkkaljlmjaaV3
import Derived.Test.YtjlfdkkaljlmjaaV2
import Derived.Laws.StructEq
namespace Go.Proofs.Ytjlfdkkaljlmjaa
open Go.RowKit
set_option maxHeartbeats 400000 in
theorem gpulses_eq (A B : Option Addr) (n m c d : Nat) (l : List V3) (w : World) (hn : n ≤ maxLen) (ha : VR w A n l) (hb : VR w B m l) :
    Calls Try.prog 34 #[.slice A n c, .slice B m d] w fun e w' => e = .returned (.bool true) ∧ Below w.heap.size w w' := by
  unfold maxLen at hn
  obtain rfl : m = n := by rw [← ha.len, ← hb.len]
  go_enter Try.func34, Try.ntmps34
  go_wp2_with fail
  go_loopw [5] (fun p wr => ∃ k : Nat, k ≤ m ∧ p = .int .i64 k ∧ Below w.heap.size w wr) (fun p _ => m - (intOf p).toNat)
  case atStart => exact ⟨0, by omega, rfl, Below.refl _ _⟩
  case round =>
    obtain ⟨k, hk, rfl, hbr⟩ := hrel
    by_cases hlt : k < m
    · obtain ⟨ad, p, rfl, _, hp, c1, c2, c3⟩ := ha.at_ hlt
      obtain ⟨bd, q, rfl, _, hq, d1, d2, d3⟩ := hb.at_ hlt
      obtain rfl := Option.some.inj (hp.symm.trans hq)
      have c1' := keep_cell hbr c1
      have c2' := keep_cell hbr c2
      have c3' := keep_cell hbr c3
      have d1' := keep_cell hbr d1
      have d2' := keep_cell hbr d2
      have d3' := keep_cell hbr d3
      clear c1 c2 c3 d1 d2 d3 hp hq
      obtain ⟨pa, pb, pc⟩ := p
      simp only at *
      go_wp2_with fail
      go_quiet (fail)
      go_wp2_with fail
      go_roundw
      case rel => exact ⟨k + 1, by omega, by go_num, below_drewN hbr _⟩
      case measure => simp [intOf]; omega
    · go_wp2_with fail
      go_ret
      exact ⟨rfl, hbr⟩
set_option maxHeartbeats 400000 in
theorem givs_eq (A B : Option Addr) (n m c d : Nat) (l : List (Int × Int)) (w : World) (hn : n ≤ maxLen) (ha : PR w A n l) (hb : PR w B m l) :
    Calls Try.prog 42 #[.slice A n c, .slice B m d] w fun e w' => e = .returned (.bool true) ∧ Below w.heap.size w w' := by
  unfold maxLen at hn
  obtain rfl : m = n := by rw [← ha.len, ← hb.len]
  go_enter Try.func42, Try.ntmps42
  go_wp2_with fail
  go_loopw [5] (fun p wr => ∃ k : Nat, k ≤ m ∧ p = .int .i64 k ∧ Below w.heap.size w wr) (fun p _ => m - (intOf p).toNat)
  case atStart => exact ⟨0, by omega, rfl, Below.refl _ _⟩
  case round =>
    obtain ⟨k, hk, rfl, hbr⟩ := hrel
    by_cases hlt : k < m
    · obtain ⟨ad, p, rfl, _, hp, c1, c2⟩ := ha.at_ hlt
      obtain ⟨bd, q, rfl, _, hq, d1, d2⟩ := hb.at_ hlt
      obtain rfl := Option.some.inj (hp.symm.trans hq)
      have c1' := keep_cell hbr c1
      have c2' := keep_cell hbr c2
      have d1' := keep_cell hbr d1
      have d2' := keep_cell hbr d2
      clear c1 c2 d1 d2 hp hq
      obtain ⟨pa, pb⟩ := p
      simp only at *
      go_wp2_with fail
      go_quiet (fail)
      go_wp2_with fail
      go_roundw
      case rel => exact ⟨k + 1, by omega, by go_num, below_drewN hbr _⟩
      case measure => simp [intOf]; omega
    · go_wp2_with fail
      go_ret
      exact ⟨rfl, hbr⟩
end Go.Proofs.Ytjlfdkkaljlmjaa
