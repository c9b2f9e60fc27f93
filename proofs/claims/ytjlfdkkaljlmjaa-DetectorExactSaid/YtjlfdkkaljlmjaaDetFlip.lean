/- The walk of law 4's flip. -/
import Derived.Test.YtjlfdkkaljlmjaaDetS
import Derived.Test.YtjlfdkkaljlmjaaHamW4
namespace Go.Proofs.Ytjlfdkkaljlmjaa
open Go.RowKit
set_option maxHeartbeats 1000000 in
theorem flip_c (base g n cap i p : Nat) (B : List Int) (w : World) (hn : n ≤ maxLen) (ho : w.ownsRow base 5 1 (.slice (some ⟨g, 0, none⟩) n cap) n (B.map (Value.int .u8))) (hr : ∀ x ∈ B, 0 ≤ x ∧ x < 256) (hi : 2 * i + 1 < n) (hp : p < 16) :
    Calls Try.prog 38 #[.slice (some ⟨g, 0, none⟩) n cap, .int .i64 (i : Int), .int .i64 (p : Int)] w fun e w' => e = .returned (.tuple #[]) ∧ w'.ownsRow base 5 1 (.slice (some ⟨g, 0, none⟩) n cap) n ((Ham.flipB B i p).map (Value.int .u8)) ∧ w.grownBy w' (some g) := by
  unfold maxLen at hn
  have hjd : ∃ j : Nat, j = 2 * i + 1 - p / 8 ∧ j < n := ⟨_, rfl, by omega⟩
  obtain ⟨j, hj, hjn⟩ := hjd
  have hcell := own_cell ho hjn
  have hfz := ho.frozenAt j
  have hbx := Ham.getD_range B hr j
  obtain ⟨y, hy⟩ := Int.eq_ofNat_of_zero_le hbx.1
  have hfl : Ham.flipB B i p = B.set j ((y ^^^ 2 ^ (p % 8) : Nat) : Int) := by rw [Ham.flipB, ← hj, hy, Int.toNat_natCast]
  rw [hy] at hcell hbx
  have hxor := Lib.hid (u8_flip y p (by omega))
  have s1 : IntKind.i64.wrap (2 * (i : Int)) = 2 * (i : Int) := IntWalk.i64_in _ ⟨by omega, by omega⟩
  have s2 : IntKind.i64.wrap (2 * (i : Int) + 1) = 2 * (i : Int) + 1 := IntWalk.i64_in _ ⟨by omega, by omega⟩
  have s3 : IntKind.i64.wrap (2 * (i : Int) + 1 - (p : Int) / 8) = (j : Int) := by rw [IntWalk.i64_in _ ⟨by omega, by omega⟩]; omega
  have s4 : 2 * (i : Int) + 1 - (p : Int) / 8 = (j : Int) := by omega
  have Hfl := Lib.hid hfl
  have Hho := Lib.hid ho
  clear hfl hy hj ho
  go_enter Try.func38, Try.ntmps38
  go_wp2_with fail
  go_region
  go_wp2_with fail
  go_end0
  refine ⟨rfl, ?_, ?_⟩
  · rw [Hfl.out, hxor.out]
    exact own_drew (own_set Hho.out _)
  · exact ⟨rfl, rfl, rfl, by simp [World.setCell, World.drew], fun k _ hne => Below.heap_setCell w ⟨g, j, none⟩ _ k (fun e => hne (by rw [e]))⟩
end Go.Proofs.Ytjlfdkkaljlmjaa
