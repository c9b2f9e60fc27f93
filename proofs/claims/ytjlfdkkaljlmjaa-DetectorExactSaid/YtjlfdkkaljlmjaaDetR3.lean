/- The reference of layer 4: mark, small, Encode. -/
import Derived.Test.YtjlfdkkaljlmjaaDetR2
import Derived.Test.YtjlfdkkaljlmjaaHamR2
import Derived.Test.YtjlfdkkaljlmjaaDetLaws2
namespace Go.Proofs.Ytjlfdkkaljlmjaa
open Go.RowKit
theorem rmark_c (v : Int) (w : World) : Calls Try.prog 69 #[.int .i64 v] w fun e w' => e = .returned (.bool (Det.mark v)) ∧ w = w' := by
  by_cases h : 1537 ≤ v
  · by_cases h2 : v ≤ 1544
    · have e2 : Det.mark v = true := by simp [Det.mark]; omega
      go_enter Try.func69, Try.ntmps69
      go_wp2
      go_ret
      exact ⟨by rw [e2]; rfl, rfl⟩
    · have e2 : Det.mark v = false := by simp [Det.mark]; omega
      go_enter Try.func69, Try.ntmps69
      go_wp2
      go_ret
      exact ⟨rfl, rfl⟩
  · have e1 : decide (1537 ≤ v) = false := by simp; omega
    have e2 : Det.mark v = false := by simp [Det.mark]; omega
    go_enter Try.func69, Try.ntmps69
    go_wp2
    go_ret
    exact ⟨rfl, rfl⟩
theorem rsmall_c (v : Int) (w : World) : Calls Try.prog 76 #[.int .i64 v] w fun e w' => e = .returned (.bool (Det.small v)) ∧ w = w' := by
  by_cases h : 0 ≤ v
  · by_cases h2 : v ≤ 1023
    · have e2 : Det.small v = true := by simp [Det.small]; omega
      go_enter Try.func76, Try.ntmps76
      go_wp2
      go_ret
      exact ⟨by rw [e2]; rfl, rfl⟩
    · have e2 : Det.small v = false := by simp [Det.small]; omega
      go_enter Try.func76, Try.ntmps76
      go_wp2
      go_ret
      exact ⟨rfl, rfl⟩
  · have e1 : decide (0 ≤ v) = false := by simp; omega
    have e2 : Det.small v = false := by simp [Det.small]; omega
    go_enter Try.func76, Try.ntmps76
    go_wp2
    go_ret
    exact ⟨rfl, rfl⟩
end Go.Proofs.Ytjlfdkkaljlmjaa
