/- The lengths of pieces and words. -/
import Derived.Test.YtiegpkbollihgaaDoorTxNum
namespace Go.Proofs.YtiegpkbollihgaaDoor
namespace Tx
theorem pieceLen (c : UInt8) : ∀ (l : List UInt8), ∀ p ∈ cutAt c l, p.length ≤ l.length := by
  intro l
  induction l with
  | nil => intro p hp; simp [cutAt] at hp; subst hp; simp
  | cons b r ih =>
    intro p hp
    by_cases hb : b = c
    · subst hb
      rw [cut_hit, List.mem_cons] at hp
      rcases hp with rfl | hp
      · simp
      · have := ih p hp; rw [List.length_cons]; omega
    · rw [cut_miss hb] at hp
      have hne := cutAt_ne c r
      cases hc : cutAt c r with
      | nil => exact absurd hc hne
      | cons a t =>
        rw [hc] at hp ih
        simp only [glue, List.mem_cons] at hp
        rcases hp with rfl | hp
        · have := ih a List.mem_cons_self
          simp
          omega
        · have := ih p (List.mem_cons_of_mem _ hp)
          rw [List.length_cons]; omega
theorem word_len (l : List UInt8) : ∀ p ∈ words l, p.length ≤ l.length ∧ p ≠ [] := by
  intro p hp
  unfold words at hp
  rw [List.mem_filter] at hp
  exact ⟨pieceLen 32 l p hp.1, fun e => by rw [e] at hp; exact absurd hp.2 (by decide)⟩
end Tx
end Go.Proofs.YtiegpkbollihgaaDoor
