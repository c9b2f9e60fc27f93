/- The pulses of a train over two detectors, plainly. -/
import Derived.Test.YtocohkgdkebmdaaGreatDetPlain
namespace Go.Proofs.YtocohkgdkebmdaaGreat
namespace Ax
/-- The times of the axles: the first d distances are passed. -/
def tms (sp : Nat) (d : List Nat) : Nat → Nat
  | 0 => 5000
  | i + 1 => tms sp d i + d.getD i 0 * sp
theorem tms_lt {sp : Nat} {d : List Nat} (hsp : 1 ≤ sp) {i : Nat} (h : 1 ≤ d.getD i 0) : tms sp d i < tms sp d (i + 1) := by
  show tms sp d i < tms sp d i + d.getD i 0 * sp
  have := Nat.mul_le_mul h hsp
  omega
theorem tms_mono (sp : Nat) (d : List Nat) (i : Nat) : tms sp d i ≤ tms sp d (i + 1) := Nat.le_add_right _ _
theorem tms_monos (sp : Nat) (d : List Nat) {i : Nat} : ∀ k, tms sp d i ≤ tms sp d (i + k)
  | 0 => Nat.le_refl _
  | k + 1 => Nat.le_trans (tms_monos sp d k) (tms_mono sp d (i + k))
theorem tms_le {sp : Nat} {d : List Nat} (hsp : sp ≤ 9) (hd : ∀ i, d.getD i 0 ≤ 4000) : ∀ i, tms sp d i ≤ 5000 + 36000 * i
  | 0 => Nat.le_refl _
  | i + 1 => by
    have h1 := tms_le hsp hd i
    have h2 := Nat.mul_le_mul (hd i) hsp
    show tms sp d i + d.getD i 0 * sp ≤ _
    omega
/-- What is laid after i pulses of the first and j of the second detector. -/
structure Mrg (sp : Nat) (d : List Nat) (m i j : Nat) (p : List V3) : Prop where
  ji : j ≤ i
  im : i ≤ m
  len : p.length = i + j
  ok : Det.vGo p none = 0
  b1 : i < m → ∀ q ∈ p, q.b ≤ (tms sp d i : Int)
  b2 : j < m → ∀ q ∈ p, q.b ≤ (tms sp d j + 50 * sp : Nat)
  f0 : (p.filter fun q => decide (q.a = 0)) = (List.range i).map fun x => (⟨0, tms sp d x, 1⟩ : V3)
  f1 : (p.filter fun q => !decide (q.a = 0)) = (List.range j).map fun x => (⟨1, (tms sp d x + 50 * sp : Nat), 1⟩ : V3)
theorem Mrg.start (sp : Nat) (d : List Nat) (m : Nat) : Mrg sp d m 0 0 [] :=
  ⟨Nat.le_refl _, Nat.zero_le _, rfl, rfl, fun _ q h => absurd h (by simp), fun _ q h => absurd h (by simp), rfl, rfl⟩
theorem Mrg.first {sp m i j : Nat} {d : List Nat} {p : List V3} (h : Mrg sp d m i j p) (hi : i < m) (hc : tms sp d i ≤ tms sp d j + 50 * sp) (hb : tms sp d i ≤ 1000000000) : Mrg sp d m (i + 1) j (p ++ [⟨0, tms sp d i, 1⟩]) := by
  refine ⟨by have := h.ji; omega, hi, by rw [List.length_append, h.len]; simp; omega, Det.vGo_snoc _ ?_ p none h.ok (h.b1 hi) (by simp), fun _ q hq => ?_, fun hj q hq => ?_, ?_, ?_⟩
  · simp [Det.okP]; omega
  · rcases List.mem_append.1 hq with hq | hq
    · have := h.b1 hi q hq
      have := tms_mono sp d i
      omega
    · rw [List.mem_singleton.1 hq]
      have := tms_mono sp d i
      show ((tms sp d i : Nat) : Int) ≤ _
      omega
  · rcases List.mem_append.1 hq with hq | hq
    · exact h.b2 hj q hq
    · rw [List.mem_singleton.1 hq]
      show ((tms sp d i : Nat) : Int) ≤ _
      omega
  · rw [List.filter_append, h.f0, List.range_succ, List.map_append]
    rfl
  · rw [List.filter_append, h.f1]
    simp
theorem Mrg.second {sp m i j : Nat} {d : List Nat} {p : List V3} (h : Mrg sp d m i j p) (hj : j < m) (hc : i < m → tms sp d j + 50 * sp < tms sp d i) (hb : tms sp d j + 50 * sp ≤ 1000000000) : Mrg sp d m i (j + 1) (p ++ [⟨1, (tms sp d j + 50 * sp : Nat), 1⟩]) := by
  have hji := h.ji
  have hne : j < i := by
    rcases Nat.lt_or_ge i m with h1 | h1
    · rcases Nat.lt_or_ge j i with h2 | h2
      · exact h2
      · obtain rfl : i = j := by omega
        have := hc h1
        omega
    · omega
  refine ⟨hne, h.im, by rw [List.length_append, h.len]; simp; omega, Det.vGo_snoc _ ?_ p none h.ok (h.b2 hj) (by simp), fun hi q hq => ?_, fun _ q hq => ?_, ?_, ?_⟩
  · simp [Det.okP]; omega
  · rcases List.mem_append.1 hq with hq | hq
    · exact h.b1 hi q hq
    · rw [List.mem_singleton.1 hq]
      have := hc hi
      show ((tms sp d j + 50 * sp : Nat) : Int) ≤ _
      omega
  · have hm := tms_mono sp d j
    rcases List.mem_append.1 hq with hq | hq
    · have := h.b2 hj q hq
      omega
    · rw [List.mem_singleton.1 hq]
      show ((tms sp d j + 50 * sp : Nat) : Int) ≤ _
      omega
  · rw [List.filter_append, h.f0]
    simp
  · rw [List.filter_append, h.f1, List.range_succ, List.map_append]
    rfl
/-- A distance is what was measured. -/
theorem measured {sp : Nat} (d : List Nat) (hsp : 1 ≤ sp) (i : Nat) : (tms sp d (i + 1) - tms sp d i) * 50 / (tms sp d i + 50 * sp - tms sp d i) = d.getD i 0 := by
  show (tms sp d i + d.getD i 0 * sp - tms sp d i) * 50 / (tms sp d i + 50 * sp - tms sp d i) = d.getD i 0
  rw [Nat.add_sub_cancel_left, Nat.add_sub_cancel_left, Nat.mul_assoc, Nat.mul_comm sp 50]
  exact Nat.mul_div_cancel _ (by omega)
end Ax
end Go.Proofs.YtocohkgdkebmdaaGreat
