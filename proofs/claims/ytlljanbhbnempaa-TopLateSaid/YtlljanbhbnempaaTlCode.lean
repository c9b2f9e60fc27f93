/- Codes of sorting schemes, plainly: Next, and that it is monotone. -/
import Derived.ProofKit
namespace Go.Proofs.Ytlljanbhbnempaa
namespace Tl
/-- The code in which the missed bits alone are set. -/
def mis (r : Nat) : Nat := 2 ^ r - 1
theorem mis_pos (r : Nat) : mis r + 1 = 2 ^ r := by unfold mis; have := Nat.two_pow_pos r; omega
/-- The number of bits that are set. -/
def ones : Nat → Nat → Nat
  | 0, _ => 0
  | f + 1, k => k % 2 + ones f (k / 2)
def pop (k : Nat) : Nat := ones 64 k
theorem ones_le : ∀ (f k : Nat), ones f k ≤ f
  | 0, _ => Nat.le_refl 0
  | f + 1, k => by unfold ones; have := ones_le f (k / 2); omega
theorem ones_zero : ∀ f, ones f 0 = 0
  | 0 => rfl
  | f + 1 => by unfold ones; rw [Nat.zero_div, ones_zero f]
theorem ones_more : ∀ (f k : Nat), k < 2 ^ f → ∀ g, ones (f + g) k = ones f k
  | 0, k, h, g => by
    have h0 : k = 0 := by simpa using h
    subst h0
    rw [ones_zero, ones_zero]
  | f + 1, k, h, g => by
    rw [show f + 1 + g = (f + g) + 1 by omega]
    unfold ones
    rw [ones_more f (k / 2) (by rw [Nat.pow_succ] at h; omega) g]
theorem pop_le {k : Nat} (h : k < 4096) : pop k ≤ 12 := by
  have := ones_more 12 k (by simpa using h) 52
  unfold pop
  rw [show (64 : Nat) = 12 + 52 from rfl, this]
  exact ones_le 12 k
/-- The lowest bit that is set. -/
def lowb : Nat → Nat → Nat
  | 0, _ => 0
  | f + 1, k => if k = 0 then 0 else if k % 2 = 1 then 1 else 2 * lowb f (k / 2)
def low (k : Nat) : Nat := lowb 64 k
/-- The real part of the next code. -/
def bump (w : Nat) : Nat → Nat → Option Nat
  | 0, _ => none
  | f + 1, r => if pop r ≤ w then some r else if 4096 ≤ r + low r then none else bump w f (r + low r)
def real0 (least r : Nat) : Nat := if mis r < least then (least - mis r + (2 ^ r - 1)) / 2 ^ r else 0
/-- The least code of a form that is at least least. -/
def next (least r w : Nat) : Option Nat :=
  if 4096 ≤ least then none
  else match bump w 4097 (real0 least r) with
    | none => none
    | some k => if k * 2 ^ r + mis r < 4096 then some (k * 2 ^ r + mis r) else none
/-- The codes without a bound on their bits. -/
def next12 (least r : Nat) : Option Nat := if real0 least r * 2 ^ r + mis r < 4096 then some (real0 least r * 2 ^ r + mis r) else none
theorem real0_ge (least r : Nat) : least ≤ real0 least r * 2 ^ r + mis r := by
  unfold real0
  have hp := Nat.two_pow_pos r
  have hm := mis_pos r
  split
  · rename_i h
    have h1 := Nat.div_add_mod (least - mis r + (2 ^ r - 1)) (2 ^ r)
    have h2 := Nat.mod_lt (least - mis r + (2 ^ r - 1)) hp
    rw [Nat.mul_comm] at h1
    omega
  · omega
theorem real0_least {least r k : Nat} (h : least ≤ k * 2 ^ r + mis r) : real0 least r ≤ k := by
  unfold real0
  have hp := Nat.two_pow_pos r
  split
  · rename_i h1
    rw [Nat.div_le_iff_le_mul_add_pred hp, Nat.mul_comm]
    omega
  · exact Nat.zero_le _
theorem next_12 {least r : Nat} (hl : least < 4096) : next least r 12 = next12 least r := by
  unfold next next12
  rw [if_neg (by omega)]
  by_cases h : real0 least r < 4096
  · have : bump 12 4097 (real0 least r) = some (real0 least r) := by
      unfold bump
      rw [if_pos (pop_le h)]
    rw [this]
  · have hp := Nat.two_pow_pos r
    have hge : ¬ real0 least r * 2 ^ r + mis r < 4096 := by
      have : real0 least r * 1 ≤ real0 least r * 2 ^ r := Nat.mul_le_mul_left _ hp
      omega
    rw [if_neg hge]
    cases hb : bump 12 4097 (real0 least r) with
    | none => rfl
    | some k =>
      have hk : ∀ (f q k : Nat), bump 12 f q = some k → q ≤ k := by
        intro f
        induction f with
        | zero => intro q k e; cases e
        | succ f ih =>
          intro q k e
          unfold bump at e
          split at e
          · cases e; exact Nat.le_refl _
          · split at e
            · cases e
            · have := ih _ _ e; omega
      have h2 := hk _ _ _ hb
      have h3 : real0 least r * 2 ^ r ≤ k * 2 ^ r := Nat.mul_le_mul_right _ h2
      simp only
      rw [if_neg (by omega)]
/-- Forms nest: later rounds and greater bounds give greater codes. -/
theorem next12_mono {a b r s k : Nat} (hab : a ≤ b) (hrs : r ≤ s) (h : next12 b s = some k) : ∃ j, next12 a r = some j ∧ j ≤ k := by
  unfold next12 at h
  split at h
  · rename_i hlt
    cases h
    have hge := real0_ge b s
    have hpr := Nat.two_pow_pos r
    have hms := mis_pos s
    have hmr := mis_pos r
    obtain ⟨d, rfl⟩ := Nat.exists_eq_add_of_le hrs
    -- the code of the later form is one of the earlier form
    have hform : real0 b (r + d) * 2 ^ (r + d) + mis (r + d) = (real0 b (r + d) * 2 ^ d + (2 ^ d - 1)) * 2 ^ r + mis r := by
      have hd := Nat.two_pow_pos d
      have e1 : 2 ^ (r + d) = 2 ^ d * 2 ^ r := by rw [Nat.pow_add, Nat.mul_comm]
      have e2 : (2 ^ d - 1) * 2 ^ r = 2 ^ d * 2 ^ r - 2 ^ r := by rw [Nat.sub_mul, Nat.one_mul]
      have e3 : 2 ^ r ≤ 2 ^ d * 2 ^ r := Nat.le_mul_of_pos_left _ hd
      rw [Nat.add_mul, e2, Nat.mul_assoc, ← e1]
      omega
    have hle := real0_least (least := a) (r := r) (k := real0 b (r + d) * 2 ^ d + (2 ^ d - 1)) (by rw [← hform]; omega)
    have h4 : real0 a r * 2 ^ r ≤ (real0 b (r + d) * 2 ^ d + (2 ^ d - 1)) * 2 ^ r := Nat.mul_le_mul_right _ hle
    refine ⟨real0 a r * 2 ^ r + mis r, ?_, by omega⟩
    unfold next12
    rw [if_pos (by omega)]
  · cases h
theorem next12_ge {a r k : Nat} (h : next12 a r = some k) : a ≤ k ∧ k < 4096 := by
  unfold next12 at h
  split at h
  · cases h
    exact ⟨real0_ge a r, by assumption⟩
  · cases h
/-- A code of a form: the missed bits are set. -/
theorem next12_form {a r k : Nat} (h : next12 a r = some k) : ∃ q, k = q * 2 ^ r + mis r := by
  unfold next12 at h
  split at h
  · cases h
    exact ⟨_, rfl⟩
  · cases h
end Tl
end Go.Proofs.Ytlljanbhbnempaa
