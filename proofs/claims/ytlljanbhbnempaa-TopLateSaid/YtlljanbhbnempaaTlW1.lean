/- The walks of codes: in, form, missed, ones, Steps. -/
import Derived.Test.YtlljanbhbnempaaMem
import Derived.Test.YtlljanbhbnempaaBits
import Derived.Test.YtlljanbhbnempaaTlSolve
import Derived.Deep.DeepMust
namespace Go.Proofs.Ytlljanbhbnempaa
open Go.RowKit
namespace Tl
theorem and_double (a c : Nat) : (2 * a) &&& (2 * c + 1) = 2 * (a &&& c) := by
  have h1 : ((2 * a) &&& (2 * c + 1)) / 2 = a &&& c := by rw [Nat.and_div_two]; congr 1 <;> omega
  have h2 : ((2 * a) &&& (2 * c + 1)) % 2 = 0 := by
    have := Nat.and_mod_two_pow (n := 1) (a := 2 * a) (b := 2 * c + 1)
    rw [Nat.pow_one] at this
    rw [this, show 2 * a % 2 = 0 by omega, Nat.zero_and]
  omega
theorem and_odd (a : Nat) : (2 * a + 1) &&& (2 * a) = 2 * a := by
  rw [Nat.and_comm, and_double, Nat.and_self]
theorem ones_kern : ∀ (f x : Nat), 0 < x → x < 2 ^ f → ones f (x &&& (x - 1)) + 1 = ones f x
  | 0, x, h0, h => by simp at h; omega
  | f + 1, x, h0, h => by
    rw [Nat.pow_succ] at h
    rcases Nat.mod_two_eq_zero_or_one x with e | e
    · obtain ⟨q, rfl⟩ : ∃ q, x = 2 * q := ⟨x / 2, by omega⟩
      have ih := ones_kern f q (by omega) (by omega)
      rw [show 2 * q - 1 = 2 * (q - 1) + 1 by omega, and_double]
      unfold ones
      rw [show 2 * (q &&& (q - 1)) % 2 = 0 by omega, show 2 * (q &&& (q - 1)) / 2 = q &&& (q - 1) by omega, show 2 * q % 2 = 0 by omega, show 2 * q / 2 = q by omega]
      omega
    · obtain ⟨q, rfl⟩ : ∃ q, x = 2 * q + 1 := ⟨x / 2, by omega⟩
      rw [show 2 * q + 1 - 1 = 2 * q by omega, and_odd]
      unfold ones
      rw [show 2 * q % 2 = 0 by omega, show 2 * q / 2 = q by omega, show (2 * q + 1) % 2 = 1 by omega, show (2 * q + 1) / 2 = q by omega]
      omega
theorem pop_kern {x : Nat} (h0 : 0 < x) (h : x < 65536) : pop (x &&& (x - 1)) + 1 = pop x :=
  ones_kern 64 x h0 (by omega)
theorem pop_zero : pop 0 = 0 := ones_zero 64
theorem and_less {x : Nat} (h : 0 < x) : (x &&& (x - 1)) < x := Nat.lt_of_le_of_lt Nat.and_le_right (by omega)
theorem pop_le64 (x : Nat) : pop x ≤ 64 := ones_le 64 x
/-- The bit length of a code. -/
def blenGo : Nat → Nat → Nat
  | 0, _ => 0
  | f + 1, k => if k = 0 then 0 else blenGo f (k / 2) + 1
def blen (k : Nat) : Nat := blenGo 64 k
theorem blenGo_spec : ∀ (f k S : Nat), k < 2 ^ f → (blenGo f k ≤ S ↔ k < 2 ^ S)
  | 0, k, S, h => by
    have : k = 0 := by simpa using h
    subst this
    simp [blenGo, Nat.two_pow_pos]
  | f + 1, k, S, h => by
    unfold blenGo
    by_cases e : k = 0
    · rw [if_pos e]; simp [e, Nat.two_pow_pos]
    · rw [if_neg e]
      rw [Nat.pow_succ] at h
      cases S with
      | zero => simp; omega
      | succ S =>
        have := blenGo_spec f (k / 2) S (by omega)
        rw [Nat.pow_succ]
        omega
theorem blen_spec {k : Nat} (h : k < 65536) (S : Nat) : blen k ≤ S ↔ k < 2 ^ S := blenGo_spec 64 k S (by omega)
theorem blen_le {k : Nat} (h : k < 4096) : blen k ≤ 12 := (blen_spec (by omega) 12).2 h
theorem blen_mono {a b : Nat} (h : a ≤ b) (hb : b < 65536) : blen a ≤ blen b :=
  (blen_spec (by omega) _).2 (Nat.lt_of_le_of_lt h ((blen_spec hb _).1 (Nat.le_refl _)))
end Tl
theorem jin_c (n lo hi : Int) (w : World) : Calls Try.prog 20 #[.int .i64 n, .int .i64 lo, .int .i64 hi] w fun e w' => e = .returned (.bool (decide (lo ≤ n ∧ n ≤ hi))) ∧ w = w' := by
  by_cases h : lo ≤ n
  · by_cases h2 : n ≤ hi
    · have e : decide (lo ≤ n ∧ n ≤ hi) = true := by simp; omega
      rw [e]
      go_enter Try.func20, Try.ntmps20
      go_wp2
      go_ret
      exact ⟨rfl, rfl⟩
    · have e : decide (lo ≤ n ∧ n ≤ hi) = false := by simp; omega
      rw [e]
      go_enter Try.func20, Try.ntmps20
      go_wp2
      go_ret
      exact ⟨rfl, rfl⟩
  · have e : decide (lo ≤ n ∧ n ≤ hi) = false := by simp; omega
    rw [e]
    go_enter Try.func20, Try.ntmps20
    go_wp2
    go_ret
    exact ⟨rfl, rfl⟩
theorem cin_c (n lo hi : Int) (w : World) : Calls Try.prog 25 #[.int .i64 n, .int .i64 lo, .int .i64 hi] w fun e w' => e = .returned (.bool (decide (lo ≤ n ∧ n ≤ hi))) ∧ w = w' := by
  by_cases h : lo ≤ n
  · by_cases h2 : n ≤ hi
    · have e : decide (lo ≤ n ∧ n ≤ hi) = true := by simp; omega
      rw [e]
      go_enter Try.func25, Try.ntmps25
      go_wp2
      go_ret
      exact ⟨rfl, rfl⟩
    · have e : decide (lo ≤ n ∧ n ≤ hi) = false := by simp; omega
      rw [e]
      go_enter Try.func25, Try.ntmps25
      go_wp2
      go_ret
      exact ⟨rfl, rfl⟩
  · have e : decide (lo ≤ n ∧ n ≤ hi) = false := by simp; omega
    rw [e]
    go_enter Try.func25, Try.ntmps25
    go_wp2
    go_ret
    exact ⟨rfl, rfl⟩
/-- The test of a form, at weights and rounds in their ranges. -/
theorem form_c (r : Int) (k : Nat) (hk : k ≤ 12) (w : World) : Calls Try.prog 34 #[.int .i64 r, .int .i64 k] w fun e w' => e = .returned (.bool (decide (0 ≤ r ∧ r ≤ 12))) ∧ w = w' := by
  have e1 : decide ((0 : Int) ≤ (k : Int) ∧ (k : Int) ≤ 12) = true := by simp; omega
  by_cases h : 0 ≤ r ∧ r ≤ 12
  · have e : decide (0 ≤ r ∧ r ≤ 12) = true := by simp; omega
    have H := Lib.hid (cin_c r 0 12)
    rw [e]
    rw [e] at H
    go_enter Try.func34, Try.ntmps34
    go_wp2_with (first
      | (go_at_call 25; with_reducible refine (H.out _).mono ?_; rintro e w1 ⟨rfl, rfl⟩)
      | (go_at_call 25; refine (cin_c _ _ _ _).mono ?_; rintro e w1 ⟨rfl, rfl⟩))
    go_ret
    refine ⟨?_, rfl⟩
    first
      | rfl
      | (simp; omega)
  · have e : decide (0 ≤ r ∧ r ≤ 12) = false := by simp; omega
    have H := Lib.hid (cin_c r 0 12)
    rw [e]
    rw [e] at H
    go_enter Try.func34, Try.ntmps34
    go_wp2_with (first
      | (go_at_call 25; with_reducible refine (H.out _).mono ?_; rintro e w1 ⟨rfl, rfl⟩)
      | (go_at_call 25; refine (cin_c _ _ _ _).mono ?_; rintro e w1 ⟨rfl, rfl⟩))
    go_ret
    exact ⟨rfl, rfl⟩
theorem missed_c (r : Nat) (hr : r ≤ 12) (w : World) : Calls Try.prog 35 #[.int .i64 r] w fun e w' => e = .returned (.int .i64 (Tl.mis r : Nat)) ∧ w' = w := by
  have h1 : wrap64 (2 ^ r) = ((2 ^ r : Nat) : Int) := by
    have := i64_one_shl r (by omega)
    rwa [Nat.min_eq_left (by omega)] at this
  have h2 := Tl.mis_pos r
  have h3 : 2 ^ r ≤ 2 ^ 12 := Nat.pow_le_pow_right (by decide) hr
  have H1 := Lib.hid h1
  have H2 := Lib.hid h2
  have H3 := Lib.hid h3
  clear h1 h2 h3
  go_enter Try.func35, Try.ntmps35
  go_wp2
  go_ret
  refine ⟨retv ?_, rfl⟩
  have h2 := H2.out
  have h3 := H3.out
  rw [H1.out, show (((2 ^ r : Nat) : Int) - 1) = ((Tl.mis r : Nat) : Int) by omega]
  exact IntWalk.wrap64_in _ ⟨by omega, by omega⟩
set_option maxHeartbeats 400000 in
theorem cones_c (n : Nat) (hn : n < 65536) (w : World) :
    Calls Try.prog 36 #[.int .i64 n] w fun e w' => e = .returned (.int .i64 (Tl.pop n : Nat)) ∧ w = w' := by
  go_enter Try.func36, Try.ntmps36
  go_wp2
  go_loop [0, 3] (fun t c => ∃ x m : Nat, x < 65536 ∧ t = .int .i64 x ∧ c = .int .i64 m ∧ m + Tl.pop x = Tl.pop n) (fun t _ => (intOf t).toNat)
  case atStart => exact ⟨n, 0, hn, rfl, rfl, by omega⟩
  case round =>
    obtain ⟨x, m, hx, rfl, rfl, hm⟩ := hrel
    have hp := Tl.pop_le64 n
    have hm16 : m ≤ 64 := by omega
    have Hm := Lib.hid hm
    clear hm
    by_cases h0 : x = 0
    · subst h0
      go_wp2
      go_ret
      refine ⟨retv ?_, rfl⟩
      have := Hm.out
      rw [Tl.pop_zero] at this
      omega
    · have h1 : ((x : Int) != 0) = true := by simp; omega
      have hs : ((x : Int) - 1) = ((x - 1 : Nat) : Int) := by omega
      have ha : bits .and .i64 (x : Int) ((x : Int) - 1) = ((x &&& (x - 1) : Nat) : Int) := by rw [hs]; exact i64_and_nat _ _ (by omega) (by omega)
      have hk := Tl.pop_kern (x := x) (by omega) hx
      have hl := Tl.and_less (x := x) (by omega)
      have Ha := Lib.hid ha
      have Hs := Lib.hid hs
      have Hk := Lib.hid hk
      clear ha hs hk
      go_wp2
      go_round
      case rel => exact ⟨x &&& (x - 1), m + 1, by omega, vint Ha.out, by go_num, by have := Hm.out; have := Hk.out; omega⟩
      case measure => rw [Ha.out]; simp [intOf]; omega
end Go.Proofs.Ytlljanbhbnempaa
