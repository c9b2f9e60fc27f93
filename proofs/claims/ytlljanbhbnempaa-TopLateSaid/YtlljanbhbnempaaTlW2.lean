/- The walks of codes: Steps, Next, Is. -/
import Derived.Test.YtlljanbhbnempaaTlW1
import Derived.BigQuiet
namespace Go.Proofs.Ytlljanbhbnempaa
open Go.RowKit
set_option maxHeartbeats 400000 in
theorem steps_c (n : Nat) (hn : n < 4096) (w : World) :
    Calls Try.prog 15 #[.int .i64 n] w fun e w' => e = .returned (.tuple #[.int .i64 (Tl.blen n : Nat), .int .i64 0]) ∧ w = w' := by
  have hb := Tl.blen_le hn
  have e0 : decide ((0 : Int) ≤ (n : Int) ∧ (n : Int) ≤ 4095) = true := by simp; omega
  have H := Lib.hid (cin_c n 0 4095)
  rw [e0] at H
  clear e0
  go_enter Try.func15, Try.ntmps15
  go_wp2_with (go_at_call 25; with_reducible refine (H.out _).mono ?_; rintro e w1 ⟨rfl, rfl⟩)
  go_loop [0, 4] (fun t c => ∃ x m f : Nat, x < 4096 ∧ x < 2 ^ f ∧ t = .int .i64 x ∧ c = .int .i64 m ∧ m + Tl.blenGo f x = Tl.blen n) (fun t _ => (intOf t).toNat)
  case atStart => exact ⟨n, 0, 64, hn, by omega, rfl, rfl, by unfold Tl.blen; omega⟩
  case round =>
    obtain ⟨x, m, f, hx, hf, rfl, rfl, hm⟩ := hrel
    have hm16 : m ≤ 12 := by omega
    by_cases h0 : x = 0
    · subst h0
      have hz : Tl.blenGo f 0 = 0 := by cases f <;> rfl
      have Hm := Lib.hid hm
      have Hz := Lib.hid hz
      clear hm hz
      go_wp2
      go_ret2
      refine ⟨ret2v ?_ rfl, rfl⟩
      have := Hm.out
      rw [Hz.out] at this
      omega
    · have hs : (x : Int) / 2 = ((x / 2 : Nat) : Int) := by omega
      obtain ⟨g, rfl⟩ : ∃ g, f = g + 1 := ⟨f - 1, by cases f with | zero => simp at hf; omega | succ g => omega⟩
      have hk : Tl.blenGo (g + 1) x = Tl.blenGo g (x / 2) + 1 := by rw [Tl.blenGo, if_neg h0]
      have hf2 : x / 2 < 2 ^ g := by rw [Nat.pow_succ] at hf; omega
      have Hs := Lib.hid hs
      have Hk := Lib.hid hk
      have Hm := Lib.hid hm
      have Hf := Lib.hid hf2
      clear hs hk hm hf hf2
      have h1 : (0 : Int) < (x : Int) := by omega
      go_wp2
      go_round
      case rel => exact ⟨x / 2, m + 1, g, by omega, Hf.out, vint Hs.out, by go_num, by have := Hm.out; have := Hk.out; omega⟩
      case measure => simp [intOf]; omega
namespace Tl
def nextV (a r k : Nat) : Nat := (next a r k).getD 0
def nextE (a r k : Nat) : Int := if (next a r k).isSome then 0 else 15
theorem next_none {a r k : Nat} (h : next a r k = none) : nextV a r k = 0 ∧ nextE a r k = 15 := by
  unfold nextV nextE
  rw [h]
  exact ⟨rfl, rfl⟩
theorem next_some {a r k c : Nat} (h : next a r k = some c) : nextV a r k = c ∧ nextE a r k = 0 := by
  unfold nextV nextE
  rw [h]
  exact ⟨rfl, rfl⟩
end Tl
theorem low_tab : ((List.range 64).all fun a => (List.range 64).all fun b => decide (bits .and .i64 ((64 * a + b : Nat) : Int) (-((64 * a + b : Nat) : Int)) = ((Tl.low (64 * a + b) : Nat) : Int)) && (decide (Tl.low (64 * a + b) ≤ 64 * a + b) && (decide (64 * a + b = 0) || decide (0 < Tl.low (64 * a + b))))) = true := by kernel_rfl
theorem low_at {x : Nat} (hx : x < 4096) (h0 : 0 < x) : bits .and .i64 (x : Int) (-(x : Int)) = ((Tl.low x : Nat) : Int) ∧ Tl.low x ≤ x ∧ 0 < Tl.low x := by
  have h1 := List.all_eq_true.1 low_tab (x / 64) (by simp; omega)
  have h2 := List.all_eq_true.1 h1 (x % 64) (by simp; omega)
  rw [show 64 * (x / 64) + x % 64 = x by omega] at h2
  simp only [Bool.and_eq_true, Bool.or_eq_true, decide_eq_true_eq] at h2
  exact ⟨h2.1, h2.2.1, by omega⟩
theorem real0_at {a r : Nat} (ha : a < 4096) (hr : r ≤ 12) : Tl.real0 a r < 4096 ∧ (Tl.mis r < a → wrap64 (wrap64 ((a : Int) - (Tl.mis r : Nat) + wrap64 (2 ^ r)) - 1) / 2 ^ r = ((Tl.real0 a r : Nat) : Int)) ∧ (a ≤ Tl.mis r → (0 : Int) = ((Tl.real0 a r : Nat) : Int)) := by
  have h2 := Tl.mis_pos r
  have h3 : 2 ^ r ≤ 2 ^ 12 := Nat.pow_le_pow_right (by decide) hr
  have h4 : ((2 : Int) ^ r) = ((2 ^ r : Nat) : Int) := by push_cast; rfl
  have hp := Nat.two_pow_pos r
  unfold Tl.real0
  by_cases h : Tl.mis r < a
  · rw [if_pos h]
    refine ⟨?_, fun _ => ?_, fun h' => by omega⟩
    · rw [Nat.div_lt_iff_lt_mul hp]
      have : 4096 * 1 ≤ 4096 * 2 ^ r := Nat.mul_le_mul_left _ hp
      have h7 : a - Tl.mis r + (2 ^ r - 1) = a := by omega
      omega
    · rw [h4, IntWalk.wrap64_in ((2 ^ r : Nat) : Int) ⟨by omega, by omega⟩, IntWalk.wrap64_in ((a : Int) - (Tl.mis r : Nat) + (2 ^ r : Nat)) ⟨by omega, by omega⟩, IntWalk.wrap64_in _ ⟨by omega, by omega⟩]
      rw [show (a : Int) - (Tl.mis r : Nat) + (2 ^ r : Nat) - 1 = ((a - Tl.mis r + (2 ^ r - 1) : Nat) : Int) by omega]
      rfl
  · rw [if_neg h]
    exact ⟨by omega, fun h' => absurd h' h, fun _ => rfl⟩
@[irreducible] def bumpAll (w p : Nat) : Option Nat := Tl.bump w 4097 p
theorem bumpAll_eq (w p : Nat) : bumpAll w p = Tl.bump w 4097 p := by rw [bumpAll]
theorem next_over {a r k : Nat} (ha : a < 4096) (h : bumpAll k (Tl.real0 a r) = none) : Tl.next a r k = none := by
  unfold Tl.next
  rw [if_neg (by omega), ← bumpAll_eq, h]
theorem next_hit {a r k q : Nat} (ha : a < 4096) (h : bumpAll k (Tl.real0 a r) = some q) : Tl.next a r k = if q * 2 ^ r + Tl.mis r < 4096 then some (q * 2 ^ r + Tl.mis r) else none := by
  unfold Tl.next
  rw [if_neg (by omega), ← bumpAll_eq, h]
theorem code_at {x r : Nat} (hx : x < 4096) (hr : r ≤ 12) : IntKind.i64.wrap ((x : Int) * 2 ^ r) = ((x * 2 ^ r : Nat) : Int) ∧ bits .or .i64 ((x * 2 ^ r : Nat) : Int) (Tl.mis r : Nat) = ((x * 2 ^ r + Tl.mis r : Nat) : Int) := by
  have h2 := Tl.mis_pos r
  have h3 : 2 ^ r ≤ 2 ^ 12 := Nat.pow_le_pow_right (by decide) hr
  have h5 : x * 2 ^ r ≤ 4096 * 2 ^ 12 := Nat.mul_le_mul (by omega) h3
  constructor
  · have h := i64_shl x r (by omega) (by omega)
    rw [Nat.min_eq_left (by omega)] at h
    rw [IntWalk.i64_left]
    exact h
  · rw [i64_or_nat _ _ (by omega) (by omega)]
    congr 1
    rw [Nat.mul_comm, ← Nat.two_pow_add_eq_or_of_lt (by omega)]
theorem code_at2 {x r : Nat} (hx : x < 4096) (hr : r ≤ 12) : bits .or .i64 ((x : Int) * 2 ^ r) (Tl.mis r : Nat) = ((x * 2 ^ r + Tl.mis r : Nat) : Int) := by
  rw [← (code_at hx hr).2]
  congr 1
attribute [local irreducible] Tl.pop Tl.low Tl.next Tl.bump Tl.real0 Tl.mis
set_option maxRecDepth 100000 in
set_option maxHeartbeats 1000000 in
theorem cnext_c (a r k : Nat) (ha : a < 65536) (hr : r ≤ 12) (hk : k ≤ 12) (w : World) :
    Calls Try.prog 24 #[.int .i64 a, .int .i64 r, .int .i64 k] w fun e w' => e = .returned (.tuple #[.int .i64 (Tl.nextV a r k : Nat), .int .i64 (Tl.nextE a r k)]) ∧ Below w.heap.size w w' := by
  have e0 : decide ((0 : Int) ≤ (r : Int) ∧ (r : Int) ≤ 12) = true := by simp; omega
  have H := Lib.hid (form_c r k hk)
  rw [e0] at H
  have HM := Lib.hid (missed_c r hr)
  clear e0
  by_cases hbig : 4096 ≤ a
  · have hN : Tl.next a r k = none := by unfold Tl.next; rw [if_pos hbig]
    have HN := Lib.hid (Tl.next_none hN)
    clear hN
    go_enter Try.func24, Try.ntmps24
    go_wp2_with (go_at_call 34; with_reducible refine (H.out _).mono ?_; rintro e w1 ⟨rfl, rfl⟩)
    go_ret2
    exact ⟨ret2v (by rw [HN.out.1]; rfl) (by rw [HN.out.2]), Below.refl _ _⟩
  · obtain ⟨hx0, hxr, hw1⟩ := real0_at (a := a) (r := r) (by omega) hr
    have Hw := Lib.hid hw1
    have Hx := Lib.hid hxr
    clear hxr hw1
    have h0 : decide (Tl.mis r < a) = true ∨ decide (Tl.mis r < a) = false := by cases decide (Tl.mis r < a) <;> simp
    rcases h0 with h0 | h0
    all_goals
      have hlow := h0
      simp only [decide_eq_true_eq, decide_eq_false_iff_not, Nat.not_lt] at hlow
      go_enter Try.func24, Try.ntmps24
      go_wp2_with (first
        | (go_at_call 34; with_reducible refine (H.out _).mono ?_; rintro e w1 ⟨rfl, rfl⟩)
        | (go_at_call 35; with_reducible refine (HM.out _).mono ?_; rintro e w1 ⟨rfl, rfl⟩))
      go_loop [6, 7, 8] (fun p q t => ∃ x f : Nat, x < 4096 ∧ 4097 ≤ f + x ∧ p = .int .i64 0 ∧ q = .int .i64 0 ∧ t = .int .i64 x ∧ Hid (bumpAll k (Tl.real0 a r) = Tl.bump k f x)) (fun _ _ t => 4096 - (intOf t).toNat)
      case atStart =>
        refine ⟨Tl.real0 a r, 4097, hx0, by omega, rfl, rfl, ?_, Lib.hid (bumpAll_eq _ _)⟩
        first
          | exact vint (Hw.out hlow)
          | exact vint (Hx.out hlow)
          | (trace_state; sorry)
      case round =>
        obtain ⟨x, f, hx, hf, rfl, rfl, rfl, hb⟩ := hrel
        obtain ⟨g, rfl⟩ : ∃ g, f = g + 1 := ⟨f - 1, by omega⟩
        have hp := Tl.pop_le64 x
        have HO := Lib.hid (cones_c x (by omega))
        by_cases hpk : Tl.pop x ≤ k
        · have hd1 : decide (k < Tl.pop x) = false := decide_eq_false (by omega)
          have hb2 : bumpAll k (Tl.real0 a r) = some x := by rw [hb.out, Tl.bump, if_pos hpk]
          have HN := Lib.hid (next_hit (by omega) hb2)
          obtain ⟨hv1, hv2⟩ := code_at hx hr
          have Hv := Lib.hid hv2
          have hv3 : 0 ≤ (r : Int) := by omega
          clear hpk hb2 hb hv2
          go_wp2_with (go_at_call 36; with_reducible refine (HO.out _).mono ?_; rintro e w1 ⟨rfl, rfl⟩)
          go_quiet (first | (go_at_call 35; exact Calls.quiet_of_same (HM.out _)))
          have hsl : wrap64 ((x : Int) * 2 ^ r) = ((x * 2 ^ r : Nat) : Int) := by rw [← hv1, IntWalk.i64_left]
          clear hv1
          go_wp2_with fail
          · have hlt : decide (bits .or .i64 ((x : Int) * 2 ^ r) (Tl.mis r : Nat) < 4096) = true := by first | assumption | (simp; assumption)
            have Hv' := code_at2 hx hr
            rw [Hv', decide_eq_true_eq] at hlt
            have HN2 := HN.out
            rw [if_pos (by omega)] at HN2
            have HN3 := Tl.next_some HN2
            go_ret2
            exact ⟨ret2v (by rw [HN3.1, Hv']) (by rw [HN3.2]), below_drewN (Below.refl _ _) _⟩
          · have hlt : decide (bits .or .i64 ((x : Int) * 2 ^ r) (Tl.mis r : Nat) < 4096) = false := by first | assumption | (simp; assumption)
            have Hv' := code_at2 hx hr
            rw [Hv', decide_eq_false_iff_not] at hlt
            have HN2 := HN.out
            rw [if_neg (by omega)] at HN2
            have HN3 := Tl.next_none HN2
            go_ret2
            exact ⟨ret2v (by rw [HN3.1]; rfl) (by rw [HN3.2]), below_drewN (Below.refl _ _) _⟩
        · have hd1 : decide (k < Tl.pop x) = true := decide_eq_true (by omega)
          have hxp : 0 < x := by
            rcases Nat.eq_zero_or_pos x with e | e
            · subst e; rw [Tl.pop_zero] at hpk; omega
            · exact e
          obtain ⟨hl1, hl2, hl3⟩ := low_at hx hxp
          have Hl := Lib.hid hl1
          have hsum : wrap64 ((x : Int) + bits .and .i64 (x : Int) (-(x : Int))) = ((x + Tl.low x : Nat) : Int) := by
            rw [hl1]
            exact IntWalk.wrap64_in _ ⟨by omega, by omega⟩
          clear hl1
          have Hs := Lib.hid hsum
          have Hpk := Lib.hid hpk
          have Hb := Lib.hid hb.out
          clear hb hsum Hl hpk
          go_wp2_with (go_at_call 36; with_reducible refine (HO.out _).mono ?_; rintro e w1 ⟨rfl, rfl⟩)
          · have hov : decide (4096 ≤ wrap64 ((x : Int) + bits .and .i64 (x : Int) (-(x : Int)))) = true := by first | assumption | (simp; assumption)
            rw [Hs.out, decide_eq_true_eq] at hov
            have hN : Tl.next a r k = none := next_over (by omega) (by rw [Hb.out, Tl.bump, if_neg Hpk.out, if_pos (by omega)])
            have HN := Tl.next_none hN
            go_ret2
            exact ⟨ret2v (by rw [HN.1]; rfl) (by rw [HN.2]), Below.refl _ _⟩
          · have hov : decide (4096 ≤ wrap64 ((x : Int) + bits .and .i64 (x : Int) (-(x : Int)))) = false := by first | assumption | (simp; assumption)
            rw [Hs.out, decide_eq_false_iff_not] at hov
            have hb2 : bumpAll k (Tl.real0 a r) = Tl.bump k g (x + Tl.low x) := by rw [Hb.out, Tl.bump, if_neg Hpk.out, if_neg (by omega)]
            have Hb2 := Lib.hid hb2
            have hov2 : x + Tl.low x < 4096 := by omega
            clear hb2 Hb hov
            go_round
            case rel => exact ⟨x + Tl.low x, g, by omega, by omega, rfl, rfl, vint Hs.out, Hb2⟩
            case measure => rw [Hs.out]; simp [intOf]; omega
end Go.Proofs.Ytlljanbhbnempaa
