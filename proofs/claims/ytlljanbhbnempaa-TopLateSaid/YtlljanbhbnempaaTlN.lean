/- code.Next once more: it only draws. -/
import Derived.Test.YtlljanbhbnempaaTlW2
namespace Go.Proofs.Ytlljanbhbnempaa
open Go.RowKit
attribute [local irreducible] Tl.pop Tl.low Tl.next Tl.bump Tl.real0 Tl.mis
set_option maxRecDepth 100000 in
set_option maxHeartbeats 1000000 in
theorem cnext_q (a r k : Nat) (ha : a < 65536) (hr : r ≤ 12) (hk : k ≤ 12) (w : World) :
    Calls Try.prog 24 #[.int .i64 a, .int .i64 r, .int .i64 k] w fun e w' => e = .returned (.tuple #[.int .i64 (Tl.nextV a r k : Nat), .int .i64 (Tl.nextE a r k)]) ∧ ∃ q, w' = w.drewN q := by
  have e0 : decide ((0 : Int) ≤ (r : Int) ∧ (r : Int) ≤ 12) = true := by simp; omega
  have H := Lib.hid (form_c r k hk)
  rw [e0] at H
  have HM := Lib.hid (missed_c r hr)
  clear e0
  by_cases hbig : 4096 ≤ a
  · have hN : Tl.next a r k = none := by unfold Tl.next; rw [if_pos hbig]
    have HN := Lib.hid (Tl.next_none hN)
    clear hN
    go_enter Try.func24, Try.ntmps24
    go_wp2_with (go_at_call 34; with_reducible refine (H.out _).mono ?_; rintro e w1 ⟨rfl, rfl⟩)
    go_ret2
    exact ⟨ret2v (by rw [HN.out.1]; rfl) (by rw [HN.out.2]), ⟨0, rfl⟩⟩
  · obtain ⟨hx0, hxr, hw1⟩ := real0_at (a := a) (r := r) (by omega) hr
    have Hw := Lib.hid hw1
    have Hx := Lib.hid hxr
    clear hxr hw1
    have h0 : decide (Tl.mis r < a) = true ∨ decide (Tl.mis r < a) = false := by cases decide (Tl.mis r < a) <;> simp
    rcases h0 with h0 | h0
    all_goals
      have hlow := h0
      simp only [decide_eq_true_eq, decide_eq_false_iff_not, Nat.not_lt] at hlow
      go_enter Try.func24, Try.ntmps24
      go_wp2_with (first
        | (go_at_call 34; with_reducible refine (H.out _).mono ?_; rintro e w1 ⟨rfl, rfl⟩)
        | (go_at_call 35; with_reducible refine (HM.out _).mono ?_; rintro e w1 ⟨rfl, rfl⟩))
      go_loop [6, 7, 8] (fun p q t => ∃ x f : Nat, x < 4096 ∧ 4097 ≤ f + x ∧ p = .int .i64 0 ∧ q = .int .i64 0 ∧ t = .int .i64 x ∧ Hid (bumpAll k (Tl.real0 a r) = Tl.bump k f x)) (fun _ _ t => 4096 - (intOf t).toNat)
      case atStart =>
        refine ⟨Tl.real0 a r, 4097, hx0, by omega, rfl, rfl, ?_, Lib.hid (bumpAll_eq _ _)⟩
        first
          | exact vint (Hw.out hlow)
          | exact vint (Hx.out hlow)
          | (trace_state; sorry)
      case round =>
        obtain ⟨x, f, hx, hf, rfl, rfl, rfl, hb⟩ := hrel
        obtain ⟨g, rfl⟩ : ∃ g, f = g + 1 := ⟨f - 1, by omega⟩
        have hp := Tl.pop_le64 x
        have HO := Lib.hid (cones_c x (by omega))
        by_cases hpk : Tl.pop x ≤ k
        · have hd1 : decide (k < Tl.pop x) = false := decide_eq_false (by omega)
          have hb2 : bumpAll k (Tl.real0 a r) = some x := by rw [hb.out, Tl.bump, if_pos hpk]
          have HN := Lib.hid (next_hit (by omega) hb2)
          obtain ⟨hv1, hv2⟩ := code_at hx hr
          have Hv := Lib.hid hv2
          have hv3 : 0 ≤ (r : Int) := by omega
          clear hpk hb2 hb hv2
          go_wp2_with (go_at_call 36; with_reducible refine (HO.out _).mono ?_; rintro e w1 ⟨rfl, rfl⟩)
          go_quiet (first | (go_at_call 35; exact Calls.quiet_of_same (HM.out _)))
          have hsl : wrap64 ((x : Int) * 2 ^ r) = ((x * 2 ^ r : Nat) : Int) := by rw [← hv1, IntWalk.i64_left]
          clear hv1
          go_wp2_with fail
          · have hlt : decide (bits .or .i64 ((x : Int) * 2 ^ r) (Tl.mis r : Nat) < 4096) = true := by first | assumption | (simp; assumption)
            have Hv' := code_at2 hx hr
            rw [Hv', decide_eq_true_eq] at hlt
            have HN2 := HN.out
            rw [if_pos (by omega)] at HN2
            have HN3 := Tl.next_some HN2
            go_ret2
            exact ⟨ret2v (by rw [HN3.1, Hv']) (by rw [HN3.2]), ⟨_, rfl⟩⟩
          · have hlt : decide (bits .or .i64 ((x : Int) * 2 ^ r) (Tl.mis r : Nat) < 4096) = false := by first | assumption | (simp; assumption)
            have Hv' := code_at2 hx hr
            rw [Hv', decide_eq_false_iff_not] at hlt
            have HN2 := HN.out
            rw [if_neg (by omega)] at HN2
            have HN3 := Tl.next_none HN2
            go_ret2
            exact ⟨ret2v (by rw [HN3.1]; rfl) (by rw [HN3.2]), ⟨_, rfl⟩⟩
        · have hd1 : decide (k < Tl.pop x) = true := decide_eq_true (by omega)
          have hxp : 0 < x := by
            rcases Nat.eq_zero_or_pos x with e | e
            · subst e; rw [Tl.pop_zero] at hpk; omega
            · exact e
          obtain ⟨hl1, hl2, hl3⟩ := low_at hx hxp
          have Hl := Lib.hid hl1
          have hsum : wrap64 ((x : Int) + bits .and .i64 (x : Int) (-(x : Int))) = ((x + Tl.low x : Nat) : Int) := by
            rw [hl1]
            exact IntWalk.wrap64_in _ ⟨by omega, by omega⟩
          clear hl1
          have Hs := Lib.hid hsum
          have Hpk := Lib.hid hpk
          have Hb := Lib.hid hb.out
          clear hb hsum Hl hpk
          go_wp2_with (go_at_call 36; with_reducible refine (HO.out _).mono ?_; rintro e w1 ⟨rfl, rfl⟩)
          · have hov : decide (4096 ≤ wrap64 ((x : Int) + bits .and .i64 (x : Int) (-(x : Int)))) = true := by first | assumption | (simp; assumption)
            rw [Hs.out, decide_eq_true_eq] at hov
            have hN : Tl.next a r k = none := next_over (by omega) (by rw [Hb.out, Tl.bump, if_neg Hpk.out, if_pos (by omega)])
            have HN := Tl.next_none hN
            go_ret2
            exact ⟨ret2v (by rw [HN.1]; rfl) (by rw [HN.2]), ⟨0, rfl⟩⟩
          · have hov : decide (4096 ≤ wrap64 ((x : Int) + bits .and .i64 (x : Int) (-(x : Int)))) = false := by first | assumption | (simp; assumption)
            rw [Hs.out, decide_eq_false_iff_not] at hov
            have hb2 : bumpAll k (Tl.real0 a r) = Tl.bump k g (x + Tl.low x) := by rw [Hb.out, Tl.bump, if_neg Hpk.out, if_neg (by omega)]
            have Hb2 := Lib.hid hb2
            have hov2 : x + Tl.low x < 4096 := by omega
            clear hb2 Hb hov
            go_round
            case rel => exact ⟨x + Tl.low x, g, by omega, by omega, rfl, rfl, vint Hs.out, Hb2⟩
            case measure => rw [Hs.out]; simp [intOf]; omega
end Go.Proofs.Ytlljanbhbnempaa
