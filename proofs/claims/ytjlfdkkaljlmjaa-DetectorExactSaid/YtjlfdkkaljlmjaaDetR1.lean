/- The reference of layer 4: sound, Valid. -/
import Derived.Test.YtjlfdkkaljlmjaaDetW2
namespace Go.Proofs.Ytjlfdkkaljlmjaa
open Go.RowKit
set_option maxRecDepth 100000 in
set_option maxHeartbeats 1000000 in
theorem sound_yes (a b c : Int) (w : World) (h : Det.okP ⟨a, b, c⟩ = true) : Calls Try.prog 57 #[.agg #[.int .i64 a, .int .i64 b, .int .i64 c]] w fun e w' => e = .returned (.bool true) ∧ Below w.heap.size w w' := by
  obtain ⟨o1, o2, o3, o4, o5⟩ := Det.okP_all h
  simp only at o1 o2 o3 o4 o5
  clear h
  have e1 : decide (0 ≤ a) = true := by simpa using o1
  have e2 : decide (a ≤ 31) = true := by simp; omega
  have e3 : decide (0 ≤ b) = true := by simpa using o3
  have e4 : decide (b ≤ 1000000000) = true := by simpa using o4
  rcases o5 with rfl | rfl
  all_goals
    go_enter Try.func57, Try.ntmps57
    go_wp2
    go_ret
    exact ⟨rfl, (Below.refl _ _).alloc (Nat.le_refl _) _⟩
set_option maxRecDepth 100000 in
set_option maxHeartbeats 1000000 in
theorem sound_no (a b c : Int) (w : World) (h : Det.okP ⟨a, b, c⟩ = false) : Calls Try.prog 57 #[.agg #[.int .i64 a, .int .i64 b, .int .i64 c]] w fun e w' => e = .returned (.bool false) ∧ Below w.heap.size w w' := by
  have h' : ¬(0 ≤ a ∧ a < 32 ∧ 0 ≤ b ∧ b ≤ 1000000000 ∧ (c = 1 ∨ c = -1)) := by
    intro hx
    have : Det.okP ⟨a, b, c⟩ = true := by simp only [Det.okP, Bool.and_eq_true, Bool.or_eq_true, decide_eq_true_eq]; omega
    rw [this] at h; cases h
  clear h
  by_cases e1 : 0 ≤ a
  · by_cases e2 : a < 32
    · by_cases e3 : 0 ≤ b
      · by_cases e4 : b ≤ 1000000000
        · have e5 : (c == 1) = false := by simp; omega
          have e6 : (c == -1) = false := by simp; omega
          have e2' : a ≤ 31 := by omega
          clear h' e2
          go_enter Try.func57, Try.ntmps57
          go_wp2
          go_ret
          exact ⟨rfl, (Below.refl _ _).alloc (Nat.le_refl _) _⟩
        · have d4 : decide (b ≤ 1000000000) = false := by simpa using e4
          have e2' : a ≤ 31 := by omega
          clear h' e2 e4
          go_enter Try.func57, Try.ntmps57
          go_wp2
          go_ret
          exact ⟨rfl, (Below.refl _ _).alloc (Nat.le_refl _) _⟩
      · have d3 : decide (0 ≤ b) = false := by simpa using e3
        have e2' : a ≤ 31 := by omega
        clear h' e2 e3
        go_enter Try.func57, Try.ntmps57
        go_wp2
        go_ret
        exact ⟨rfl, (Below.refl _ _).alloc (Nat.le_refl _) _⟩
    · have d2 : decide (a ≤ 31) = false := by simp; omega
      clear h' e2
      go_enter Try.func57, Try.ntmps57
      go_wp2
      go_ret
      exact ⟨rfl, (Below.refl _ _).alloc (Nat.le_refl _) _⟩
  · have d1 : decide (0 ≤ a) = false := by simpa using e1
    clear h' e1
    go_enter Try.func57, Try.ntmps57
    go_wp2
    go_ret
    exact ⟨rfl, (Below.refl _ _).alloc (Nat.le_refl _) _⟩
set_option maxRecDepth 100000 in
set_option maxHeartbeats 1000000 in
theorem rvalid4_c (A : Option Addr) (n c : Nat) (l : List V3) (w : World) (hn : n ≤ maxLen) (h : VR w A n l) :
    Calls Try.prog 36 #[.slice A n c] w fun e w' => e = .returned (.int .i64 (Det.vErr l)) ∧ Below w.heap.size w w' := by
  have hl := h.len
  unfold maxLen at hn
  by_cases hbig : 4096 < n
  · have hr : Det.vErr l = 3 := by rw [Det.vErr, if_pos (by omega)]
    have Hr := Lib.hid hr
    clear hr
    go_enter Try.func36, Try.ntmps36
    go_wp2_with fail
    go_ret
    exact ⟨retv Hr.out.symm, Below.refl _ _⟩
  · have hr : Det.vErr l = Det.vGo l none := by rw [Det.vErr, if_neg (by omega)]
    have Hr := Lib.hid hr
    have hd1 : decide (4096 < (n : Int)) = false := by simp; omega
    clear hr
    go_enter Try.func36, Try.ntmps36
    go_wp2_with fail
    go_loopw [3] (fun p wr => ∃ k : Nat, k ≤ n ∧ p = .int .i64 k ∧ Hid (Det.vErr l = Det.vGo (l.drop k) (prevT l k)) ∧ Below w.heap.size w wr) (fun p _ => n - (intOf p).toNat)
    case atStart => exact ⟨0, by omega, rfl, Hr, Below.refl _ _⟩
    case round =>
      obtain ⟨k, hk, rfl, hgo, hbr⟩ := hrel
      by_cases hlt : k < n
      · obtain ⟨ad, ⟨pa, pb, pc⟩, rfl, hba, hp, c1, c2, c3⟩ := h.at_ hlt
        have d1 := keep_cell hbr c1
        have d2 := keep_cell hbr c2
        have d3 := keep_cell hbr c3
        have hdr := drop_cons hp
        have Hp := Lib.hid hp
        have Hdr := Lib.hid hdr
        clear hp c1 c2 c3 hdr
        simp only at d1 d2 d3
        by_cases hok : Det.okP ⟨pa, pb, pc⟩ = true
        · have hst := Lib.hid (Det.vGo_ok (prevT l k) ⟨pa, pb, pc⟩ (l.drop (k + 1)) hok)
          have Hpt := Lib.hid (show prevT l (k + 1) = some pb by rw [prevT, Hp.out]; rfl)
          by_cases hk0 : k = 0
          · have hfin : Det.vErr l = Det.vGo (l.drop (k + 1)) (some pb) := by rw [hgo.out, Hdr.out, hst.out, hk0]; rfl
            have Hf := Lib.hid hfin
            have hB : decide (0 < (k : Int)) = false := by simp; omega
            have hB' : decide (0 < k) = false := by simp; omega
            have Hok := Lib.hid hok
            clear hgo hst hfin hk0 hok
            go_wp2_with fail
            refine (sound_yes _ _ _ _ Hok.out).mono ?_
            rintro e w2 ⟨rfl, hb2⟩
            have hb3 := below_step hbr hb2
            go_wp2_with fail
            go_quiet (fail)
            go_wp2_with fail
            go_roundw
            case rel => exact ⟨k + 1, by omega, by go_num, Lib.hid (by rw [Hpt.out]; exact Hf.out), below_drewN hb3 _⟩
            case measure => simp [intOf]; omega
          · obtain ⟨j, hj⟩ : ∃ j, k = j + 1 := ⟨k - 1, by omega⟩
            obtain ⟨ad', q, hea, _, hq, _, g2, _⟩ := h.at_ (i := j) (by omega)
            obtain rfl := Option.some.inj hea
            have Hpq := Lib.hid (show prevT l k = some q.b by rw [hj, prevT, hq]; rfl)
            have hB : decide (0 < (k : Int)) = true := by simp; omega
            have hB' : decide (0 < k) = true := by simp; omega
            have hkj : (k : Int) - 1 = (j : Int) := by omega
            have hkw : IntKind.i64.wrap (j : Int) = (j : Int) := IntWalk.i64_in _ ⟨by omega, by omega⟩
            have hjn : (j : Int) < (n : Int) := by omega
            have f2 := keep_cell hbr g2
            clear hea hq g2 hj hk0
            generalize q.b = qb at f2 Hpq
            have Hok := Lib.hid hok
            by_cases hearly : pb < qb
            · have hfin : Det.vErr l = 12 := by
                rw [hgo.out, Hdr.out, hst.out, Hpq.out, if_pos (by simp [Det.early]; omega)]
              have Hf := Lib.hid hfin
              clear hgo hst hfin hok
              go_wp2_with fail
              refine (sound_yes _ _ _ _ Hok.out).mono ?_
              rintro e w2 ⟨rfl, hb2⟩
              have hb3 := below_step hbr hb2
              have f3 := keep_cell hb2 f2
              have x2 := keep_cell hb2 d2
              clear d1 d2 d3 f2
              go_wp2_with fail
              go_quiet (fail)
              go_wp2_with fail
              go_ret
              exact ⟨retv Hf.out.symm, below_drewN hb3 _⟩
            · have hfin : Det.vErr l = Det.vGo (l.drop (k + 1)) (some pb) := by
                rw [hgo.out, Hdr.out, hst.out, Hpq.out, if_neg (by simp [Det.early]; omega)]
              have Hf := Lib.hid hfin
              clear hgo hst hfin hok
              go_wp2_with fail
              refine (sound_yes _ _ _ _ Hok.out).mono ?_
              rintro e w2 ⟨rfl, hb2⟩
              have hb3 := below_step hbr hb2
              have f3 := keep_cell hb2 f2
              have x2 := keep_cell hb2 d2
              clear d1 d2 d3 f2
              go_wp2_with fail
              go_quiet (fail)
              go_wp2_with fail
              go_roundw
              case rel => exact ⟨k + 1, by omega, by go_num, Lib.hid (by rw [Hpt.out]; exact Hf.out), below_drewN hb3 _⟩
              case measure => simp [intOf]; omega
        · have hbad : Det.okP ⟨pa, pb, pc⟩ = false := by simpa using hok
          have hfin : Det.vErr l = 1 := by rw [hgo.out, Hdr.out, Det.vGo_bad _ _ _ hbad]
          have Hf := Lib.hid hfin
          have Hbad := Lib.hid hbad
          clear hgo hfin hbad hok
          go_wp2_with fail
          refine (sound_no _ _ _ _ Hbad.out).mono ?_
          rintro e w2 ⟨rfl, hb2⟩
          go_wp2_with fail
          go_ret
          exact ⟨retv Hf.out.symm, below_step hbr hb2⟩
      · obtain rfl : k = n := by omega
        go_wp2_with fail
        go_ret
        refine ⟨retv ?_, hbr⟩
        rw [hgo.out, List.drop_eq_nil_of_le (by omega)]
        rfl
end Go.Proofs.Ytjlfdkkaljlmjaa
