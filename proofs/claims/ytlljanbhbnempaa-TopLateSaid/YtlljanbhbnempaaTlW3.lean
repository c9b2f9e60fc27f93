/- The walks of Is (at codes) and of job.Valid (at valid jobs). -/
import Derived.Test.YtlljanbhbnempaaTlW2
import Derived.Test.YtlljanbhbnempaaTlI
namespace Go.Proofs.Ytlljanbhbnempaa
open Go.RowKit
theorem is_bits {q r : Nat} (hk : q * 2 ^ r + Tl.mis r < 4096) (hr : r ≤ 12) : bits .and .i64 ((q * 2 ^ r + Tl.mis r : Nat) : Int) (Tl.mis r : Nat) = ((Tl.mis r : Nat) : Int) ∧ ((q * 2 ^ r + Tl.mis r : Nat) : Int) / 2 ^ r = ((q : Nat) : Int) := by
  have h2 := Tl.mis_pos r
  have h3 : 2 ^ r ≤ 2 ^ 12 := Nat.pow_le_pow_right (by decide) hr
  have hp := Nat.two_pow_pos r
  constructor
  · rw [i64_and_nat _ _ (by omega) (by omega)]
    congr 1
    have h : Tl.mis r = 2 ^ r - 1 := rfl
    rw [h, Nat.and_two_pow_sub_one_eq_mod, Nat.mul_comm, Nat.mul_add_mod, Nat.mod_eq_of_lt (by omega)]
  · have h4 : ((2 : Int) ^ r) = ((2 ^ r : Nat) : Int) := by push_cast; rfl
    rw [h4, ← Int.natCast_ediv]
    congr 1
    rw [Nat.mul_comm, Nat.mul_add_div hp, Nat.div_eq_of_lt (by omega), Nat.add_zero]
attribute [local irreducible] Tl.pop Tl.mis
set_option maxRecDepth 100000 in
set_option maxHeartbeats 1000000 in
theorem cis_c (q r k : Nat) (hk : q * 2 ^ r + Tl.mis r < 4096) (hr : r ≤ 12) (hw : k ≤ 12) (hp : Tl.pop q ≤ k) (w : World) :
    Calls Try.prog 29 #[.int .i64 (q * 2 ^ r + Tl.mis r : Nat), .int .i64 r, .int .i64 k] w fun e w' => e = .returned (.bool true) ∧ Below w.heap.size w w' := by
  have e0 : decide ((0 : Int) ≤ (r : Int) ∧ (r : Int) ≤ 12) = true := by simp; omega
  have H := Lib.hid (form_c r k hw)
  rw [e0] at H
  have HM := Lib.hid (missed_c r hr)
  have hq : q < 65536 := by
    have : q * 1 ≤ q * 2 ^ r := Nat.mul_le_mul_left _ (Nat.two_pow_pos r)
    omega
  have HO := Lib.hid (cones_c q hq)
  obtain ⟨b1, b2⟩ := is_bits hk hr
  generalize q * 2 ^ r + Tl.mis r = c at hk b1 b2
  have e1 : decide ((0 : Int) ≤ (c : Int) ∧ (c : Int) ≤ 4095) = true := by simp; omega
  have HI := Lib.hid (cin_c c 0 4095)
  rw [e1] at HI
  clear e0 e1
  go_enter Try.func29, Try.ntmps29
  go_wp2_with (first
    | (go_at_call 34; with_reducible refine (H.out _).mono ?_; rintro e w1 ⟨rfl, rfl⟩)
    | (go_at_call 25; with_reducible refine (HI.out _).mono ?_; rintro e w1 ⟨rfl, rfl⟩)
    | (go_at_call 35; with_reducible refine (HM.out _).mono ?_; rintro e w1 ⟨rfl, rfl⟩)
    | (go_at_call 36; with_reducible refine (HO.out _).mono ?_; rintro e w1 ⟨rfl, rfl⟩))
  go_ret
  exact ⟨rfl, Below.refl _ _⟩
theorem itm_at {l : List IT} {i : Nat} {p : IT} (h : l[i]? = some p) : Tl.it l i = p ∧ p ∈ l := by
  constructor
  · unfold Tl.it
    rw [List.getD_eq_getElem?_getD, h]
    rfl
  · exact List.mem_of_getElem? h
theorem jin_yes (n lo hi : Int) (w : World) (h1 : lo ≤ n) (h2 : n ≤ hi) : Calls Try.prog 20 #[.int .i64 n, .int .i64 lo, .int .i64 hi] w fun e w' => e = .returned (.bool true) ∧ w = w' := by
  have := jin_c n lo hi w
  rwa [decide_eq_true ⟨h1, h2⟩] at this
set_option maxRecDepth 100000 in
set_option maxHeartbeats 2000000 in
theorem jvalid_c (A : Option Addr) (n c k : Nat) (l : List IT) (w : World) (hj : Tl.JobOk l k) (h : IR4 w A n l) :
    Calls Try.prog 12 #[jobV A n c k] w fun e w' => e = .returned (.int .i64 0) ∧ Below w.heap.size w w' := by
  have hl := h.len
  have hn := hj.len
  have hk := hj.wt
  have hd1 : decide (96 < (n : Int)) = false := by simp; omega
  unfold jobV
  go_enter Try.func12, Try.ntmps12
  go_wp2_with (go_at_call 20; refine (jin_yes _ _ _ _ (by omega) (by omega)).mono ?_; rintro e w1 ⟨rfl, rfl⟩)
  go_loopw [3, 4, 16] (fun _ _ p wr => ∃ i : Nat, i ≤ n ∧ p = .int .i64 i ∧ wr.cell? ⟨w.heap.size, 0, none⟩ = some (.slice A n c) ∧ w.heap.size < wr.heap.size ∧ Below w.heap.size w wr) (fun _ _ p _ => n - (intOf p).toNat)
  case atStart => exact ⟨0, by omega, rfl, by go_simp, by simp, (Below.refl _ _).alloc (Nat.le_refl _) _⟩
  case round =>
    obtain ⟨i, hi, rfl, hc, hsz, hbr⟩ := hrel
    by_cases hlt : i < n
    · obtain ⟨ad, ⟨pa, pb, pc, pd⟩, rfl, hba, hp, c1, c2, c3, c4⟩ := h.at_ hlt
      have d1 := keep_cell hbr c1
      have d2 := keep_cell hbr c2
      have d3 := keep_cell hbr c3
      have d4 := keep_cell hbr c4
      obtain ⟨hit, hmem⟩ := itm_at hp
      obtain ⟨g1, g2, g3, g4, g5⟩ := hj.its _ hmem
      have hca := fun o => cell_alloc hc o
      simp only at d1 d2 d3 d4 g1 g2 g3 g4 g5
      clear c1 c2 c3 c4 hp hmem
      by_cases h0 : i = 0
      · have hB : decide (0 < (i : Int)) = false := by simp; omega
        have hB' : decide (0 < i) = false := by simp; omega
        clear h0 hit
        go_wp2_with (go_at_call 20; refine (jin_yes _ _ _ _ (by omega) (by omega)).mono ?_; rintro e w1 ⟨rfl, rfl⟩)
        go_quiet (fail)
        go_wp2_with fail
        go_roundw
        case rel => exact ⟨i + 1, by omega, by go_num, hca _, by have := hbr.size; simp; omega, below_drewN (hbr.alloc hbr.size _) _⟩
        case measure => simp [intOf]; omega
      · obtain ⟨j, hjj⟩ : ∃ j, i = j + 1 := ⟨i - 1, by omega⟩
        obtain ⟨ad', q, hea, _, hq, _, _, f3, _⟩ := h.at_ (i := j) (by omega)
        obtain rfl := Option.some.inj hea
        have hm := hj.mono j i (by omega) (by omega)
        rw [hit, (itm_at hq).1] at hm
        have hB : decide (0 < (i : Int)) = true := by simp; omega
        have hB' : decide (0 < i) = true := by simp; omega
        have hkj : (i : Int) - 1 = (j : Int) := by omega
        have hkw : IntKind.i64.wrap (j : Int) = (j : Int) := IntWalk.i64_in _ ⟨by omega, by omega⟩
        have hjn : (j : Int) < (n : Int) := by omega
        have e3 := keep_cell hbr f3
        clear hea hq f3 hjj hit
        generalize q.rd = qc at e3 hm
        simp only at hm
        have e3a := fun o => cell_alloc e3 o
        have hlt2 : decide ((pc : Int) < (qc : Int)) = false := by simp; omega
        have hlt3 : decide (pc < qc) = false := by simp; omega
        go_wp2_with (go_at_call 20; refine (jin_yes _ _ _ _ (by omega) (by omega)).mono ?_; rintro e w1 ⟨rfl, rfl⟩)
        go_quiet (fail)
        go_wp2_with fail
        go_roundw
        case rel => exact ⟨i + 1, by omega, by go_num, hca _, by have := hbr.size; simp; omega, below_drewN (hbr.alloc hbr.size _) _⟩
        case measure => simp [intOf]; omega
    · obtain rfl : i = n := by omega
      go_wp2_with fail
      go_ret
      exact ⟨rfl, hbr⟩
end Go.Proofs.Ytlljanbhbnempaa
