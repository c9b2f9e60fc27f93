/- The walk of the reference's sound of a layout. -/
import Derived.Test.YtmjdjcpmkdninaaDoorLyW2
import Derived.Test.YtmjdjcpmkdninaaDoorLyR1
namespace Go.Proofs.YtmjdjcpmkdninaaDoor
open Go.RowKit
theorem crest_iff (x : LE) : Ly.crestOk x = true ↔ (x.p = -1 ∧ x.sd = 0 ∧ x.len = 0 ∧ x.g = 0 ∧ x.c = 0 ∧ x.pw = 0) := by
  unfold Ly.crestOk
  simp only [Bool.and_eq_true, decide_eq_true_eq]
  omega
set_option maxRecDepth 100000 in
set_option maxHeartbeats 8000000 in
theorem rlsound_c (k : Int) (nm : ByteArray) (pp sd len g c pw : Int) (w : World) (hs : nm.size ≤ maxLen) :
    Calls Tryd.prog 60 #[.agg #[.int .i64 k, .string nm, .int .i64 pp, .int .i64 sd, .int .i64 len, .int .i64 g, .int .i64 c, .int .i64 pw]] w (LSoundR ⟨k, nm, pp, sd, len, g, c, pw⟩ w) := by
  obtain ⟨x, hx⟩ : ∃ x : LE, x = ⟨k, nm, pp, sd, len, g, c, pw⟩ := ⟨_, rfl⟩
  rw [← hx]
  have Hx := Lib.hid hx
  clear hx
  have HN := Lib.hid (fun W => name06_c nm W hs)
  have HM := Lib.hid (snd_name (x := x))
  have HC := Lib.hid (snd_crest (x := x))
  have HR := Lib.hid (snd_rest (x := x))
  have HT := Lib.hid (rest_true (x := x))
  have HF := Lib.hid (rest_false (x := x))
  have HCT : Hid ((pp = -1 ∧ sd = 0 ∧ len = 0 ∧ g = 0 ∧ c = 0 ∧ pw = 0) → Ly.crestOk x = true) := Lib.hid (fun h => (crest_iff x).2 (by rw [Hx.out]; exact h))
  have HCF : Hid (¬ (pp = -1 ∧ sd = 0 ∧ len = 0 ∧ g = 0 ∧ c = 0 ∧ pw = 0) → Ly.crestOk x = false) := Lib.hid (fun h => Bool.eq_false_iff.2 (fun hh => h (by have := (crest_iff x).1 hh; rw [Hx.out] at this; exact this)))
  have Hf : Hid (x.k = k ∧ x.nm = nm ∧ x.pw = pw ∧ x.len = len ∧ x.g = g ∧ x.c = c ∧ x.sd = sd) := Lib.hid (by rw [Hx.out]; exact ⟨rfl, rfl, rfl, rfl, rfl, rfl, rfl⟩)
  obtain ⟨f1, f2, f3, f4, f5, f6, f7⟩ := Hf.out
  rw [f1] at HC HR HT HF
  rw [f2] at HM HC HR
  rw [f3, f4, f5, f6, f7] at HT HF
  clear f1 f2 f3 f4 f5 f6 f7 Hf Hx
  by_cases hnm : Pl.nameOk nm = true
  case neg =>
    have hnf : Pl.nameOk nm = false := by simpa using hnm
    have Hr := Lib.hid (HM.out hnf)
    rw [hnf] at HN
    clear hnm hnf
    go_enter Tryd.func60, Tryd.ntmps60
    go_wp2_with fail
    refine (HN.out _).mono ?_
    rintro e w1 ⟨rfl, rfl⟩
    go_wp2_with fail
    go_ret
    exact ⟨retb Hr.out.symm, (Below.refl _ _).alloc (Nat.le_refl _) _⟩
  rw [hnm] at HN
  have HC' := Lib.hid (fun h => HC.out hnm h)
  have HR' := Lib.hid (fun h => HR.out hnm h)
  clear hnm HC HR
  unfold LSoundR
  by_cases kz : k = 0
  · have e3 : (k == 0) = true := by simpa using kz
    have HR2 := HC'.out kz
    rw [HR2]
    clear HM HC' HR' HT HF HR2 kz
    by_cases q1 : pp = -1
    case neg =>
      have dq1 : (pp == -1) = false := by simpa using q1
      have Hr := Lib.hid (HCF.out (by omega))
      go_enter Tryd.func60, Tryd.ntmps60
      go_wp2_with fail
      refine (HN.out _).mono ?_
      rintro e w1 ⟨rfl, rfl⟩
      go_wp2_with fail
      go_ret
      exact ⟨retb Hr.out.symm, (Below.refl _ _).alloc (Nat.le_refl _) _⟩
    have dq1 : (pp == -1) = true := by simpa using q1
    by_cases q2 : sd = 0
    case neg =>
      have dq2 : (sd == 0) = false := by simpa using q2
      have Hr := Lib.hid (HCF.out (by omega))
      go_enter Tryd.func60, Tryd.ntmps60
      go_wp2_with fail
      refine (HN.out _).mono ?_
      rintro e w1 ⟨rfl, rfl⟩
      go_wp2_with fail
      go_ret
      exact ⟨retb Hr.out.symm, (Below.refl _ _).alloc (Nat.le_refl _) _⟩
    have dq2 : (sd == 0) = true := by simpa using q2
    by_cases q3 : len = 0
    case neg =>
      have dq3 : (len == 0) = false := by simpa using q3
      have Hr := Lib.hid (HCF.out (by omega))
      go_enter Tryd.func60, Tryd.ntmps60
      go_wp2_with fail
      refine (HN.out _).mono ?_
      rintro e w1 ⟨rfl, rfl⟩
      go_wp2_with fail
      go_ret
      exact ⟨retb Hr.out.symm, (Below.refl _ _).alloc (Nat.le_refl _) _⟩
    have dq3 : (len == 0) = true := by simpa using q3
    by_cases q4 : g = 0
    case neg =>
      have dq4 : (g == 0) = false := by simpa using q4
      have Hr := Lib.hid (HCF.out (by omega))
      go_enter Tryd.func60, Tryd.ntmps60
      go_wp2_with fail
      refine (HN.out _).mono ?_
      rintro e w1 ⟨rfl, rfl⟩
      go_wp2_with fail
      go_ret
      exact ⟨retb Hr.out.symm, (Below.refl _ _).alloc (Nat.le_refl _) _⟩
    have dq4 : (g == 0) = true := by simpa using q4
    by_cases q5 : c = 0
    case neg =>
      have dq5 : (c == 0) = false := by simpa using q5
      have Hr := Lib.hid (HCF.out (by omega))
      go_enter Tryd.func60, Tryd.ntmps60
      go_wp2_with fail
      refine (HN.out _).mono ?_
      rintro e w1 ⟨rfl, rfl⟩
      go_wp2_with fail
      go_ret
      exact ⟨retb Hr.out.symm, (Below.refl _ _).alloc (Nat.le_refl _) _⟩
    have dq5 : (c == 0) = true := by simpa using q5
    by_cases q6 : pw = 0
    case neg =>
      have dq6 : (pw == 0) = false := by simpa using q6
      have Hr := Lib.hid (HCF.out (by omega))
      go_enter Tryd.func60, Tryd.ntmps60
      go_wp2_with fail
      refine (HN.out _).mono ?_
      rintro e w1 ⟨rfl, rfl⟩
      go_wp2_with fail
      go_ret
      exact ⟨retb Hr.out.symm, (Below.refl _ _).alloc (Nat.le_refl _) _⟩
    have dq6 : (pw == 0) = true := by simpa using q6
    have Hr := Lib.hid (HCT.out (by omega))
    go_enter Tryd.func60, Tryd.ntmps60
    go_wp2_with fail
    refine (HN.out _).mono ?_
    rintro e w1 ⟨rfl, rfl⟩
    go_wp2_with fail
    go_ret
    exact ⟨retb Hr.out.symm, (Below.refl _ _).alloc (Nat.le_refl _) _⟩
  have e3 : (k == 0) = false := by simpa using kz
  have HR2 := HR'.out kz
  rw [HR2]
  clear HM HC' HR' HCT HCF HR2
  by_cases k1 : 1 ≤ k
  case neg =>
    have dk1 : decide (k < 1) = true := decide_eq_true (by omega)
    have Hr := Lib.hid (HF.out (by omega))
    go_enter Tryd.func60, Tryd.ntmps60
    go_wp2_with fail
    refine (HN.out _).mono ?_
    rintro e w1 ⟨rfl, rfl⟩
    go_wp2_with fail
    go_ret
    exact ⟨retb Hr.out.symm, (Below.refl _ _).alloc (Nat.le_refl _) _⟩
  have dk1 : decide (k < 1) = false := decide_eq_false (by omega)
  by_cases k2 : k ≤ 4
  case neg =>
    have dk2 : decide (4 < k) = true := decide_eq_true (by omega)
    have Hr := Lib.hid (HF.out (by omega))
    go_enter Tryd.func60, Tryd.ntmps60
    go_wp2_with fail
    refine (HN.out _).mono ?_
    rintro e w1 ⟨rfl, rfl⟩
    go_wp2_with fail
    go_ret
    exact ⟨retb Hr.out.symm, (Below.refl _ _).alloc (Nat.le_refl _) _⟩
  have dk2 : decide (4 < k) = false := decide_eq_false (by omega)
  by_cases l1 : 1 ≤ len
  case neg =>
    have dl1 : decide (len < 1) = true := decide_eq_true (by omega)
    have Hr := Lib.hid (HF.out (by omega))
    go_enter Tryd.func60, Tryd.ntmps60
    go_wp2_with fail
    refine (HN.out _).mono ?_
    rintro e w1 ⟨rfl, rfl⟩
    go_wp2_with fail
    go_ret
    exact ⟨retb Hr.out.symm, (Below.refl _ _).alloc (Nat.le_refl _) _⟩
  have dl1 : decide (len < 1) = false := decide_eq_false (by omega)
  by_cases l2 : len ≤ 1000000
  case neg =>
    have dl2 : decide (1000000 < len) = true := decide_eq_true (by omega)
    have Hr := Lib.hid (HF.out (by omega))
    go_enter Tryd.func60, Tryd.ntmps60
    go_wp2_with fail
    refine (HN.out _).mono ?_
    rintro e w1 ⟨rfl, rfl⟩
    go_wp2_with fail
    go_ret
    exact ⟨retb Hr.out.symm, (Below.refl _ _).alloc (Nat.le_refl _) _⟩
  have dl2 : decide (1000000 < len) = false := decide_eq_false (by omega)
  by_cases g1 : -10000 ≤ g
  case neg =>
    have dg1 : decide (g < -10000) = true := decide_eq_true (by omega)
    have Hr := Lib.hid (HF.out (by omega))
    go_enter Tryd.func60, Tryd.ntmps60
    go_wp2_with fail
    refine (HN.out _).mono ?_
    rintro e w1 ⟨rfl, rfl⟩
    go_wp2_with fail
    go_ret
    exact ⟨retb Hr.out.symm, (Below.refl _ _).alloc (Nat.le_refl _) _⟩
  have dg1 : decide (g < -10000) = false := decide_eq_false (by omega)
  by_cases g2 : g ≤ 10000
  case neg =>
    have dg2 : decide (10000 < g) = true := decide_eq_true (by omega)
    have Hr := Lib.hid (HF.out (by omega))
    go_enter Tryd.func60, Tryd.ntmps60
    go_wp2_with fail
    refine (HN.out _).mono ?_
    rintro e w1 ⟨rfl, rfl⟩
    go_wp2_with fail
    go_ret
    exact ⟨retb Hr.out.symm, (Below.refl _ _).alloc (Nat.le_refl _) _⟩
  have dg2 : decide (10000 < g) = false := decide_eq_false (by omega)
  by_cases c1 : 0 ≤ c
  case neg =>
    have dc1 : decide (c < 0) = true := decide_eq_true (by omega)
    have Hr := Lib.hid (HF.out (by omega))
    go_enter Tryd.func60, Tryd.ntmps60
    go_wp2_with fail
    refine (HN.out _).mono ?_
    rintro e w1 ⟨rfl, rfl⟩
    go_wp2_with fail
    go_ret
    exact ⟨retb Hr.out.symm, (Below.refl _ _).alloc (Nat.le_refl _) _⟩
  have dc1 : decide (c < 0) = false := decide_eq_false (by omega)
  by_cases c2 : c ≤ 5000
  case neg =>
    have dc2 : decide (5000 < c) = true := decide_eq_true (by omega)
    have Hr := Lib.hid (HF.out (by omega))
    go_enter Tryd.func60, Tryd.ntmps60
    go_wp2_with fail
    refine (HN.out _).mono ?_
    rintro e w1 ⟨rfl, rfl⟩
    go_wp2_with fail
    go_ret
    exact ⟨retb Hr.out.symm, (Below.refl _ _).alloc (Nat.le_refl _) _⟩
  have dc2 : decide (5000 < c) = false := decide_eq_false (by omega)
  by_cases s1 : 0 ≤ sd
  case neg =>
    have ds1 : decide (sd < 0) = true := decide_eq_true (by omega)
    have Hr := Lib.hid (HF.out (by omega))
    go_enter Tryd.func60, Tryd.ntmps60
    go_wp2_with fail
    refine (HN.out _).mono ?_
    rintro e w1 ⟨rfl, rfl⟩
    go_wp2_with fail
    go_ret
    exact ⟨retb Hr.out.symm, (Below.refl _ _).alloc (Nat.le_refl _) _⟩
  have ds1 : decide (sd < 0) = false := decide_eq_false (by omega)
  by_cases s2 : sd ≤ 2
  case neg =>
    have ds2 : decide (2 < sd) = true := decide_eq_true (by omega)
    have Hr := Lib.hid (HF.out (by omega))
    go_enter Tryd.func60, Tryd.ntmps60
    go_wp2_with fail
    refine (HN.out _).mono ?_
    rintro e w1 ⟨rfl, rfl⟩
    go_wp2_with fail
    go_ret
    exact ⟨retb Hr.out.symm, (Below.refl _ _).alloc (Nat.le_refl _) _⟩
  have ds2 : decide (2 < sd) = false := decide_eq_false (by omega)
  by_cases kk : k = 2
  · have e4 : (k == 2) = true := by simpa using kk
    by_cases p1 : 1 ≤ pw
    case neg =>
      have dp1 : decide (1 ≤ pw) = false := decide_eq_false p1
      have Hr := Lib.hid (HF.out (by omega))
      go_enter Tryd.func60, Tryd.ntmps60
      go_wp2_with fail
      refine (HN.out _).mono ?_
      rintro e w1 ⟨rfl, rfl⟩
      go_wp2_with fail
      go_ret
      exact ⟨retb Hr.out.symm, (Below.refl _ _).alloc (Nat.le_refl _) _⟩
    have dp1 : decide (1 ≤ pw) = true := decide_eq_true p1
    by_cases p2 : pw ≤ 1000000000
    case neg =>
      have dp2 : decide (pw ≤ 1000000000) = false := decide_eq_false p2
      have Hr := Lib.hid (HF.out (by omega))
      go_enter Tryd.func60, Tryd.ntmps60
      go_wp2_with fail
      refine (HN.out _).mono ?_
      rintro e w1 ⟨rfl, rfl⟩
      go_wp2_with fail
      go_ret
      exact ⟨retb Hr.out.symm, (Below.refl _ _).alloc (Nat.le_refl _) _⟩
    have dp2 : decide (pw ≤ 1000000000) = true := decide_eq_true p2
    have Hr := Lib.hid (HT.out (by omega))
    go_enter Tryd.func60, Tryd.ntmps60
    go_wp2_with fail
    refine (HN.out _).mono ?_
    rintro e w1 ⟨rfl, rfl⟩
    go_wp2_with fail
    go_ret
    exact ⟨retb Hr.out.symm, (Below.refl _ _).alloc (Nat.le_refl _) _⟩
  · have e4 : (k == 2) = false := by simpa using kk
    by_cases p0 : pw = 0
    case neg =>
      have dp0 : (pw == 0) = false := by simpa using p0
      have Hr := Lib.hid (HF.out (by omega))
      go_enter Tryd.func60, Tryd.ntmps60
      go_wp2_with fail
      refine (HN.out _).mono ?_
      rintro e w1 ⟨rfl, rfl⟩
      go_wp2_with fail
      go_ret
      exact ⟨retb Hr.out.symm, (Below.refl _ _).alloc (Nat.le_refl _) _⟩
    have dp0 : (pw == 0) = true := by simpa using p0
    have Hr := Lib.hid (HT.out (by omega))
    go_enter Tryd.func60, Tryd.ntmps60
    go_wp2_with fail
    refine (HN.out _).mono ?_
    rintro e w1 ⟨rfl, rfl⟩
    go_wp2_with fail
    go_ret
    exact ⟨retb Hr.out.symm, (Below.refl _ _).alloc (Nat.le_refl _) _⟩
end Go.Proofs.YtmjdjcpmkdninaaDoor
