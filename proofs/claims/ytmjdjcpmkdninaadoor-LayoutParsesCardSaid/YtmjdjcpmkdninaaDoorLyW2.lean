/- The walk of a layout's sound. -/
import Derived.Test.YtmjdjcpmkdninaaDoorLyW1
import Derived.Laws.StructEq
namespace Go.Proofs.YtmjdjcpmkdninaaDoor
open Go.RowKit
theorem snd_kind {x : LE} (h : x.k < 0 ∨ 4 < x.k) : Ly.sound x = false := by
  unfold Ly.sound Ly.restOk
  rw [if_neg (by omega), Bool.and_eq_false_iff]
  right
  rw [Bool.eq_false_iff]
  intro hh
  simp only [Bool.and_eq_true, decide_eq_true_eq] at hh
  omega
theorem snd_name {x : LE} (h : Pl.nameOk x.nm = false) : Ly.sound x = false := by unfold Ly.sound; rw [h]; rfl
theorem snd_crest {x : LE} (hn : Pl.nameOk x.nm = true) (h : x.k = 0) : Ly.sound x = Ly.crestOk x := by unfold Ly.sound; rw [hn, if_pos h]; rfl
theorem snd_rest {x : LE} (hn : Pl.nameOk x.nm = true) (h : x.k ≠ 0) : Ly.sound x = Ly.restOk x := by unfold Ly.sound; rw [hn, if_neg h]; rfl
theorem rest_iff (x : LE) : Ly.restOk x = true ↔ ((1 ≤ x.k ∧ x.k ≤ 4) ∧ (1 ≤ x.len ∧ x.len ≤ 1000000) ∧ (-10000 ≤ x.g ∧ x.g ≤ 10000) ∧ (0 ≤ x.c ∧ x.c ≤ 5000) ∧ (0 ≤ x.sd ∧ x.sd ≤ 2) ∧ ((x.k = 2 ∧ 1 ≤ x.pw ∧ x.pw ≤ 1000000000) ∨ (x.k ≠ 2 ∧ x.pw = 0))) := by
  unfold Ly.restOk
  by_cases h2 : x.k = 2
  · rw [if_pos h2]
    simp only [Bool.and_eq_true, decide_eq_true_eq]
    omega
  · rw [if_neg h2]
    simp only [Bool.and_eq_true, decide_eq_true_eq]
    omega
theorem rest_true {x : LE} (h : (1 ≤ x.k ∧ x.k ≤ 4) ∧ (1 ≤ x.len ∧ x.len ≤ 1000000) ∧ (-10000 ≤ x.g ∧ x.g ≤ 10000) ∧ (0 ≤ x.c ∧ x.c ≤ 5000) ∧ (0 ≤ x.sd ∧ x.sd ≤ 2) ∧ ((x.k = 2 ∧ 1 ≤ x.pw ∧ x.pw ≤ 1000000000) ∨ (x.k ≠ 2 ∧ x.pw = 0))) : Ly.restOk x = true := (rest_iff x).2 h
theorem rest_false {x : LE} (h : ¬ ((1 ≤ x.k ∧ x.k ≤ 4) ∧ (1 ≤ x.len ∧ x.len ≤ 1000000) ∧ (-10000 ≤ x.g ∧ x.g ≤ 10000) ∧ (0 ≤ x.c ∧ x.c ≤ 5000) ∧ (0 ≤ x.sd ∧ x.sd ≤ 2) ∧ ((x.k = 2 ∧ 1 ≤ x.pw ∧ x.pw ≤ 1000000000) ∨ (x.k ≠ 2 ∧ x.pw = 0)))) : Ly.restOk x = false := Bool.eq_false_iff.2 fun hh => h ((rest_iff x).1 hh)
def LSoundR (x : LE) (w : World) (e : Ending) (w' : World) : Prop := e = .returned (.bool (Ly.sound x)) ∧ Below w.heap.size w w'
set_option maxRecDepth 100000 in
set_option maxHeartbeats 8000000 in
theorem lsound_c (k : Int) (nm : ByteArray) (pp sd len g c pw : Int) (w : World) (hs : nm.size ≤ maxLen) :
    Calls Tryd.prog 32 #[.agg #[.int .i64 k, .string nm, .int .i64 pp, .int .i64 sd, .int .i64 len, .int .i64 g, .int .i64 c, .int .i64 pw]] w (LSoundR ⟨k, nm, pp, sd, len, g, c, pw⟩ w) := by
  obtain ⟨x, hx⟩ : ∃ x : LE, x = ⟨k, nm, pp, sd, len, g, c, pw⟩ := ⟨_, rfl⟩
  rw [← hx]
  have Hx := Lib.hid hx
  clear hx
  have hbw : Below w.heap.size w (w.alloc (.cells #[.int .i64 k, .string nm, .int .i64 pp, .int .i64 sd, .int .i64 len, .int .i64 g, .int .i64 c, .int .i64 pw] 48)) := (Below.refl _ _).alloc (Nat.le_refl _) _
  have HN := Lib.hid (fun W => name_c nm W hs)
  have HK := Lib.hid (snd_kind (x := x))
  have HM := Lib.hid (snd_name (x := x))
  have HC := Lib.hid (snd_crest (x := x))
  have HR := Lib.hid (snd_rest (x := x))
  have HT := Lib.hid (rest_true (x := x))
  have HF := Lib.hid (rest_false (x := x))
  have HCr : Hid (Ly.crestOk x = (decide (pp = -1) && decide (sd = 0) && decide (len = 0) && decide (g = 0) && decide (c = 0) && decide (pw = 0))) := Lib.hid (by rw [Hx.out]; rfl)
  have Hf : Hid (x.k = k ∧ x.nm = nm ∧ x.pw = pw ∧ x.len = len ∧ x.g = g ∧ x.c = c ∧ x.sd = sd) := Lib.hid (by rw [Hx.out]; exact ⟨rfl, rfl, rfl, rfl, rfl, rfl, rfl⟩)
  obtain ⟨f1, f2, f3, f4, f5, f6, f7⟩ := Hf.out
  rw [f1] at HK HC HR HT HF
  rw [f2] at HM HC HR
  rw [f3, f4, f5, f6, f7] at HT HF
  clear f1 f2 f3 f4 f5 f6 f7 Hf Hx
  by_cases k0 : k < 0
  · have e1 : decide (k < 0) = true := decide_eq_true k0
    have Hr := Lib.hid (HK.out (.inl k0))
    clear k0
    go_enter Tryd.func32, Tryd.ntmps32
    go_wp2_with fail
    go_ret
    exact ⟨retb Hr.out.symm, (Below.refl _ _).alloc (Nat.le_refl _) _⟩
  have e1 : decide (k < 0) = false := decide_eq_false k0
  by_cases k4 : 4 < k
  · have e2 : decide (4 < k) = true := decide_eq_true k4
    have Hr := Lib.hid (HK.out (.inr k4))
    clear k0 k4
    go_enter Tryd.func32, Tryd.ntmps32
    go_wp2_with fail
    go_ret
    exact ⟨retb Hr.out.symm, (Below.refl _ _).alloc (Nat.le_refl _) _⟩
  have e2 : decide (4 < k) = false := decide_eq_false k4
  by_cases hnm : Pl.nameOk nm = true
  case neg =>
    have hnf : Pl.nameOk nm = false := by simpa using hnm
    have Hr := Lib.hid (HM.out hnf)
    rw [hnf] at HN
    clear k0 k4 hnm hnf
    go_enter Tryd.func32, Tryd.ntmps32
    go_wp2_with fail
    refine (HN.out _).mono ?_
    rintro e w1 ⟨rfl, rfl⟩
    go_wp2_with fail
    go_ret
    exact ⟨retb Hr.out.symm, (Below.refl _ _).alloc (Nat.le_refl _) _⟩
  rw [hnm] at HN
  have HC' := Lib.hid (fun h => HC.out hnm h)
  have HR' := Lib.hid (fun h => HR.out hnm h)
  clear hnm HC HR
  by_cases kz : k = 0
  · have e3 : (k == 0) = true := by simpa using kz
    have Hr := Lib.hid ((HC'.out kz).trans HCr.out)
    subst kz
    go_enter Tryd.func32, Tryd.ntmps32
    go_wp2_with fail
    refine (HN.out _).mono ?_
    rintro e w1 ⟨rfl, rfl⟩
    go_wp2_with fail
    all_goals go_ret
    all_goals exact ⟨retb (by rw [Hr.out]; simp [*]), (Below.refl _ _).alloc (Nat.le_refl _) _⟩
  have e3 : (k == 0) = false := by simpa using kz
  have HR2 := HR'.out kz
  unfold LSoundR
  rw [HR2]
  clear HK HM HC' HR' HCr
  by_cases k2 : k = 2
  · have e4 : (k == 2) = true := by simpa using k2
    by_cases p1 : 1 ≤ pw
    case neg =>
      have dp1 : decide (1 ≤ pw) = false := decide_eq_false p1
      have Hr := Lib.hid (HF.out (by omega))
      go_enter Tryd.func32, Tryd.ntmps32
      go_wp2_with fail
      refine (HN.out _).mono ?_
      rintro e w1 ⟨rfl, rfl⟩
      go_wp2_with fail
      go_ret
      exact ⟨retb Hr.out.symm, (Below.refl _ _).alloc (Nat.le_refl _) _⟩
    have dp1 : decide (1 ≤ pw) = true := decide_eq_true p1
    by_cases p2 : pw ≤ 1000000000
    case neg =>
      have dp2 : decide (pw ≤ 1000000000) = false := decide_eq_false p2
      have Hr := Lib.hid (HF.out (by omega))
      go_enter Tryd.func32, Tryd.ntmps32
      go_wp2_with fail
      refine (HN.out _).mono ?_
      rintro e w1 ⟨rfl, rfl⟩
      go_wp2_with fail
      go_ret
      exact ⟨retb Hr.out.symm, (Below.refl _ _).alloc (Nat.le_refl _) _⟩
    have dp2 : decide (pw ≤ 1000000000) = true := decide_eq_true p2
    by_cases len1 : 1 ≤ len
    case neg =>
      have dlen1 : decide (1 ≤ len) = false := decide_eq_false len1
      have Hr := Lib.hid (HF.out (by omega))
      go_enter Tryd.func32, Tryd.ntmps32
      go_wp2_with fail
      refine (HN.out _).mono ?_
      rintro e w1 ⟨rfl, rfl⟩
      go_wp2_with fail
      go_ret
      exact ⟨retb Hr.out.symm, (Below.refl _ _).alloc (Nat.le_refl _) _⟩
    have dlen1 : decide (1 ≤ len) = true := decide_eq_true len1
    by_cases len2 : len ≤ 1000000
    case neg =>
      have dlen2 : decide (len ≤ 1000000) = false := decide_eq_false len2
      have Hr := Lib.hid (HF.out (by omega))
      go_enter Tryd.func32, Tryd.ntmps32
      go_wp2_with fail
      refine (HN.out _).mono ?_
      rintro e w1 ⟨rfl, rfl⟩
      go_wp2_with fail
      go_ret
      exact ⟨retb Hr.out.symm, (Below.refl _ _).alloc (Nat.le_refl _) _⟩
    have dlen2 : decide (len ≤ 1000000) = true := decide_eq_true len2
    by_cases g1 : -10000 ≤ g
    case neg =>
      have dg1 : decide (-10000 ≤ g) = false := decide_eq_false g1
      have Hr := Lib.hid (HF.out (by omega))
      go_enter Tryd.func32, Tryd.ntmps32
      go_wp2_with fail
      refine (HN.out _).mono ?_
      rintro e w1 ⟨rfl, rfl⟩
      go_wp2_with fail
      go_ret
      exact ⟨retb Hr.out.symm, (Below.refl _ _).alloc (Nat.le_refl _) _⟩
    have dg1 : decide (-10000 ≤ g) = true := decide_eq_true g1
    by_cases g2 : g ≤ 10000
    case neg =>
      have dg2 : decide (g ≤ 10000) = false := decide_eq_false g2
      have Hr := Lib.hid (HF.out (by omega))
      go_enter Tryd.func32, Tryd.ntmps32
      go_wp2_with fail
      refine (HN.out _).mono ?_
      rintro e w1 ⟨rfl, rfl⟩
      go_wp2_with fail
      go_ret
      exact ⟨retb Hr.out.symm, (Below.refl _ _).alloc (Nat.le_refl _) _⟩
    have dg2 : decide (g ≤ 10000) = true := decide_eq_true g2
    by_cases c1 : 0 ≤ c
    case neg =>
      have dc1 : decide (0 ≤ c) = false := decide_eq_false c1
      have Hr := Lib.hid (HF.out (by omega))
      go_enter Tryd.func32, Tryd.ntmps32
      go_wp2_with fail
      refine (HN.out _).mono ?_
      rintro e w1 ⟨rfl, rfl⟩
      go_wp2_with fail
      go_ret
      exact ⟨retb Hr.out.symm, (Below.refl _ _).alloc (Nat.le_refl _) _⟩
    have dc1 : decide (0 ≤ c) = true := decide_eq_true c1
    by_cases c2 : c ≤ 5000
    case neg =>
      have dc2 : decide (c ≤ 5000) = false := decide_eq_false c2
      have Hr := Lib.hid (HF.out (by omega))
      go_enter Tryd.func32, Tryd.ntmps32
      go_wp2_with fail
      refine (HN.out _).mono ?_
      rintro e w1 ⟨rfl, rfl⟩
      go_wp2_with fail
      go_ret
      exact ⟨retb Hr.out.symm, (Below.refl _ _).alloc (Nat.le_refl _) _⟩
    have dc2 : decide (c ≤ 5000) = true := decide_eq_true c2
    by_cases s1 : 0 ≤ sd
    case neg =>
      have ds1 : decide (0 ≤ sd) = false := decide_eq_false s1
      have Hr := Lib.hid (HF.out (by omega))
      go_enter Tryd.func32, Tryd.ntmps32
      go_wp2_with fail
      refine (HN.out _).mono ?_
      rintro e w1 ⟨rfl, rfl⟩
      go_wp2_with fail
      go_ret
      exact ⟨retb Hr.out.symm, (Below.refl _ _).alloc (Nat.le_refl _) _⟩
    have ds1 : decide (0 ≤ sd) = true := decide_eq_true s1
    by_cases s2 : sd ≤ 2
    case neg =>
      have ds2 : decide (sd ≤ 2) = false := decide_eq_false s2
      have Hr := Lib.hid (HF.out (by omega))
      go_enter Tryd.func32, Tryd.ntmps32
      go_wp2_with fail
      refine (HN.out _).mono ?_
      rintro e w1 ⟨rfl, rfl⟩
      go_wp2_with fail
      go_ret
      exact ⟨retb Hr.out.symm, (Below.refl _ _).alloc (Nat.le_refl _) _⟩
    have ds2 : decide (sd ≤ 2) = true := decide_eq_true s2
    have Hr := Lib.hid (HT.out (by omega))
    go_enter Tryd.func32, Tryd.ntmps32
    go_wp2_with fail
    refine (HN.out _).mono ?_
    rintro e w1 ⟨rfl, rfl⟩
    go_wp2_with fail
    go_ret
    exact ⟨retb Hr.out.symm, (Below.refl _ _).alloc (Nat.le_refl _) _⟩
  · have e4 : (k == 2) = false := by simpa using k2
    by_cases p0 : pw = 0
    case neg =>
      have dp0 : (pw == 0) = false := by simpa using p0
      have Hr := Lib.hid (HF.out (by omega))
      go_enter Tryd.func32, Tryd.ntmps32
      go_wp2_with fail
      refine (HN.out _).mono ?_
      rintro e w1 ⟨rfl, rfl⟩
      go_wp2_with fail
      go_ret
      exact ⟨retb Hr.out.symm, (Below.refl _ _).alloc (Nat.le_refl _) _⟩
    have dp0 : (pw == 0) = true := by simpa using p0
    by_cases len1 : 1 ≤ len
    case neg =>
      have dlen1 : decide (1 ≤ len) = false := decide_eq_false len1
      have Hr := Lib.hid (HF.out (by omega))
      go_enter Tryd.func32, Tryd.ntmps32
      go_wp2_with fail
      refine (HN.out _).mono ?_
      rintro e w1 ⟨rfl, rfl⟩
      go_wp2_with fail
      go_ret
      exact ⟨retb Hr.out.symm, (Below.refl _ _).alloc (Nat.le_refl _) _⟩
    have dlen1 : decide (1 ≤ len) = true := decide_eq_true len1
    by_cases len2 : len ≤ 1000000
    case neg =>
      have dlen2 : decide (len ≤ 1000000) = false := decide_eq_false len2
      have Hr := Lib.hid (HF.out (by omega))
      go_enter Tryd.func32, Tryd.ntmps32
      go_wp2_with fail
      refine (HN.out _).mono ?_
      rintro e w1 ⟨rfl, rfl⟩
      go_wp2_with fail
      go_ret
      exact ⟨retb Hr.out.symm, (Below.refl _ _).alloc (Nat.le_refl _) _⟩
    have dlen2 : decide (len ≤ 1000000) = true := decide_eq_true len2
    by_cases g1 : -10000 ≤ g
    case neg =>
      have dg1 : decide (-10000 ≤ g) = false := decide_eq_false g1
      have Hr := Lib.hid (HF.out (by omega))
      go_enter Tryd.func32, Tryd.ntmps32
      go_wp2_with fail
      refine (HN.out _).mono ?_
      rintro e w1 ⟨rfl, rfl⟩
      go_wp2_with fail
      go_ret
      exact ⟨retb Hr.out.symm, (Below.refl _ _).alloc (Nat.le_refl _) _⟩
    have dg1 : decide (-10000 ≤ g) = true := decide_eq_true g1
    by_cases g2 : g ≤ 10000
    case neg =>
      have dg2 : decide (g ≤ 10000) = false := decide_eq_false g2
      have Hr := Lib.hid (HF.out (by omega))
      go_enter Tryd.func32, Tryd.ntmps32
      go_wp2_with fail
      refine (HN.out _).mono ?_
      rintro e w1 ⟨rfl, rfl⟩
      go_wp2_with fail
      go_ret
      exact ⟨retb Hr.out.symm, (Below.refl _ _).alloc (Nat.le_refl _) _⟩
    have dg2 : decide (g ≤ 10000) = true := decide_eq_true g2
    by_cases c1 : 0 ≤ c
    case neg =>
      have dc1 : decide (0 ≤ c) = false := decide_eq_false c1
      have Hr := Lib.hid (HF.out (by omega))
      go_enter Tryd.func32, Tryd.ntmps32
      go_wp2_with fail
      refine (HN.out _).mono ?_
      rintro e w1 ⟨rfl, rfl⟩
      go_wp2_with fail
      go_ret
      exact ⟨retb Hr.out.symm, (Below.refl _ _).alloc (Nat.le_refl _) _⟩
    have dc1 : decide (0 ≤ c) = true := decide_eq_true c1
    by_cases c2 : c ≤ 5000
    case neg =>
      have dc2 : decide (c ≤ 5000) = false := decide_eq_false c2
      have Hr := Lib.hid (HF.out (by omega))
      go_enter Tryd.func32, Tryd.ntmps32
      go_wp2_with fail
      refine (HN.out _).mono ?_
      rintro e w1 ⟨rfl, rfl⟩
      go_wp2_with fail
      go_ret
      exact ⟨retb Hr.out.symm, (Below.refl _ _).alloc (Nat.le_refl _) _⟩
    have dc2 : decide (c ≤ 5000) = true := decide_eq_true c2
    by_cases s1 : 0 ≤ sd
    case neg =>
      have ds1 : decide (0 ≤ sd) = false := decide_eq_false s1
      have Hr := Lib.hid (HF.out (by omega))
      go_enter Tryd.func32, Tryd.ntmps32
      go_wp2_with fail
      refine (HN.out _).mono ?_
      rintro e w1 ⟨rfl, rfl⟩
      go_wp2_with fail
      go_ret
      exact ⟨retb Hr.out.symm, (Below.refl _ _).alloc (Nat.le_refl _) _⟩
    have ds1 : decide (0 ≤ sd) = true := decide_eq_true s1
    by_cases s2 : sd ≤ 2
    case neg =>
      have ds2 : decide (sd ≤ 2) = false := decide_eq_false s2
      have Hr := Lib.hid (HF.out (by omega))
      go_enter Tryd.func32, Tryd.ntmps32
      go_wp2_with fail
      refine (HN.out _).mono ?_
      rintro e w1 ⟨rfl, rfl⟩
      go_wp2_with fail
      go_ret
      exact ⟨retb Hr.out.symm, (Below.refl _ _).alloc (Nat.le_refl _) _⟩
    have ds2 : decide (sd ≤ 2) = true := decide_eq_true s2
    have Hr := Lib.hid (HT.out (by omega))
    go_enter Tryd.func32, Tryd.ntmps32
    go_wp2_with fail
    refine (HN.out _).mono ?_
    rintro e w1 ⟨rfl, rfl⟩
    go_wp2_with fail
    go_ret
    exact ⟨retb Hr.out.symm, (Below.refl _ _).alloc (Nat.le_refl _) _⟩
end Go.Proofs.YtmjdjcpmkdninaaDoor
