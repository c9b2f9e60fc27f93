/- The walk of reconcile.step at one list twice. -/
import Derived.Test.YtocohkgdkebmdaaGreatAxW1
namespace Go.Proofs.YtocohkgdkebmdaaGreat
open Go.RowKit
/-- What step leaves. -/
def StR (n i j e : Nat) (w : World) (r : Ending) (w' : World) : Prop :=
  ∃ (k l : Nat) (ok : Bool), r = .returned (.tuple #[.int .i64 k, .int .i64 l, .bool ok]) ∧ Ax.StepP n i j e k l ok ∧ ∃ q, w' = w.drewN q
set_option maxRecDepth 100000 in
theorem rstep0_c (A : Option Addr) (n c i j : Nat) (L : List Nat) (w : World) (hn : n ≤ 96) (h : NR w A n L) (hi : i ≤ n) (hj : j ≤ n) :
    Calls Tryz.prog 34 #[.slice A n c, .slice A n c, .int .i64 i, .int .i64 j, .int .i64 ((0 : Nat) : Int)] w (StR n i j 0 w) := by
  by_cases hb : i < n ∧ j < n
  · obtain ⟨h1, h2⟩ := hb
    obtain ⟨ad, rfl, _, c1⟩ := codes_at h h1
    obtain ⟨ad', hea, _, c2⟩ := codes_at h h2
    obtain rfl := Option.some.inj hea
    obtain ⟨x, hx⟩ : ∃ x, Tl.kAt L i = x := ⟨_, rfl⟩
    obtain ⟨y, hy⟩ : ∃ y, Tl.kAt L j = y := ⟨_, rfl⟩
    rw [hx] at c1
    rw [hy] at c2
    have hxy : i = j → x = y := fun e => by subst e; rw [← hx, ← hy]
    obtain ⟨ok, hok⟩ : ∃ ok, ((x : Int) == (y : Int)) = ok := ⟨_, rfl⟩
    have hS : Ax.StepP n i j 0 (i + 1) (j + 1) ok := ⟨fun _ => ⟨by omega, by omega, by omega, by omega, by omega⟩, fun _ e _ => ⟨by rw [← hok, hxy e]; simp, rfl, rfl⟩, fun e => absurd e (by omega), fun e => absurd e (by omega)⟩
    have HS := Lib.hid hS
    clear hS hxy hx hy hea h
    go_enter Tryz.func34, Tryz.ntmps34
    go_wp2_with fail
    go_quiet (fail)
    go_wp2_with fail
    refine bodyPost_ret (v := .tuple #[.int .i64 ((i : Int) + 1), .int .i64 ((j : Int) + 1), .bool ok]) (by simp [results, Tryz.results34, go_sem]) rfl ?_
    exact ⟨i + 1, j + 1, ok, rfl, HS.out, _, rfl⟩
  · have hS : Ax.StepP n i j 0 (i + 1) (j + 1) false := by
      refine ⟨fun e => absurd e (by simp), fun _ e h => absurd (show i < n ∧ j < n from ⟨h, by omega⟩) hb, fun e => absurd e (by omega), fun e => absurd e (by omega)⟩
    have HS := Lib.hid hS
    clear hS
    rcases Nat.lt_or_ge i n with h1 | h1
    · have d1 : decide ((i : Int) < (n : Int)) = true := decide_eq_true (by omega)
      have d2 : decide ((j : Int) < (n : Int)) = false := decide_eq_false (by omega)
      have d3 : decide (i < n) = true := decide_eq_true h1
      have d4 : decide (j < n) = false := decide_eq_false (by omega)
      go_enter Tryz.func34, Tryz.ntmps34
      go_wp2_with fail
      go_quiet (fail)
      go_wp2_with fail
      refine bodyPost_ret (v := .tuple #[.int .i64 ((i : Int) + 1), .int .i64 ((j : Int) + 1), .bool false]) (by simp [results, Tryz.results34, go_sem]) rfl ?_
      exact ⟨i + 1, j + 1, false, rfl, HS.out, _, rfl⟩
    · have d1 : decide ((i : Int) < (n : Int)) = false := decide_eq_false (by omega)
      have d3 : decide (i < n) = false := decide_eq_false (by omega)
      go_enter Tryz.func34, Tryz.ntmps34
      go_wp2_with fail
      go_quiet (fail)
      go_wp2_with fail
      refine bodyPost_ret (v := .tuple #[.int .i64 ((i : Int) + 1), .int .i64 ((j : Int) + 1), .bool false]) (by simp [results, Tryz.results34, go_sem]) rfl ?_
      exact ⟨i + 1, j + 1, false, rfl, HS.out, _, rfl⟩
set_option maxRecDepth 100000 in
theorem rstep1_c (A : Option Addr) (n c i j : Nat) (L : List Nat) (w : World) (hn : n ≤ 96) (h : NR w A n L) (hi : i ≤ n) (hj : j ≤ n) :
    Calls Tryz.prog 34 #[.slice A n c, .slice A n c, .int .i64 i, .int .i64 j, .int .i64 ((1 : Nat) : Int)] w (StR n i j 1 w) := by
  by_cases hb : i < n ∧ j < n
  · obtain ⟨h1, h2⟩ := hb
    obtain ⟨ad, rfl, _, c1⟩ := codes_at h h1
    obtain ⟨ad', hea, _, c2⟩ := codes_at h h2
    obtain rfl := Option.some.inj hea
    obtain ⟨x, hx⟩ : ∃ x, Tl.kAt L i = x := ⟨_, rfl⟩
    obtain ⟨y, hy⟩ : ∃ y, Tl.kAt L j = y := ⟨_, rfl⟩
    rw [hx] at c1
    rw [hy] at c2
    have hxy : i = j → x = y := fun e => by subst e; rw [← hx, ← hy]
    obtain ⟨ok, hok⟩ : ∃ ok, ((x : Int) != (y : Int)) = ok := ⟨_, rfl⟩
    have hS : Ax.StepP n i j 1 (i + 1) (j + 1) ok := ⟨fun _ => ⟨by omega, by omega, by omega, by omega, by omega⟩, fun e => absurd e (by omega), fun e => absurd e (by omega), fun e => absurd e (by omega)⟩
    have HS := Lib.hid hS
    clear hS hxy hx hy hea h
    go_enter Tryz.func34, Tryz.ntmps34
    go_wp2_with fail
    go_quiet (fail)
    go_wp2_with fail
    refine bodyPost_ret (v := .tuple #[.int .i64 ((i : Int) + 1), .int .i64 ((j : Int) + 1), .bool ok]) (by simp [results, Tryz.results34, go_sem]) rfl ?_
    exact ⟨i + 1, j + 1, ok, rfl, HS.out, _, rfl⟩
  · have hS : Ax.StepP n i j 1 (i + 1) (j + 1) false := by
      refine ⟨fun e => absurd e (by simp), fun e => absurd e (by omega), fun e => absurd e (by omega), fun e => absurd e (by omega)⟩
    have HS := Lib.hid hS
    clear hS
    rcases Nat.lt_or_ge i n with h1 | h1
    · have d1 : decide ((i : Int) < (n : Int)) = true := decide_eq_true (by omega)
      have d2 : decide ((j : Int) < (n : Int)) = false := decide_eq_false (by omega)
      have d3 : decide (i < n) = true := decide_eq_true h1
      have d4 : decide (j < n) = false := decide_eq_false (by omega)
      go_enter Tryz.func34, Tryz.ntmps34
      go_wp2_with fail
      go_quiet (fail)
      go_wp2_with fail
      refine bodyPost_ret (v := .tuple #[.int .i64 ((i : Int) + 1), .int .i64 ((j : Int) + 1), .bool false]) (by simp [results, Tryz.results34, go_sem]) rfl ?_
      exact ⟨i + 1, j + 1, false, rfl, HS.out, _, rfl⟩
    · have d1 : decide ((i : Int) < (n : Int)) = false := decide_eq_false (by omega)
      have d3 : decide (i < n) = false := decide_eq_false (by omega)
      go_enter Tryz.func34, Tryz.ntmps34
      go_wp2_with fail
      go_quiet (fail)
      go_wp2_with fail
      refine bodyPost_ret (v := .tuple #[.int .i64 ((i : Int) + 1), .int .i64 ((j : Int) + 1), .bool false]) (by simp [results, Tryz.results34, go_sem]) rfl ?_
      exact ⟨i + 1, j + 1, false, rfl, HS.out, _, rfl⟩
set_option maxRecDepth 100000 in
theorem rstep2_c (A : Option Addr) (n c i j : Nat) (w : World) (hn : n ≤ 96) (hi : i ≤ n) (hj : j ≤ n) :
    Calls Tryz.prog 34 #[.slice A n c, .slice A n c, .int .i64 i, .int .i64 j, .int .i64 ((2 : Nat) : Int)] w (StR n i j 2 w) := by
  rcases Nat.lt_or_ge i n with h1 | h1
  · rcases Nat.lt_or_ge j n with h2 | h2
    · have HS : Hid (Ax.StepP n i j 2 (i + 1) (j) true) := Lib.hid ⟨fun _ => ⟨by omega, by omega, by omega, by omega, by omega⟩, fun h => absurd h (by omega), fun _ _ => rfl, fun h => absurd h (by omega)⟩
      have d1 : decide ((i : Int) < (n : Int)) = true := decide_eq_true (by omega)
      have d2 : decide ((j : Int) < (n : Int)) = true := decide_eq_true (by omega)
      have d3 : decide (i < n) = true := decide_eq_true (by omega)
      have d4 : decide (j < n) = true := decide_eq_true (by omega)
      go_enter Tryz.func34, Tryz.ntmps34
      go_wp2_with fail
      refine bodyPost_ret (v := .tuple #[.int .i64 ((i : Int) + 1), .int .i64 ((j : Int)), .bool true]) (by simp [results, Tryz.results34, go_sem]) rfl ?_
      exact ⟨i + 1, j, true, rfl, HS.out, 0, rfl⟩
    · have HS : Hid (Ax.StepP n i j 2 (i + 1) (j) true) := Lib.hid ⟨fun _ => ⟨by omega, by omega, by omega, by omega, by omega⟩, fun h => absurd h (by omega), fun _ _ => rfl, fun h => absurd h (by omega)⟩
      have d1 : decide ((i : Int) < (n : Int)) = true := decide_eq_true (by omega)
      have d2 : decide ((j : Int) < (n : Int)) = false := decide_eq_false (by omega)
      have d3 : decide (i < n) = true := decide_eq_true (by omega)
      have d4 : decide (j < n) = false := decide_eq_false (by omega)
      go_enter Tryz.func34, Tryz.ntmps34
      go_wp2_with fail
      refine bodyPost_ret (v := .tuple #[.int .i64 ((i : Int) + 1), .int .i64 ((j : Int)), .bool true]) (by simp [results, Tryz.results34, go_sem]) rfl ?_
      exact ⟨i + 1, j, true, rfl, HS.out, 0, rfl⟩
  · rcases Nat.lt_or_ge j n with h2 | h2
    · have HS : Hid (Ax.StepP n i j 2 (i + 1) (j) false) := Lib.hid ⟨fun h => absurd h (by simp), fun h => absurd h (by omega), fun _ h => absurd h (by omega), fun h => absurd h (by omega)⟩
      have d1 : decide ((i : Int) < (n : Int)) = false := decide_eq_false (by omega)
      have d2 : decide ((j : Int) < (n : Int)) = true := decide_eq_true (by omega)
      have d3 : decide (i < n) = false := decide_eq_false (by omega)
      have d4 : decide (j < n) = true := decide_eq_true (by omega)
      go_enter Tryz.func34, Tryz.ntmps34
      go_wp2_with fail
      refine bodyPost_ret (v := .tuple #[.int .i64 ((i : Int) + 1), .int .i64 ((j : Int)), .bool false]) (by simp [results, Tryz.results34, go_sem]) rfl ?_
      exact ⟨i + 1, j, false, rfl, HS.out, 0, rfl⟩
    · have HS : Hid (Ax.StepP n i j 2 (i + 1) (j) false) := Lib.hid ⟨fun h => absurd h (by simp), fun h => absurd h (by omega), fun _ h => absurd h (by omega), fun h => absurd h (by omega)⟩
      have d1 : decide ((i : Int) < (n : Int)) = false := decide_eq_false (by omega)
      have d2 : decide ((j : Int) < (n : Int)) = false := decide_eq_false (by omega)
      have d3 : decide (i < n) = false := decide_eq_false (by omega)
      have d4 : decide (j < n) = false := decide_eq_false (by omega)
      go_enter Tryz.func34, Tryz.ntmps34
      go_wp2_with fail
      refine bodyPost_ret (v := .tuple #[.int .i64 ((i : Int) + 1), .int .i64 ((j : Int)), .bool false]) (by simp [results, Tryz.results34, go_sem]) rfl ?_
      exact ⟨i + 1, j, false, rfl, HS.out, 0, rfl⟩
set_option maxRecDepth 100000 in
theorem rstep3_c (A : Option Addr) (n c i j : Nat) (w : World) (hn : n ≤ 96) (hi : i ≤ n) (hj : j ≤ n) :
    Calls Tryz.prog 34 #[.slice A n c, .slice A n c, .int .i64 i, .int .i64 j, .int .i64 ((3 : Nat) : Int)] w (StR n i j 3 w) := by
  rcases Nat.lt_or_ge i n with h1 | h1
  · rcases Nat.lt_or_ge j n with h2 | h2
    · have HS : Hid (Ax.StepP n i j 3 (i) (j + 1) true) := Lib.hid ⟨fun _ => ⟨by omega, by omega, by omega, by omega, by omega⟩, fun h => absurd h (by omega), fun h => absurd h (by omega), fun _ _ => rfl⟩
      have d1 : decide ((i : Int) < (n : Int)) = true := decide_eq_true (by omega)
      have d2 : decide ((j : Int) < (n : Int)) = true := decide_eq_true (by omega)
      have d3 : decide (i < n) = true := decide_eq_true (by omega)
      have d4 : decide (j < n) = true := decide_eq_true (by omega)
      go_enter Tryz.func34, Tryz.ntmps34
      go_wp2_with fail
      refine bodyPost_ret (v := .tuple #[.int .i64 ((i : Int)), .int .i64 ((j : Int) + 1), .bool true]) (by simp [results, Tryz.results34, go_sem]) rfl ?_
      exact ⟨i, j + 1, true, rfl, HS.out, 0, rfl⟩
    · have HS : Hid (Ax.StepP n i j 3 (i) (j + 1) false) := Lib.hid ⟨fun h => absurd h (by simp), fun h => absurd h (by omega), fun h => absurd h (by omega), fun _ h => absurd h (by omega)⟩
      have d1 : decide ((i : Int) < (n : Int)) = true := decide_eq_true (by omega)
      have d2 : decide ((j : Int) < (n : Int)) = false := decide_eq_false (by omega)
      have d3 : decide (i < n) = true := decide_eq_true (by omega)
      have d4 : decide (j < n) = false := decide_eq_false (by omega)
      go_enter Tryz.func34, Tryz.ntmps34
      go_wp2_with fail
      refine bodyPost_ret (v := .tuple #[.int .i64 ((i : Int)), .int .i64 ((j : Int) + 1), .bool false]) (by simp [results, Tryz.results34, go_sem]) rfl ?_
      exact ⟨i, j + 1, false, rfl, HS.out, 0, rfl⟩
  · rcases Nat.lt_or_ge j n with h2 | h2
    · have HS : Hid (Ax.StepP n i j 3 (i) (j + 1) true) := Lib.hid ⟨fun _ => ⟨by omega, by omega, by omega, by omega, by omega⟩, fun h => absurd h (by omega), fun h => absurd h (by omega), fun _ _ => rfl⟩
      have d1 : decide ((i : Int) < (n : Int)) = false := decide_eq_false (by omega)
      have d2 : decide ((j : Int) < (n : Int)) = true := decide_eq_true (by omega)
      have d3 : decide (i < n) = false := decide_eq_false (by omega)
      have d4 : decide (j < n) = true := decide_eq_true (by omega)
      go_enter Tryz.func34, Tryz.ntmps34
      go_wp2_with fail
      refine bodyPost_ret (v := .tuple #[.int .i64 ((i : Int)), .int .i64 ((j : Int) + 1), .bool true]) (by simp [results, Tryz.results34, go_sem]) rfl ?_
      exact ⟨i, j + 1, true, rfl, HS.out, 0, rfl⟩
    · have HS : Hid (Ax.StepP n i j 3 (i) (j + 1) false) := Lib.hid ⟨fun h => absurd h (by simp), fun h => absurd h (by omega), fun h => absurd h (by omega), fun _ h => absurd h (by omega)⟩
      have d1 : decide ((i : Int) < (n : Int)) = false := decide_eq_false (by omega)
      have d2 : decide ((j : Int) < (n : Int)) = false := decide_eq_false (by omega)
      have d3 : decide (i < n) = false := decide_eq_false (by omega)
      have d4 : decide (j < n) = false := decide_eq_false (by omega)
      go_enter Tryz.func34, Tryz.ntmps34
      go_wp2_with fail
      refine bodyPost_ret (v := .tuple #[.int .i64 ((i : Int)), .int .i64 ((j : Int) + 1), .bool false]) (by simp [results, Tryz.results34, go_sem]) rfl ?_
      exact ⟨i, j + 1, false, rfl, HS.out, 0, rfl⟩
set_option maxRecDepth 100000 in
set_option maxHeartbeats 1000000 in
theorem rstep4_c (A : Option Addr) (n c i j : Nat) (L : List Nat) (w : World) (hn : n ≤ 96) (h : NR w A n L) (hi : i ≤ n) (hj : j ≤ n) :
    Calls Tryz.prog 34 #[.slice A n c, .slice A n c, .int .i64 i, .int .i64 j, .int .i64 ((4 : Nat) : Int)] w (StR n i j 4 w) := by
  have HN : Hid (∀ k l, Ax.StepP n i j 4 k l false) := Lib.hid fun k l => ⟨fun h => absurd h (by simp), fun h => absurd h (by omega), fun h => absurd h (by omega), fun h => absurd h (by omega)⟩
  rcases (show i = n ∨ i + 1 = n ∨ i + 1 < n by omega) with h1 | h1 | h1
  · rcases (show j = n ∨ j + 1 = n ∨ j + 1 < n by omega) with h2 | h2 | h2
    · have d1 : decide ((i : Int) < (n : Int)) = false := decide_eq_false (by omega)
      have d2 : decide ((j : Int) < (n : Int)) = false := decide_eq_false (by omega)
      have d3 : decide (i < n) = false := decide_eq_false (by omega)
      have d4 : decide (j < n) = false := decide_eq_false (by omega)
      have d5 : decide ((i : Int) + 1 < (n : Int)) = false := decide_eq_false (by omega)
      have d6 : decide ((j : Int) + 1 < (n : Int)) = false := decide_eq_false (by omega)
      have h1' := Lib.hid h1
      have h2' := Lib.hid h2
      clear h1 h2
      go_enter Tryz.func34, Tryz.ntmps34
      go_wp2_with fail
      go_quiet (fail)
      go_wp2_with fail
      refine bodyPost_ret (v := .tuple #[.int .i64 ((i : Int) + 2), .int .i64 ((j : Int) + 2), .bool false]) (by simp [results, Tryz.results34, go_sem]) rfl ?_
      exact ⟨i + 2, j + 2, false, rfl, HN.out _ _, _, rfl⟩
    · have d1 : decide ((i : Int) < (n : Int)) = false := decide_eq_false (by omega)
      have d2 : decide ((j : Int) < (n : Int)) = true := decide_eq_true (by omega)
      have d3 : decide (i < n) = false := decide_eq_false (by omega)
      have d4 : decide (j < n) = true := decide_eq_true (by omega)
      have d5 : decide ((i : Int) + 1 < (n : Int)) = false := decide_eq_false (by omega)
      have d6 : decide ((j : Int) + 1 < (n : Int)) = false := decide_eq_false (by omega)
      have h1' := Lib.hid h1
      have h2' := Lib.hid h2
      clear h1 h2
      go_enter Tryz.func34, Tryz.ntmps34
      go_wp2_with fail
      go_quiet (fail)
      go_wp2_with fail
      refine bodyPost_ret (v := .tuple #[.int .i64 ((i : Int) + 2), .int .i64 ((j : Int) + 2), .bool false]) (by simp [results, Tryz.results34, go_sem]) rfl ?_
      exact ⟨i + 2, j + 2, false, rfl, HN.out _ _, _, rfl⟩
    · have d1 : decide ((i : Int) < (n : Int)) = false := decide_eq_false (by omega)
      have d2 : decide ((j : Int) < (n : Int)) = true := decide_eq_true (by omega)
      have d3 : decide (i < n) = false := decide_eq_false (by omega)
      have d4 : decide (j < n) = true := decide_eq_true (by omega)
      have d5 : decide ((i : Int) + 1 < (n : Int)) = false := decide_eq_false (by omega)
      have d6 : decide ((j : Int) + 1 < (n : Int)) = true := decide_eq_true (by omega)
      have h1' := Lib.hid h1
      have h2' := Lib.hid h2
      clear h1 h2
      go_enter Tryz.func34, Tryz.ntmps34
      go_wp2_with fail
      go_quiet (fail)
      go_wp2_with fail
      refine bodyPost_ret (v := .tuple #[.int .i64 ((i : Int) + 2), .int .i64 ((j : Int) + 2), .bool false]) (by simp [results, Tryz.results34, go_sem]) rfl ?_
      exact ⟨i + 2, j + 2, false, rfl, HN.out _ _, _, rfl⟩
  · rcases (show j = n ∨ j + 1 = n ∨ j + 1 < n by omega) with h2 | h2 | h2
    · have d1 : decide ((i : Int) < (n : Int)) = true := decide_eq_true (by omega)
      have d2 : decide ((j : Int) < (n : Int)) = false := decide_eq_false (by omega)
      have d3 : decide (i < n) = true := decide_eq_true (by omega)
      have d4 : decide (j < n) = false := decide_eq_false (by omega)
      have d5 : decide ((i : Int) + 1 < (n : Int)) = false := decide_eq_false (by omega)
      have d6 : decide ((j : Int) + 1 < (n : Int)) = false := decide_eq_false (by omega)
      have h1' := Lib.hid h1
      have h2' := Lib.hid h2
      clear h1 h2
      go_enter Tryz.func34, Tryz.ntmps34
      go_wp2_with fail
      go_quiet (fail)
      go_wp2_with fail
      refine bodyPost_ret (v := .tuple #[.int .i64 ((i : Int) + 2), .int .i64 ((j : Int) + 2), .bool false]) (by simp [results, Tryz.results34, go_sem]) rfl ?_
      exact ⟨i + 2, j + 2, false, rfl, HN.out _ _, _, rfl⟩
    · have d1 : decide ((i : Int) < (n : Int)) = true := decide_eq_true (by omega)
      have d2 : decide ((j : Int) < (n : Int)) = true := decide_eq_true (by omega)
      have d3 : decide (i < n) = true := decide_eq_true (by omega)
      have d4 : decide (j < n) = true := decide_eq_true (by omega)
      have d5 : decide ((i : Int) + 1 < (n : Int)) = false := decide_eq_false (by omega)
      have d6 : decide ((j : Int) + 1 < (n : Int)) = false := decide_eq_false (by omega)
      have h1' := Lib.hid h1
      have h2' := Lib.hid h2
      clear h1 h2
      go_enter Tryz.func34, Tryz.ntmps34
      go_wp2_with fail
      go_quiet (fail)
      go_wp2_with fail
      refine bodyPost_ret (v := .tuple #[.int .i64 ((i : Int) + 2), .int .i64 ((j : Int) + 2), .bool false]) (by simp [results, Tryz.results34, go_sem]) rfl ?_
      exact ⟨i + 2, j + 2, false, rfl, HN.out _ _, _, rfl⟩
    · have d1 : decide ((i : Int) < (n : Int)) = true := decide_eq_true (by omega)
      have d2 : decide ((j : Int) < (n : Int)) = true := decide_eq_true (by omega)
      have d3 : decide (i < n) = true := decide_eq_true (by omega)
      have d4 : decide (j < n) = true := decide_eq_true (by omega)
      have d5 : decide ((i : Int) + 1 < (n : Int)) = false := decide_eq_false (by omega)
      have d6 : decide ((j : Int) + 1 < (n : Int)) = true := decide_eq_true (by omega)
      have h1' := Lib.hid h1
      have h2' := Lib.hid h2
      clear h1 h2
      go_enter Tryz.func34, Tryz.ntmps34
      go_wp2_with fail
      go_quiet (fail)
      go_wp2_with fail
      refine bodyPost_ret (v := .tuple #[.int .i64 ((i : Int) + 2), .int .i64 ((j : Int) + 2), .bool false]) (by simp [results, Tryz.results34, go_sem]) rfl ?_
      exact ⟨i + 2, j + 2, false, rfl, HN.out _ _, _, rfl⟩
  · rcases (show j = n ∨ j + 1 = n ∨ j + 1 < n by omega) with h2 | h2 | h2
    · have d1 : decide ((i : Int) < (n : Int)) = true := decide_eq_true (by omega)
      have d2 : decide ((j : Int) < (n : Int)) = false := decide_eq_false (by omega)
      have d3 : decide (i < n) = true := decide_eq_true (by omega)
      have d4 : decide (j < n) = false := decide_eq_false (by omega)
      have d5 : decide ((i : Int) + 1 < (n : Int)) = true := decide_eq_true (by omega)
      have d6 : decide ((j : Int) + 1 < (n : Int)) = false := decide_eq_false (by omega)
      have h1' := Lib.hid h1
      have h2' := Lib.hid h2
      clear h1 h2
      go_enter Tryz.func34, Tryz.ntmps34
      go_wp2_with fail
      go_quiet (fail)
      go_wp2_with fail
      refine bodyPost_ret (v := .tuple #[.int .i64 ((i : Int) + 2), .int .i64 ((j : Int) + 2), .bool false]) (by simp [results, Tryz.results34, go_sem]) rfl ?_
      exact ⟨i + 2, j + 2, false, rfl, HN.out _ _, _, rfl⟩
    · have d1 : decide ((i : Int) < (n : Int)) = true := decide_eq_true (by omega)
      have d2 : decide ((j : Int) < (n : Int)) = true := decide_eq_true (by omega)
      have d3 : decide (i < n) = true := decide_eq_true (by omega)
      have d4 : decide (j < n) = true := decide_eq_true (by omega)
      have d5 : decide ((i : Int) + 1 < (n : Int)) = true := decide_eq_true (by omega)
      have d6 : decide ((j : Int) + 1 < (n : Int)) = false := decide_eq_false (by omega)
      have h1' := Lib.hid h1
      have h2' := Lib.hid h2
      clear h1 h2
      go_enter Tryz.func34, Tryz.ntmps34
      go_wp2_with fail
      go_quiet (fail)
      go_wp2_with fail
      refine bodyPost_ret (v := .tuple #[.int .i64 ((i : Int) + 2), .int .i64 ((j : Int) + 2), .bool false]) (by simp [results, Tryz.results34, go_sem]) rfl ?_
      exact ⟨i + 2, j + 2, false, rfl, HN.out _ _, _, rfl⟩
    · have d1 : decide ((i : Int) < (n : Int)) = true := decide_eq_true (by omega)
      have d2 : decide ((j : Int) < (n : Int)) = true := decide_eq_true (by omega)
      have d3 : decide (i < n) = true := decide_eq_true (by omega)
      have d4 : decide (j < n) = true := decide_eq_true (by omega)
      have d5 : decide ((i : Int) + 1 < (n : Int)) = true := decide_eq_true (by omega)
      have d6 : decide ((j : Int) + 1 < (n : Int)) = true := decide_eq_true (by omega)
      obtain ⟨ad, rfl, _, c1⟩ := codes_at h (x := i) (by omega)
      obtain ⟨ad2, he2, _, c2⟩ := codes_at h (x := j + 1) (by omega)
      obtain rfl := Option.some.inj he2
      obtain ⟨ad3, he3, _, c3⟩ := codes_at h (x := i + 1) (by omega)
      obtain rfl := Option.some.inj he3
      obtain ⟨ad4, he4, _, c4⟩ := codes_at h (x := j) (by omega)
      obtain rfl := Option.some.inj he4
      generalize Tl.kAt L i = x1 at c1
      generalize Tl.kAt L (j + 1) = y2 at c2
      generalize Tl.kAt L (i + 1) = x2 at c3
      generalize Tl.kAt L j = y1 at c4
      have k3 := c3
      have k2 := c2
      rw [add_ne _ (by omega)] at k3 k2
      have e1 : ((i : Int) + 1).toNat = i + 1 := by omega
      have e5 : (i : Int) + 1 < (n : Int) := by omega
      have e6 : (j : Int) + 1 < (n : Int) := by omega
      have e7 : i < n := by omega
      have e8 : j < n := by omega
      have e2 : ((j : Int) + 1).toNat = j + 1 := by omega
      have e3 : (0 : Int) ≤ (i : Int) + 1 := by omega
      have e4 : (0 : Int) ≤ (j : Int) + 1 := by omega
      have HY : Hid (∀ ok, Ax.StepP n i j 4 (i + 2) (j + 2) ok) := Lib.hid fun ok => ⟨fun _ => ⟨by omega, by omega, by omega, by omega, by omega⟩, fun h => absurd h (by omega), fun h => absurd h (by omega), fun h => absurd h (by omega)⟩
      obtain ⟨u1, hu1⟩ : ∃ u, ((x1 : Int) == (y2 : Int)) = u := ⟨_, rfl⟩
      obtain ⟨u2, hu2⟩ : ∃ u, ((x2 : Int) == (y1 : Int)) = u := ⟨_, rfl⟩
      obtain ⟨u3, hu3⟩ : ∃ u, ((x1 : Int) != (x2 : Int)) = u := ⟨_, rfl⟩
      cases u1
      · go_enter Tryz.func34, Tryz.ntmps34
        go_wp2_with fail
        go_quiet (fail)
        go_wp2_with fail
        refine bodyPost_ret (v := .tuple #[.int .i64 ((i : Int) + 2), .int .i64 ((j : Int) + 2), .bool false]) (by simp [results, Tryz.results34, go_sem]) rfl ?_
        exact ⟨i + 2, j + 2, false, rfl, HY.out _, _, rfl⟩
      · cases u2
        · go_enter Tryz.func34, Tryz.ntmps34
          go_wp2_with fail
          go_quiet (fail)
          go_wp2_with fail
          refine bodyPost_ret (v := .tuple #[.int .i64 ((i : Int) + 2), .int .i64 ((j : Int) + 2), .bool false]) (by simp [results, Tryz.results34, go_sem]) rfl ?_
          exact ⟨i + 2, j + 2, false, rfl, HY.out _, _, rfl⟩
        · go_enter Tryz.func34, Tryz.ntmps34
          go_wp2_with fail
          go_quiet (fail)
          go_wp2_with fail
          refine bodyPost_ret (v := .tuple #[.int .i64 ((i : Int) + 2), .int .i64 ((j : Int) + 2), .bool u3]) (by simp [results, Tryz.results34, go_sem]) rfl ?_
          exact ⟨i + 2, j + 2, u3, rfl, HY.out _, _, rfl⟩
end Go.Proofs.YtocohkgdkebmdaaGreat
