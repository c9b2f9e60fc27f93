/- slices.Max, Index, Reverse at rows of naturals; the walk of leastcode.Witness. -/
import Derived.Test.YtocohkgdkebmdaaGreatTlLs
namespace Go.Proofs.YtocohkgdkebmdaaGreat
open Go.RowKit
namespace Tl
def maxTo (K : List Nat) : Nat → Nat
  | 0 => 0
  | i + 1 => max (maxTo K i) (kAt K i)
theorem maxTo_at {K : List Nat} : ∀ i, 0 < i → ∃ x, x < i ∧ kAt K x = maxTo K i
  | 0, h => absurd h (Nat.lt_irrefl _)
  | i + 1, _ => by
    unfold maxTo
    rcases Nat.le_total (maxTo K i) (kAt K i) with h | h
    · exact ⟨i, by omega, by rw [Nat.max_eq_right h]⟩
    · rw [Nat.max_eq_left h]
      rcases Nat.eq_zero_or_pos i with h0 | h0
      · subst h0
        refine ⟨0, by omega, ?_⟩
        have : maxTo K 0 = 0 := rfl
        omega
      · obtain ⟨x, hx, e⟩ := maxTo_at i h0
        exact ⟨x, by omega, e⟩
theorem maxTo_lt {K : List Nat} (h : ∀ z, kAt K z < 4096) : ∀ i, maxTo K i < 4096
  | 0 => by unfold maxTo; omega
  | i + 1 => by
    have h1 := maxTo_lt h i
    have h2 := h i
    unfold maxTo
    omega
theorem base_hit {l : List IT} {K : List Nat} {y : Nat} : ∀ n, 0 < baseTo l K y n → ∃ x, x < n ∧ 0 < rel l x y ∧ kAt K x + rel l x y - 1 = baseTo l K y n
  | 0, h => absurd h (Nat.lt_irrefl _)
  | n + 1, h => by
    unfold baseTo at h ⊢
    by_cases hr : 0 < rel l n y
    · rw [if_pos hr] at h ⊢
      rcases Nat.le_total (baseTo l K y n) (kAt K n + rel l n y - 1) with h1 | h1
      · exact ⟨n, by omega, hr, by rw [Nat.max_eq_right h1]⟩
      · rw [Nat.max_eq_left h1] at h ⊢
        obtain ⟨x, hx, h2, h3⟩ := base_hit n h
        exact ⟨x, by omega, h2, h3⟩
    · rw [if_neg hr] at h ⊢
      obtain ⟨x, hx, h2, h3⟩ := base_hit n h
      exact ⟨x, by omega, h2, h3⟩
/-- One item stands ahead of another in a chain. -/
def Link (l : List IT) (K : List Nat) (x y : Nat) : Prop := 0 < rel l x y ∧ kAt K x + rel l x y - 1 = base l K y
/-- A chain from its end on. -/
inductive Chn (l : List IT) (K : List Nat) : Nat → List Nat → Prop where
  | one (y : Nat) (hy : y < l.length) : Chn l K y [y]
  | more (x y : Nat) (ch : List Nat) (hx : x < l.length) (h : Link l K x y) (hc : Chn l K y ch) : Chn l K x (ch ++ [x])
theorem Chn.lt {l : List IT} {K : List Nat} {y : Nat} {ch : List Nat} (h : Chn l K y ch) : y < l.length ∧ ∀ z ∈ ch, z < l.length := by
  induction h with
  | one y hy => exact ⟨hy, fun z hz => by rw [List.mem_singleton.1 hz]; exact hy⟩
  | more x y ch hx _ _ ih =>
    refine ⟨hx, fun z hz => ?_⟩
    rcases List.mem_append.1 hz with hz | hz
    · exact ih.2 z hz
    · rw [List.mem_singleton.1 hz]; exact hx
end Tl
theorem maxi_c {B g n : Nat} {K : List Nat} (w : World) (hn : 0 < n) (hn2 : n ≤ 1000000) (own : w.ownsRow B 3 1 (.slice (some ⟨g, 0, none⟩) n n) n (ints64 K)) :
    Calls Tryz.prog 92 #[.slice (some ⟨g, 0, none⟩) n n] w fun e w' => e = .returned (.int .i64 (Tl.maxTo K n : Nat)) ∧ w' = w := by
  have c0 := own64_cell own (i := 0) hn
  have e0 : Tl.maxTo K 1 = K.getD 0 0 := by unfold Tl.maxTo Tl.maxTo Tl.kAt; omega
  rw [← e0] at c0
  clear e0
  have hd : decide ((n : Int) < 1) = false := decide_eq_false (by omega)
  have hd2 : decide (n < 1) = false := decide_eq_false (by omega)
  go_enter Tryz.func92, Tryz.ntmps92
  go_wp2_with fail
  go_loop [3, 4] (fun v p => ∃ i : Nat, 1 ≤ i ∧ i ≤ n ∧ p = .int .i64 i ∧ v = .int .i64 (Tl.maxTo K i : Nat)) (fun _ p => n - (intOf p).toNat)
  case atStart => exact ⟨1, by omega, by omega, rfl, rfl⟩
  case round =>
    obtain ⟨i, h1, hi, rfl, rfl⟩ := hrel
    by_cases hlt : i < n
    · have ci := own64_cell own (i := i) hlt
      have es : Tl.maxTo K (i + 1) = max (Tl.maxTo K i) (K.getD i 0) := rfl
      obtain ⟨a, ha⟩ : ∃ a, Tl.maxTo K i = a := ⟨_, rfl⟩
      obtain ⟨b, hb⟩ : ∃ b, K.getD i 0 = b := ⟨_, rfl⟩
      obtain ⟨m, hm⟩ : ∃ m, Tl.maxTo K (i + 1) = m := ⟨_, rfl⟩
      rw [ha, hb, hm] at es
      rw [hb] at ci
      simp only [ha]
      have hmx : max (a : Int) (b : Int) = (m : Int) := by omega
      have Hm := Lib.hid hm
      clear es ha hb hm own c0
      go_wp2_with fail
      go_round
      case rel => exact ⟨i + 1, by omega, by omega, by go_num, by rw [Hm.out]⟩
      case measure => simp [intOf]; omega
    · obtain rfl : i = n := by omega
      go_wp2_with fail
      go_ret
      exact ⟨rfl, rfl⟩
theorem index_c {B g n v : Nat} {K : List Nat} (w : World) (hn2 : n ≤ 1000000) (own : w.ownsRow B 3 1 (.slice (some ⟨g, 0, none⟩) n n) n (ints64 K)) (hit : ∃ x, x < n ∧ K.getD x 0 = v) :
    Calls Tryz.prog 91 #[.slice (some ⟨g, 0, none⟩) n n, .int .i64 v] w fun e w' => ∃ y, y < n ∧ K.getD y 0 = v ∧ e = .returned (.int .i64 (y : Nat)) ∧ w' = w := by
  go_enter Tryz.func91, Tryz.ntmps91
  go_wp2_with fail
  go_loop [4, 8] (fun v4 p => v4 = .int .i64 0 ∧ ∃ i : Nat, i ≤ n ∧ p = .int .i64 i ∧ Hid (∀ x, x < i → K.getD x 0 ≠ v)) (fun _ p => n - (intOf p).toNat)
  case atStart => exact ⟨rfl, 0, by omega, rfl, Lib.hid fun x hx => absurd hx (Nat.not_lt_zero _)⟩
  case round =>
    obtain ⟨rfl, i, hi, rfl, Hno⟩ := hrel
    by_cases hlt : i < n
    · have ci := own64_cell own (i := i) hlt
      obtain ⟨b, hb⟩ : ∃ b, K.getD i 0 = b := ⟨_, rfl⟩
      rw [hb] at ci
      have Hb := Lib.hid hb
      clear hb own hit
      by_cases e : v = b
      · subst e
        go_wp2_with fail
        go_ret
        exact ⟨i, hlt, Hb.out, rfl, rfl⟩
      · have e1 : ((v : Int) == (b : Int)) = false := by simp; omega
        have e2 : (v == b) = false := by simp; omega
        go_wp2_with fail
        go_round
        case rel => exact ⟨rfl, i + 1, by omega, by go_num, Lib.hid fun x hx => by
          by_cases e3 : x = i
          · subst e3; rw [Hb.out]; exact fun e4 => e e4.symm
          · exact Hno.out x (by omega)⟩
        case measure => simp [intOf]; omega
    · obtain rfl : i = n := by omega
      obtain ⟨x, hx, hxe⟩ := hit
      exact absurd hxe (Hno.out x hx)
namespace Tl
/-- A list of which the first and last places are exchanged. -/
def revTo (l : List Nat) (i : Nat) : List Nat := (List.range l.length).map fun k => if k < i ∨ l.length - 1 - i < k then l.getD (l.length - 1 - k) 0 else l.getD k 0
theorem revTo_len (l : List Nat) (i : Nat) : (revTo l i).length = l.length := by simp [revTo]
theorem revTo_at (l : List Nat) (i k : Nat) (hk : k < l.length) : (revTo l i).getD k 0 = if k < i ∨ l.length - 1 - i < k then l.getD (l.length - 1 - k) 0 else l.getD k 0 := by
  unfold revTo
  rw [List.getD_eq_getElem?_getD, List.getElem?_map, List.getElem?_range hk]
  rfl
theorem list_ext_getD {a b : List Nat} (hl : a.length = b.length) (h : ∀ k, k < a.length → a.getD k 0 = b.getD k 0) : a = b := by
  refine List.ext_getElem hl fun k h1 h2 => ?_
  have := h k h1
  rw [List.getD_eq_getElem?_getD, List.getD_eq_getElem?_getD, List.getElem?_eq_getElem h1, List.getElem?_eq_getElem h2] at this
  exact this
theorem revTo_zero (l : List Nat) : revTo l 0 = l := by
  refine list_ext_getD (revTo_len l 0) fun k hk => ?_
  rw [revTo_len] at hk
  rw [revTo_at l 0 k hk, if_neg (by omega)]
theorem revTo_succ (l : List Nat) (i : Nat) (h : i < l.length - 1 - i) : ((revTo l i).set i ((revTo l i).getD (l.length - 1 - i) 0)).set (l.length - 1 - i) ((revTo l i).getD i 0) = revTo l (i + 1) := by
  refine list_ext_getD (by simp [revTo_len]) fun k hk => ?_
  simp only [List.length_set, revTo_len] at hk
  rw [revTo_at l (i + 1) k hk]
  by_cases e1 : l.length - 1 - i = k
  · subst e1
    rw [getD_set_same (by simp [revTo_len]; omega), revTo_at l i i (by omega), if_neg (by omega), if_pos (by omega)]
    congr 1
    omega
  · rw [getD_set_other e1]
    by_cases e2 : i = k
    · subst e2
      rw [getD_set_same (by rw [revTo_len]; omega), revTo_at l i _ (by omega), if_neg (by omega), if_pos (by omega)]
    · rw [getD_set_other e2, revTo_at l i k hk]
      by_cases h3 : k < i ∨ l.length - 1 - i < k
      · rw [if_pos h3, if_pos (by omega)]
      · rw [if_neg h3, if_neg (by omega)]
theorem revTo_full (l : List Nat) (i : Nat) (h : l.length - 1 - i ≤ i) : revTo l i = l.reverse := by
  refine list_ext_getD (by simp [revTo_len]) fun k hk => ?_
  rw [revTo_len] at hk
  rw [revTo_at l i k hk, List.getD_eq_getElem?_getD (l := l.reverse), List.getElem?_reverse hk, ← List.getD_eq_getElem?_getD]
  by_cases h3 : k < i ∨ l.length - 1 - i < k
  · rw [if_pos h3]
  · rw [if_neg h3]
    congr 1
    omega
end Tl
set_option maxHeartbeats 1000000 in
theorem reverse_c {B g cap n : Nat} {l : List Nat} (w : World) (hn2 : n ≤ 1000000) (own : w.ownsRow B 3 1 (.slice (some ⟨g, 0, none⟩) n cap) n (ints64 l)) :
    Calls Tryz.prog 93 #[.slice (some ⟨g, 0, none⟩) n cap] w fun e w' => e = .returned (.tuple #[]) ∧ w'.ownsRow B 3 1 (.slice (some ⟨g, 0, none⟩) n cap) n (ints64 l.reverse) ∧ w.grownBy w' (some g) := by
  have hl := own64_len own
  rw [← Tl.revTo_zero l] at own
  go_enter Tryz.func93, Tryz.ntmps93
  go_wp2_with fail
  go_loopw [2, 3] (fun p q wr => ∃ i : Nat, i ≤ n ∧ p = .int .i64 i ∧ q = .int .i64 ((n : Int) - 1 - (i : Int)) ∧ wr.ownsRow B 3 1 (.slice (some ⟨g, 0, none⟩) n cap) n (ints64 (Tl.revTo l i)) ∧ w.grownBy wr (some g)) (fun p _ _ => n - (intOf p).toNat)
  case atStart => exact ⟨0, by omega, rfl, by simp, own, World.grownBy.refl w _⟩
  case round =>
    clear own
    obtain ⟨i, hi, rfl, rfl, own, hgr⟩ := hrel
    by_cases hlt : i < l.length - 1 - i
    · obtain ⟨j, hj⟩ : ∃ j, l.length - 1 - i = j := ⟨_, rfl⟩
      have hjI : (n : Int) - 1 - (i : Int) = (j : Int) := by omega
      have hs := Tl.revTo_succ l i hlt
      rw [hj] at hs hlt
      have ci := own64_cell own (i := i) (by omega)
      have cj := own64_cell own (i := j) (by omega)
      have zi := own.frozenAt i
      have zj := own.frozenAt j
      obtain ⟨a, ha⟩ : ∃ a, (Tl.revTo l i).getD i 0 = a := ⟨_, rfl⟩
      obtain ⟨b, hb⟩ : ∃ b, (Tl.revTo l i).getD j 0 = b := ⟨_, rfl⟩
      rw [ha] at ci hs
      rw [hb] at cj hs
      have own2 := own64_set own (i := i) b
      have own3 := own64_set own2 (i := j) a
      rw [hs] at own3
      have hg1 : wr.grownBy (wr.setCell ⟨g, i, none⟩ (.int .i64 (b : Int))) (some g) := ⟨rfl, rfl, rfl, by simp [World.setCell], fun k _ hne => Below.heap_setCell wr ⟨g, i, none⟩ _ k (fun e => hne (by rw [e]))⟩
      have hg2 : (wr.setCell ⟨g, i, none⟩ (.int .i64 (b : Int))).grownBy ((wr.setCell ⟨g, i, none⟩ (.int .i64 (b : Int))).setCell ⟨g, j, none⟩ (.int .i64 (a : Int))) (some g) := ⟨rfl, rfl, rfl, by simp [World.setCell], fun k _ hne => Below.heap_setCell _ ⟨g, j, none⟩ _ k (fun e => hne (by rw [e]))⟩
      have hg3 := (hgr.trans hg1).trans hg2
      have hin : (i : Int) < (j : Int) := by omega
      have hjn : (j : Int) < (n : Int) := by omega
      have hnij : ¬ (i = j) := by omega
      have cj2 : (wr.setCell ⟨g, i, none⟩ (.int .i64 (b : Int))).cell? ⟨g, j, none⟩ = some (.int .i64 (b : Int)) := by
        rw [World.cell?_setCell_other _ _ _ _ (by simp <;> omega)]; exact cj
      have zj2 := own2.frozenAt j
      simp only [hjI]
      have hjs : (j : Int) - 1 = (n : Int) - 1 - ((i + 1 : Nat) : Int) := by omega
      have Hjs := Lib.hid hjs
      clear own own2 hgr hg1 hg2 hs ha hb hjs
      go_wp2_with fail
      go_region
      all_goals
        go_wp2_with fail
        go_roundw
        case rel => exact ⟨i + 1, by omega, by go_num, vint (by first | exact Hjs.out | (have := Hjs.out; omega)), own3, ⟨hg3.os, hg3.tape, hg3.output, hg3.size, hg3.block⟩⟩
        case measure => simp [intOf]; omega
    · have hd : decide ((i : Int) < (n : Int) - 1 - (i : Int)) = false := decide_eq_false (by omega)
      rw [Tl.revTo_full l i (by omega)] at own
      go_wp2_with fail
      refine bodyPost_end (results_none rfl _ _ _) rfl ?_
      exact ⟨rfl, own, hgr⟩
end Go.Proofs.YtocohkgdkebmdaaGreat
