/- The small walks of wheel and reconcile: distance, time, match, check, long, cost. -/
import Derived.Test.YtocohkgdkebmdaaGreatDetPlain
import Derived.Test.YtocohkgdkebmdaaGreatAxRec
namespace Go.Proofs.YtocohkgdkebmdaaGreat
namespace Ax
def mx : Nat := 9223372036854775807
def at2 (R : List (List Nat)) (i j : Nat) : Nat := (R.getD i []).getD j 0
def put2 (R : List (List Nat)) (i j v : Nat) : List (List Nat) := R.set i ((R.getD i []).set j v)
/-- A square table. -/
structure Tab (n : Nat) (R : List (List Nat)) : Prop where
  len : R.length = n + 1
  row : ∀ x, x ≤ n → (R.getD x []).length = n + 1
theorem getDL_set_same {α : Type} {l : List α} {i : Nat} {a d : α} (h : i < l.length) : (l.set i a).getD i d = a := by
  rw [List.getD_eq_getElem?_getD, List.getElem?_set_self h]; rfl
theorem getDL_set_other {α : Type} {l : List α} {i j : Nat} {a d : α} (h : i ≠ j) : (l.set i a).getD j d = l.getD j d := by
  rw [List.getD_eq_getElem?_getD, List.getD_eq_getElem?_getD, List.getElem?_set_ne h]
theorem Tab.put {n i j v : Nat} {R : List (List Nat)} (h : Tab n R) (hi : i ≤ n) : Tab n (put2 R i j v) := by
  refine ⟨by simpa [put2] using h.len, fun x hx => ?_⟩
  unfold put2
  by_cases e : i = x
  · subst e
    rw [getDL_set_same (by have := h.len; omega), List.length_set]
    exact h.row i hi
  · rw [getDL_set_other e]
    exact h.row x hx
theorem at2_same {n i j v : Nat} {R : List (List Nat)} (h : Tab n R) (hi : i ≤ n) (hj : j ≤ n) : at2 (put2 R i j v) i j = v := by
  unfold at2 put2
  rw [getDL_set_same (by have := h.len; omega), getDL_set_same (by have := h.row i hi; omega)]
theorem at2_other {n i j v x y : Nat} {R : List (List Nat)} (h : Tab n R) (hi : i ≤ n) (hne : i ≠ x ∨ j ≠ y) : at2 (put2 R i j v) x y = at2 R x y := by
  unfold at2 put2
  by_cases e : i = x
  · subst e
    rw [getDL_set_same (by have := h.len; omega), getDL_set_other (by omega)]
  · rw [getDL_set_other e]
theorem put2_put2 {n i j v u : Nat} {R : List (List Nat)} (h : Tab n R) (hi : i ≤ n) : put2 (put2 R i j v) i j u = put2 R i j u := by
  unfold put2
  rw [getDL_set_same (by have := h.len; omega), List.set_set, List.set_set]
/-- The table, filled from its end down to a cell. -/
structure Al (n i j : Nat) (R K : List (List Nat)) : Prop where
  tr : Tab n R
  tk : Tab n K
  last : at2 R n n = 0
  bd : ∀ x y, x ≤ n → y ≤ n → (i < x ∨ (x = i ∧ j ≤ y)) → at2 R x y ≤ 4 * ((n - x) + (n - y))
  di : ∀ x, x ≤ n → (i < x ∨ (x = i ∧ j ≤ x)) → at2 R x x = 0
  ch : ∀ x, x < n → (i < x ∨ (x = i ∧ j ≤ x)) → at2 K x x = 0
def zeros2 (n : Nat) : List (List Nat) := List.replicate (n + 1) (List.replicate (n + 1) 0)
theorem zeros2_tab (n : Nat) : Tab n (zeros2 n) := by
  refine ⟨by simp [zeros2], fun x hx => ?_⟩
  rw [zeros2, List.getD_eq_getElem?_getD, List.getElem?_replicate, if_pos (by omega)]
  simp
theorem Al.start (n : Nat) : Al n n (n + 1) (zeros2 n) (zeros2 n) := by
  refine ⟨zeros2_tab n, zeros2_tab n, ?_, fun x y hx hy h => absurd h (by omega), fun x hx h => absurd h (by omega), fun x hx h => absurd h (by omega)⟩
  have h1 : (zeros2 n).getD n [] = List.replicate (n + 1) 0 := by
    rw [zeros2, List.getD_eq_getElem?_getD, List.getElem?_replicate, if_pos (by omega)]
    rfl
  unfold at2
  rw [h1, List.getD_eq_getElem?_getD, List.getElem?_replicate, if_pos (by omega)]
  rfl
theorem Al.corner {n : Nat} {R K : List (List Nat)} (h : Al n n (n + 1) R K) : Al n n n R K := by
  refine ⟨h.tr, h.tk, h.last, fun x y hx hy hc => ?_, fun x hx hc => ?_, fun x hx hc => absurd hc (by omega)⟩
  · obtain ⟨rfl, rfl⟩ : x = n ∧ y = n := by omega
    rw [h.last]
    exact Nat.zero_le _
  · obtain rfl : x = n := by omega
    exact h.last
theorem Al.up {n i : Nat} {R K : List (List Nat)} (h : Al n (i + 1) 0 R K) : Al n i (n + 1) R K :=
  ⟨h.tr, h.tk, h.last, fun x y hx hy hc => h.bd x y hx hy (by omega), fun x hx hc => h.di x hx (by omega), fun x hx hc => h.ch x hx (by omega)⟩
/-- A cell under way: so many edits are tried. -/
def Ed (n i j e v k : Nat) : Prop :=
  (v ≤ 4 * ((n - i) + (n - j)) ∨ (v = mx ∧ (e ≤ 2 ∨ n ≤ i) ∧ (e ≤ 3 ∨ n ≤ j))) ∧ (i = j → 1 ≤ e → v = 0 ∧ k = 0) ∧ (e = 0 → v = mx)
/-- What a step answers. -/
structure StepP (n i j e k l : Nat) (ok : Bool) : Prop where
  le : ok = true → k ≤ n ∧ l ≤ n ∧ i ≤ k ∧ j ≤ l ∧ (i < k ∨ j < l)
  keep : e = 0 → i = j → i < n → ok = true ∧ k = i + 1 ∧ l = j + 1
  miss : e = 2 → i < n → ok = true
  extra : e = 3 → j < n → ok = true
def costN (e : Nat) : Nat := if e = 0 then 0 else if e = 1 then 3 else 4
theorem costN_le (e : Nat) : costN e ≤ 4 := by
  unfold costN
  split
  · omega
  · split <;> omega
theorem Ed.start (n i j k : Nat) : Ed n i j 0 mx k := ⟨.inr ⟨rfl, by omega, by omega⟩, fun _ h => absurd h (by omega), fun _ => rfl⟩
theorem Ed.no {n i j e v k x y : Nat} (h : Ed n i j e v k) (hs : StepP n i j e x y false) (hi : i ≤ n) (hn : i < n ∨ j < n) : Ed n i j (e + 1) v k := by
  obtain ⟨h1, h2, _⟩ := h
  refine ⟨?_, fun hij _ => ?_, fun h => absurd h (by omega)⟩
  · rcases h1 with h1 | ⟨h1, h3, h4⟩
    · exact .inl h1
    · refine .inr ⟨h1, ?_, ?_⟩
      · by_cases he : e = 2 ∧ i < n
        · exact absurd (hs.miss he.1 he.2) (by simp)
        · omega
      · by_cases he : e = 3 ∧ j < n
        · exact absurd (hs.extra he.1 he.2) (by simp)
        · omega
  · by_cases he : e = 0
    · exact absurd (hs.keep he hij (by omega)).1 (by simp)
    · exact h2 hij (by omega)
theorem Al.cell {n i j e x y : Nat} {R K : List (List Nat)} (h : Al n i (j + 1) R K) (hs : StepP n i j e x y true) : at2 R x y ≤ 4 * ((n - x) + (n - y)) := by
  obtain ⟨h1, h2, h3, h4, h5⟩ := hs.le rfl
  exact h.bd x y h1 h2 (by omega)
theorem Ed.take {n i j e v k x y : Nat} {R K : List (List Nat)} (hA : Al n i (j + 1) R K) (h : Ed n i j e v k) (hs : StepP n i j e x y true) (hi : i ≤ n) (hj : j ≤ n) (hn : i < n ∨ j < n) (hc : costN e + at2 R x y < v) : Ed n i j (e + 1) (costN e + at2 R x y) e := by
  have hb := hA.cell hs
  obtain ⟨h1, h2, h3, h4, h5⟩ := hs.le rfl
  have hce := costN_le e
  refine ⟨.inl (by omega), fun hij _ => ?_, fun h => absurd h (by omega)⟩
  by_cases he : e = 0
  · subst he
    obtain ⟨_, rfl, rfl⟩ := hs.keep rfl hij (by omega)
    subst hij
    have := hA.di (i + 1) (by omega) (.inl (by omega))
    exact ⟨by rw [this]; rfl, rfl⟩
  · obtain ⟨hv, _⟩ := h.2.1 hij (by omega)
    omega
theorem Ed.leave {n i j e v k x y : Nat} {R K : List (List Nat)} (hA : Al n i (j + 1) R K) (h : Ed n i j e v k) (hs : StepP n i j e x y true) (hi : i ≤ n) (hj : j ≤ n) (hn : i < n ∨ j < n) (hc : v ≤ costN e + at2 R x y) : Ed n i j (e + 1) v k := by
  have hb := hA.cell hs
  obtain ⟨h1, h2, h3, h4, h5⟩ := hs.le rfl
  have hce := costN_le e
  refine ⟨.inl (by omega), fun hij _ => ?_, fun h => absurd h (by omega)⟩
  by_cases he : e = 0
  · subst he
    obtain ⟨_, rfl, rfl⟩ := hs.keep rfl hij (by omega)
    subst hij
    have h6 := hA.di (i + 1) (by omega) (.inl (by omega))
    have h7 := h.2.2 rfl
    rw [h6, h7] at hc
    exact absurd hc (by decide)
  · exact h.2.1 hij (by omega)
/-- A cell is done. -/
theorem Al.next {n i j v k : Nat} {R K : List (List Nat)} (h : Al n i (j + 1) R K) (hE : Ed n i j 5 v k) (hi : i ≤ n) (hj : j ≤ n) (hn : i < n ∨ j < n) : Al n i j (put2 R i j v) (put2 K i j k) := by
  obtain ⟨h1, h2, _⟩ := hE
  have hv : v ≤ 4 * ((n - i) + (n - j)) := by
    rcases h1 with h1 | ⟨_, h3, h4⟩
    · exact h1
    · omega
  refine ⟨h.tr.put hi, h.tk.put hi, by rw [at2_other h.tr hi (by omega)]; exact h.last, fun x y hx hy hc => ?_, fun x hx hc => ?_, fun x hx hc => ?_⟩
  · by_cases e : i = x ∧ j = y
    · obtain ⟨rfl, rfl⟩ := e
      rw [at2_same h.tr hi hj]
      exact hv
    · rw [at2_other h.tr hi (by omega)]
      exact h.bd x y hx hy (by omega)
  · by_cases e : i = x ∧ j = x
    · obtain ⟨rfl, rfl⟩ := e
      rw [at2_same h.tr hi hj]
      exact (h2 rfl (by omega)).1
    · rw [at2_other h.tr hi (by omega)]
      exact h.di x hx (by omega)
  · by_cases e : i = x ∧ j = x
    · obtain ⟨rfl, rfl⟩ := e
      rw [at2_same h.tk hi hj]
      exact (h2 rfl (by omega)).2
    · rw [at2_other h.tk hi (by omega)]
      exact h.ch x hx (by omega)
end Ax
end Go.Proofs.YtocohkgdkebmdaaGreat
namespace Go.Proofs.YtocohkgdkebmdaaGreat
open Go.RowKit
theorem wdist_c (x : Int) (w : World) (h1 : 1 ≤ x) (h2 : x ≤ 10000) : Calls Tryz.prog 49 #[.int .i64 x] w fun e w' => e = .returned (.bool true) ∧ w' = w := by
  have d1 : decide ((1 : Int) ≤ x) = true := decide_eq_true h1
  have d2 : decide (x ≤ (10000 : Int)) = true := decide_eq_true h2
  go_enter Tryz.func49, Tryz.ntmps49
  go_wp2_with fail
  go_ret
  exact ⟨rfl, rfl⟩
theorem wtime_c (x : Int) (w : World) (h1 : 0 ≤ x) (h2 : x ≤ 1000000000) : Calls Tryz.prog 29 #[.int .i64 x] w fun e w' => e = .returned (.bool true) ∧ w' = w := by
  have d1 : decide ((0 : Int) ≤ x) = true := decide_eq_true h1
  have d2 : decide (x ≤ (1000000000 : Int)) = true := decide_eq_true h2
  go_enter Tryz.func29, Tryz.ntmps29
  go_wp2_with fail
  go_ret
  exact ⟨rfl, rfl⟩
theorem long_c (A B : Option Addr) (n m c d : Nat) (w : World) (hn : n ≤ 96) (hm : m ≤ 96) : Calls Tryz.prog 32 #[.slice A n c, .slice B m d] w fun e w' => e = .returned (.bool false) ∧ w' = w := by
  have d1 : decide ((96 : Int) < (n : Int)) = false := decide_eq_false (by omega)
  have d2 : decide ((96 : Int) < (m : Int)) = false := decide_eq_false (by omega)
  go_enter Tryz.func32, Tryz.ntmps32
  go_wp2_with fail
  go_ret
  exact ⟨rfl, rfl⟩
theorem rcost_c (e : Nat) (w : World) (he : e < 5) : Calls Tryz.prog 35 #[.int .i64 e] w fun r w' => r = .returned (.int .i64 (Ax.costN e)) ∧ w' = w := by
  have hx : ∀ W, (Instr.index 111 (.agg #[.int .i64 0, .int .i64 3, .int .i64 4, .int .i64 4, .int .i64 4]) (.int .i64 (e : Int))).run Tryz.prog W = .ok (.int .i64 (Ax.costN e)) W := by
    intro W
    rcases (show e = 0 ∨ e = 1 ∨ e = 2 ∨ e = 3 ∨ e = 4 by omega) with rfl | rfl | rfl | rfl | rfl
    all_goals kernel_rfl
  go_enter Tryz.func35, Tryz.ntmps35
  go_wp2_with fail
  go_ret
  exact ⟨rfl, rfl⟩
/-- What match answers. -/
def MaV (d p : List Nat) (x : Nat) (e : Ending) : Prop := ∃ ok : Bool, e = .returned (.tuple #[.int .i64 0, .bool ok]) ∧ (ok = true ↔ Ax.Mt d p x)
set_option maxRecDepth 100000 in
theorem wmatch_c (A P : Option Addr) (n c m k : Nat) (D L : List Nat) (w : World) (hn : n ≤ 1000000) (hm : m ≤ 1000000) (hA : NR w A n D) (hP : NR w P m L) (hD : ∀ i, D.getD i 0 ≤ 1000000) (hL : ∀ i, L.getD i 0 ≤ 1000000) :
    Calls Tryz.prog 31 #[.slice A n c, .slice P m k, .int .i64 0] w fun e w' => MaV D L 0 e ∧ ∃ q, w' = w.drewN q := by
  have hDl := hA.len
  have hLl := hP.len
  go_enter Tryz.func31, Tryz.ntmps31
  by_cases hmn : n < m
  · go_wp2_with fail
    go_ret2
    exact ⟨⟨false, rfl, by simp; intro h; have := h.1; omega⟩, 0, rfl⟩
  · go_wp2_with fail
    go_loopw [8, 9, 10, 11, 19] (fun v8 _ _ _ p wr => v8 = .int .i64 0 ∧ ∃ i q : Nat, i ≤ m ∧ p = .int .i64 i ∧ wr = w.drewN q ∧ Hid (∀ j, j < i → D.getD j 0 = L.getD j 0)) (fun _ _ _ _ p _ => m - (intOf p).toNat)
    case atStart => exact ⟨rfl, 0, 0, Nat.zero_le _, rfl, rfl, Lib.hid fun j h => absurd h (Nat.not_lt_zero _)⟩
    case round =>
      obtain ⟨rfl, i, q, hi, rfl, rfl, Hi⟩ := hrel
      rcases Nat.lt_or_ge i m with hlt | hge
      · obtain ⟨ad, rfl, _, c1⟩ := codes_at hA (x := i) (by omega)
        obtain ⟨bd, rfl, _, c2⟩ := codes_at hP hlt
        have b1 := hD i
        have b2 := hL i
        unfold Tl.kAt at c1 c2
        obtain ⟨x, hx⟩ : ∃ x, D.getD i 0 = x := ⟨_, rfl⟩
        obtain ⟨y, hy⟩ : ∃ y, L.getD i 0 = y := ⟨_, rfl⟩
        rw [hx] at c1 b1
        rw [hy] at c2 b2
        have hw1 : IntKind.i64.wrap ((x : Int) - (y : Int)) = (x : Int) - (y : Int) := IntWalk.i64_in _ ⟨by omega, by omega⟩
        have hw2 : IntKind.i64.wrap ((y : Int) - (x : Int)) = (y : Int) - (x : Int) := IntWalk.i64_in _ ⟨by omega, by omega⟩
        by_cases hxy : x = y
        · subst hxy
          go_wp2_with fail
          go_quiet (fail)
          go_wp2_with fail
          go_roundw
          case rel => exact ⟨rfl, i + 1, _, by omega, by go_num, rfl, Lib.hid fun j hj => by
            by_cases e : j = i
            · subst e; rw [hx, hy]
            · exact Hi.out j (by omega)⟩
          case measure => simp [intOf]; omega
        · obtain ⟨z, hz⟩ : ∃ z, (if (x : Int) - (y : Int) < (y : Int) - (x : Int) then (y : Int) - (x : Int) else (x : Int) - (y : Int)) = z := ⟨_, rfl⟩
          have hz1 : 0 < z := by rw [← hz]; split <;> omega
          have hz2 : decide ((0 : Int) < z) = true := decide_eq_true hz1
          have hMt : ¬ Ax.Mt D L 0 := fun h => by
            have := h.2 i (by omega)
            rw [Nat.zero_add, hx, hy] at this
            exact hxy this
          go_wp2_with fail
          go_quiet (fail)
          go_wp2_with fail
          go_ret2
          exact ⟨⟨false, rfl, by simp [hMt]⟩, _, rfl⟩
      · obtain rfl : i = m := by omega
        go_wp2_with fail
        go_ret2
        exact ⟨⟨true, rfl, by simp; exact ⟨by omega, fun j hj => by rw [Nat.zero_add]; exact Hi.out j (by omega)⟩⟩, q, rfl⟩
end Go.Proofs.YtocohkgdkebmdaaGreat
