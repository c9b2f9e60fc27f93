/- The plain law of 'SectionTrain'. -/
import Derived.Test.YtjlfdkkaljlmjaaSecThrP
namespace Go.Proofs.Ytjlfdkkaljlmjaa
namespace Sec
/-- How many axles stand at v. -/
def cAt (at_ : List Int) (v : Int) : Nat := (at_.filter fun x => decide (x = v)).length
theorem cAt_snoc (l : List Int) (x v : Int) : cAt (l ++ [x]) v = if x = v then cAt l v + 1 else cAt l v := by
  unfold cAt
  by_cases h : x = v <;> simp [h]
theorem cAt_le (l : List Int) (v : Int) : cAt l v ≤ l.length := List.length_filter_le _ _
theorem cAt_set : ∀ (l : List Int) (i : Nat) (x v : Int), i < l.length → (cAt (l.set i x) v : Int) = cAt l v - (if l.getD i 0 = v then 1 else 0) + (if x = v then 1 else 0) := by
  intro l
  induction l with
  | nil => intro i x v h; simp at h
  | cons a r ih =>
    intro i x v h
    cases i with
    | zero =>
      simp only [List.set_cons_zero, List.getD_cons_zero]
      unfold cAt
      rw [List.filter_cons, List.filter_cons]
      by_cases h1 : x = v <;> by_cases h2 : a = v <;> simp [h1, h2] <;> omega
    | succ i =>
      have := ih i x v (by simpa using h)
      rw [List.set_cons_succ, List.getD_cons_succ]
      generalize r.getD i 0 = g at this ⊢
      unfold cAt at this ⊢
      rw [List.filter_cons, List.filter_cons]
      by_cases h2 : a = v <;> simp [h2] <;> omega
theorem chain_sense : ∀ n, n < 7 → ∀ s, s < n → ∀ v, v < n + 1 → sense (chain n) (s : Nat) (v : Nat) = (if v = s then 1 else 0) - (if v = s + 1 then 1 else 0) := by decide +kernel
def sumL : List Int → Int
  | [] => 0
  | x :: r => x + sumL r
theorem sumL_set : ∀ (l : List Int) (i : Nat) (x : Int), i < l.length → sumL (l.set i x) = sumL l - l.getD i 0 + x := by
  intro l
  induction l with
  | nil => intro i x h; simp at h
  | cons a r ih =>
    intro i x h
    cases i with
    | zero => simp [sumL]; omega
    | succ i =>
      have := ih i x (by simpa using h)
      rw [List.set_cons_succ, List.getD_cons_succ, sumL, sumL, this]; omega
theorem sumL_big (n : Nat) : ∀ l : List Int, (∀ i, i < l.length → (n : Int) < l.getD i 0) → (l.length : Int) * (n + 1) ≤ sumL l := by
  intro l
  induction l with
  | nil => intro _; simp [sumL]
  | cons a r ih =>
    intro h
    have h1 := h 0 (by simp)
    have h2 := ih (fun i hi => by have := h (i + 1) (by simpa using hi); simpa using this)
    rw [sumL, List.length_cons, Int.natCast_add, Int.add_mul]
    simp at h1
    omega
theorem first_of (P : Nat → Bool) : ∀ n, (∃ i, i < n ∧ P i = true) → ∃ j, j < n ∧ P j = true ∧ ∀ i, i < j → P i = false := by
  intro n
  induction n with
  | zero => rintro ⟨i, hi, _⟩; omega
  | succ n ih =>
    rintro ⟨i, hi, hp⟩
    by_cases h : ∃ i, i < n ∧ P i = true
    · obtain ⟨j, h1, h2, h3⟩ := ih h
      exact ⟨j, by omega, h2, h3⟩
    · have hin : i = n := by
        rcases Nat.lt_or_ge i n with hlt | hge
        · exact absurd ⟨i, hlt, hp⟩ h
        · omega
      subst hin
      exact ⟨i, by omega, hp, fun k hk => by
        cases hk2 : P k
        · rfl
        · exact absurd ⟨k, hk, hk2⟩ h⟩
/-- May axle j go on? -/
def free (n : Nat) (l : List Int) (j : Nat) : Prop := l.getD j 0 ≤ n ∧ (j = 0 ∨ l.getD j 0 < l.getD (j - 1) 0)
theorem free_one (n : Nat) (l : List Int) (h : sumL l < (l.length : Int) * (n + 1)) : ∃ j, j < l.length ∧ free n l j := by
  obtain ⟨j, h1, h2, h3⟩ := first_of (fun i => decide (l.getD i 0 ≤ (n : Int))) l.length (by
    rcases Classical.em (∃ i, i < l.length ∧ decide (l.getD i 0 ≤ (n : Int)) = true) with hx | hx
    · exact hx
    · have := sumL_big n l (fun i hi => by
        rcases Int.lt_or_le (n : Int) (l.getD i 0) with hlt | hge
        · exact hlt
        · exact absurd ⟨i, hi, by simpa using hge⟩ hx)
      omega)
  refine ⟨j, h1, by simpa using h2, ?_⟩
  rcases Nat.eq_zero_or_pos j with h0 | h0
  · exact .inl h0
  · have := h3 (j - 1) (by omega)
    simp at this h2
    exact .inr (by simp; omega)
/-- The train behind some steps: where the axles stand, and what they told. -/
structure Train (n : Nat) (at_ : List Int) (p : List V3) (step : Nat) (time : Int) : Prop where
  ok : Det.vGo p none = 0
  low : ∀ x ∈ p, x.b ≤ time
  len : p.length = step
  sum : sumL at_ = step
  bd : ∀ i, i < at_.length → 0 ≤ at_.getD i 0 ∧ at_.getD i 0 ≤ n + 1
  cnt : ∀ s : Nat, s < n → cnt (chain n) p s (-1) = (((cAt at_ (s + 1) : Nat) : Int), 0)
theorem sumL_zeros (k : Nat) : sumL (List.replicate k 0) = 0 := by
  induction k with
  | zero => rfl
  | succ k ih => rw [List.replicate_succ, sumL, ih]; rfl
theorem cAt_zeros (k s : Nat) : cAt (List.replicate k 0) ((s : Int) + 1) = 0 := by
  unfold cAt
  rw [List.length_eq_zero_iff, List.filter_eq_nil_iff]
  intro x hx
  rw [List.eq_of_mem_replicate hx]
  simp; omega
theorem Train.start (n k : Nat) : Train n (List.replicate k 0) [] 0 0 where
  ok := rfl
  low := by simp
  len := rfl
  sum := sumL_zeros k
  bd := fun i hi => by rw [List.getD_eq_getElem?_getD, List.getElem?_replicate]; split <;> simp <;> omega
  cnt := fun s _ => by rw [cAt_zeros]; rfl
theorem Train.go {n : Nat} {at_ : List Int} {p : List V3} {step : Nat} {time : Int} (h : Train n at_ p step time) (hn : n < 7) (i : Nat) (hi : i < at_.length) (hv : at_.getD i 0 ≤ n) (h0 : 0 ≤ time) (h1 : time ≤ 1000000000) (d : Int) (hd : 0 ≤ d) :
    Train n (at_.set i (at_.getD i 0 + 1)) (p ++ [⟨at_.getD i 0, time, 1⟩]) (step + 1) (time + d) := by
  have hb := h.bd i hi
  obtain ⟨v, hv'⟩ := Int.eq_ofNat_of_zero_le hb.1
  have hc0 := fun s : Nat => cAt_set at_ i (at_.getD i 0 + 1) ((s : Int) + 1) hi
  have hs0 := sumL_set at_ i (at_.getD i 0 + 1) hi
  rw [hv'] at hc0 hs0 hb hv ⊢
  refine ⟨Det.vGo_snoc _ ?_ p none h.ok (fun q hq => h.low q hq) (by simp), fun x hx => ?_, by simp [h.len], ?_, fun j hj => ?_, fun s hs => ?_⟩
  · simp [Det.okP]; omega
  · rcases List.mem_append.1 hx with hx | hx
    · have := h.low x hx; omega
    · simp at hx; subst hx; simp only; omega
  · rw [hs0, h.sum]; omega
  · rw [List.length_set] at hj
    rw [List.getD_eq_getElem?_getD, List.getElem?_set]
    split
    · rw [Option.getD_some]; omega
    · rw [← List.getD_eq_getElem?_getD]; exact h.bd j hj
  · have hc := hc0 s
    have he := chain_sense n hn s hs v (by omega)
    rw [cnt_snoc, h.cnt s hs, cstep, if_neg (by simp only; omega)]
    simp only [he]
    have e1 : ((v : Int) = (s : Int) + 1) ↔ v = s + 1 := by omega
    have e2 : ((v : Int) + 1 = (s : Int) + 1) ↔ v = s := by omega
    simp only [e1, e2] at hc
    have hnn : (0 : Int) ≤ (cAt (at_.set i ((v : Int) + 1)) ((s : Int) + 1) : Nat) := by omega
    refine Prod.ext ?_ ?_
    · simp only; omega
    · simp only; omega
end Sec
end Go.Proofs.Ytjlfdkkaljlmjaa
