/- A valid layout has one more track than switches, plainly. -/
import Derived.Test.YtmjdjcpmkdninaaDoorLyPlain
namespace Go.Proofs.YtmjdjcpmkdninaaDoor
namespace Ly
def sumFrom (f : Nat → Nat) : Nat → Nat → Nat
  | _, 0 => 0
  | a, n + 1 => f a + sumFrom f (a + 1) n
theorem sumFrom_add (f g : Nat → Nat) : ∀ (n a : Nat), sumFrom (fun i => f i + g i) a n = sumFrom f a n + sumFrom g a n := by
  intro n
  induction n with
  | zero => intro a; rfl
  | succ n ih => intro a; simp only [sumFrom]; rw [ih]; omega
theorem sumFrom_zero (f : Nat → Nat) : ∀ (n a : Nat), (∀ i, a ≤ i → i < a + n → f i = 0) → sumFrom f a n = 0 := by
  intro n
  induction n with
  | zero => intro a _; rfl
  | succ n ih => intro a h; simp only [sumFrom]; rw [h a (by omega) (by omega), ih (a + 1) (fun i h1 h2 => h i (by omega) (by omega))]
theorem sumFrom_one (b : Nat) : ∀ (n a : Nat), a ≤ b → b < a + n → sumFrom (fun i => if b = i then 1 else 0) a n = 1 := by
  intro n
  induction n with
  | zero => intro a _ _; omega
  | succ n ih =>
    intro a h1 h2
    simp only [sumFrom]
    by_cases e : b = a
    · rw [if_pos e, sumFrom_zero _ n (a + 1) (fun i h3 _ => if_neg (by omega))]
    · rw [if_neg e, ih (a + 1) (by omega) (by omega)]
theorem sumFrom_congr {f g : Nat → Nat} : ∀ (n a : Nat), (∀ i, a ≤ i → i < a + n → f i = g i) → sumFrom f a n = sumFrom g a n := by
  intro n
  induction n with
  | zero => intro a _; rfl
  | succ n ih => intro a h; simp only [sumFrom]; rw [h a (by omega) (by omega), ih (a + 1) (fun i h1 h2 => h i (by omega) (by omega))]
theorem sumFrom_list (f : Nat → Nat) (q : LE → Nat) : ∀ (r : List LE) (a : Nat), (∀ j x, r[j]? = some x → f (a + j) = q x) → sumFrom f a r.length = (r.map q).sum := by
  intro r
  induction r with
  | nil => intro a _; rfl
  | cons y t ih =>
    intro a h
    simp only [List.length_cons, sumFrom, List.map_cons, List.sum_cons]
    have h0 := h 0 y rfl
    rw [Nat.add_zero] at h0
    rw [h0, ih (a + 1) (fun j x hx => by have := h (j + 1) x (by simpa using hx); rw [← this]; congr 1; omega)]
/-- Each child is counted once. -/
theorem kids_sum (n : Nat) : ∀ M : List LE, (∀ y ∈ M, 0 ≤ y.p ∧ y.p < (n : Int)) → sumFrom (fun i => M.countP fun y => decide (y.p = (i : Int))) 0 n = M.length := by
  intro M
  induction M with
  | nil => intro _; exact sumFrom_zero _ n 0 (fun i _ _ => rfl)
  | cons y t ih =>
    intro h
    have hy := h y (by simp)
    have e : sumFrom (fun i => (y :: t).countP fun z => decide (z.p = (i : Int))) 0 n = sumFrom (fun i => (t.countP fun z => decide (z.p = (i : Int))) + (if y.p.toNat = i then 1 else 0)) 0 n := by
      refine sumFrom_congr n 0 (fun i _ _ => ?_)
      rw [List.countP_cons]
      congr 1
      by_cases e : y.p = (i : Int)
      · rw [if_pos (by simpa using e), if_pos (by omega)]
      · rw [if_neg (by simpa using e), if_neg (by omega)]
    rw [e, sumFrom_add, ih (fun z hz => h z (by simp [hz])), sumFrom_one _ n 0 (by omega) (by omega)]
    rfl
def cntP (M : List LE) (a b : Int) : Nat := M.countP fun y => decide (y.p = a) && decide (y.sd = b)
theorem taken_cnt {l : List LE} {a b : Int} (h : taken l a b = false) : cntP (l.drop 1) a b = 0 := by
  unfold taken at h
  rw [List.any_eq_false] at h
  unfold cntP
  rw [List.countP_eq_zero]
  exact h
theorem take_drop_succ {l : List LE} {m : Nat} {x : LE} (hx : l[m]? = some x) (hm : 1 ≤ m) : (l.take (m + 1)).drop 1 = (l.take m).drop 1 ++ [x] := by
  have hl := (List.getElem?_eq_some_iff.1 hx).1
  rw [List.take_add_one, hx, List.drop_append_of_le_length (by rw [List.length_take]; omega)]
  rfl
/-- No place is taken twice. -/
theorem place_once {l : List LE} (h : Fits l) (a b : Int) : ∀ m, m ≤ l.length → cntP ((l.take m).drop 1) a b ≤ 1 := by
  intro m
  induction m with
  | zero => intro _; simp [cntP]
  | succ m ih =>
    intro hm
    rcases Nat.eq_zero_or_pos m with rfl | hp
    · have : (l.take 1).drop 1 = [] := by cases l <;> simp
      rw [this]; simp [cntP]
    · have hx : l[m]? = some l[m] := List.getElem?_eq_getElem (by omega)
      rw [take_drop_succ hx hp]
      have h1 := (fitE_parts (h m _ hx)).2.2.2 (by
        intro e
        have := congrArg List.length e
        rw [List.length_take, List.length_nil, Nat.min_eq_left (by omega)] at this
        omega)
      unfold cntP at ih ⊢
      rw [List.countP_append, List.countP_cons, List.countP_nil]
      by_cases e : l[m].p = a ∧ l[m].sd = b
      · have h2 := taken_cnt h1.2.2.2.2
        unfold cntP at h2
        rw [e.1, e.2] at h2
        have hq : ∀ q : Bool, 0 + (0 + if q = true then 1 else 0) ≤ 1 := by intro q; cases q <;> decide
        have e3 : l[m].p = a ∧ l[m].sd = b := e
        rw [show (List.countP (fun y => decide (y.p = a) && decide (y.sd = b)) (List.drop 1 (List.take m l))) = 0 from h2]
        exact hq _
      · have e2 : ¬ (decide (l[m].p = a) && decide (l[m].sd = b)) = true := by simpa using e
        rw [if_neg e2]
        have := ih (by omega)
        omega
/-- What an element behind the crest is. -/
theorem Fits.behind {l : List LE} (h : Fits l) {m : Nat} (hm : 1 ≤ m) {x : LE} (hx : l[m]? = some x) : ∃ y, l[x.p.toNat]? = some y ∧ 0 ≤ x.p ∧ x.p < (m : Int) ∧ y.k ≠ 4 ∧ (y.k = 3 ↔ x.sd ≠ 0) ∧ 0 ≤ x.sd ∧ x.sd ≤ 2 := by
  have hl := (List.getElem?_eq_some_iff.1 hx).1
  have hlen : (l.take m).length = m := by rw [List.length_take]; omega
  have hne : l.take m ≠ [] := by
    intro e
    rw [e] at hlen
    simp at hlen; omega
  obtain ⟨h1, h2, _, h4⟩ := fitE_parts (h m x hx)
  obtain ⟨g1, g2, g3, g4, _⟩ := h4 hne
  rw [hlen] at g2
  have hy : (l.take m)[x.p.toNat]? = some l[x.p.toNat] := by
    rw [List.getElem?_take, if_pos (by omega), List.getElem?_eq_getElem (by omega)]
  have hk : kAt (l.take m) x.p = l[x.p.toNat].k := by unfold kAt; rw [hy]
  rw [hk] at g3 g4
  have hk0 : x.k ≠ 0 := fun e => hne (h2.1 e)
  have hs : restOk x = true := by
    simp only [sound, Bool.and_eq_true, if_neg hk0] at h1
    exact h1.2
  simp only [restOk, Bool.and_eq_true, decide_eq_true_eq] at hs
  exact ⟨_, List.getElem?_eq_getElem (by omega), g1, g2, g3, g4, hs.1.1.2, hs.1.2⟩
theorem mem_drop_one {l : List LE} {y : LE} (h : y ∈ l.drop 1) : ∃ m, 1 ≤ m ∧ l[m]? = some y := by
  obtain ⟨i, hi⟩ := List.mem_iff_getElem?.1 h
  rw [List.getElem?_drop] at hi
  exact ⟨1 + i, by omega, hi⟩
theorem kids_le {l : List LE} (h : Fits l) {i : Nat} {x : LE} (hx : l[i]? = some x) : kids l i ≤ want x.k := by
  have once := fun b => place_once h (i : Int) b l.length (Nat.le_refl _)
  rw [List.take_length] at once
  have hsum : kids l i ≤ cntP (l.drop 1) i 0 + cntP (l.drop 1) i 1 + cntP (l.drop 1) i 2 := by
    unfold kids cntP
    have key : ∀ M : List LE, (∀ y ∈ M, 0 ≤ y.sd ∧ y.sd ≤ 2) → (M.countP fun y => decide (y.p = (i : Int))) ≤ (M.countP fun y => decide (y.p = (i : Int)) && decide (y.sd = 0)) + (M.countP fun y => decide (y.p = (i : Int)) && decide (y.sd = 1)) + (M.countP fun y => decide (y.p = (i : Int)) && decide (y.sd = 2)) := by
      intro M
      induction M with
      | nil => intro _; simp
      | cons y t ih =>
        intro hM
        have h1 := ih (fun z hz => hM z (by simp [hz]))
        have hy := hM y (by simp)
        have hs : y.sd = 0 ∨ y.sd = 1 ∨ y.sd = 2 := by omega
        simp only [List.countP_cons]
        by_cases e : y.p = (i : Int)
        · rcases hs with hs | hs | hs <;> simp [e, hs] <;> omega
        · simp [e]; omega
    refine key _ (fun y hy => ?_)
    obtain ⟨m, hm, hy'⟩ := mem_drop_one hy
    obtain ⟨_, _, _, _, _, _, h5, h6⟩ := h.behind hm hy'
    exact ⟨h5, h6⟩
  have none_of : ∀ b : Int, (∀ y ∈ l.drop 1, y.p = (i : Int) → y.sd ≠ b) → cntP (l.drop 1) i b = 0 := by
    intro b hb
    unfold cntP
    rw [List.countP_eq_zero]
    intro y hy
    simp only [Bool.and_eq_true, decide_eq_true_eq, not_and]
    exact hb y hy
  have par : ∀ y ∈ l.drop 1, y.p = (i : Int) → x.k ≠ 4 ∧ (x.k = 3 ↔ y.sd ≠ 0) := by
    intro y hy hp
    obtain ⟨m, hm, hy'⟩ := mem_drop_one hy
    obtain ⟨z, hz, _, _, h3, h4, _, _⟩ := h.behind hm hy'
    rw [hp, Int.toNat_natCast, hx] at hz
    cases hz
    exact ⟨h3, h4⟩
  have o0 := once 0
  have o1 := once 1
  have o2 := once 2
  unfold want
  by_cases h3 : x.k = 3
  · rw [if_pos h3]
    have := none_of 0 (fun y hy hp => ((par y hy hp).2.1 h3))
    omega
  · rw [if_neg h3]
    have n1 := none_of 1 (fun y hy hp e => h3 ((par y hy hp).2.2 (by omega)))
    have n2 := none_of 2 (fun y hy hp e => h3 ((par y hy hp).2.2 (by omega)))
    by_cases h4 : x.k = 4
    · rw [if_pos h4]
      have := none_of 0 (fun y hy hp => absurd h4 (par y hy hp).1)
      omega
    · rw [if_neg h4]; omega
theorem want_sum : ∀ l : List LE, (l.map fun x => want x.k).sum + tracks l = l.length + switches l := by
  intro l
  induction l with
  | nil => rfl
  | cons y t ih =>
    simp only [List.map_cons, List.sum_cons, List.length_cons, tracks, switches, List.countP_cons] at ih ⊢
    unfold want at ih ⊢
    by_cases h3 : y.k = 3
    · simp [h3]; omega
    · by_cases h4 : y.k = 4
      · simp [h4]; omega
      · simp [h3, h4]; omega
theorem counts {l : List LE} (h : vErr l = 0) : tracks l = switches l + 1 := by
  obtain ⟨h1, h2, h3, h4, _⟩ := vErr_zero h
  have hn : 1 ≤ l.length := List.length_pos_iff.2 h2
  have s1 := kids_sum l.length (l.drop 1) (fun y hy => by
    obtain ⟨m, hm, hy'⟩ := mem_drop_one hy
    have hl := (List.getElem?_eq_some_iff.1 hy').1
    obtain ⟨_, _, g1, g2, _⟩ := h3.behind hm hy'
    omega)
  have s2 := sumFrom_list (fun i => kids l i) (fun x => want x.k) l 0 (fun j x hx => by
    rw [Nat.zero_add]
    exact Nat.le_antisymm (kids_le h3 hx) (h4 j x hx))
  have s3 := want_sum l
  have s4 : (l.drop 1).length = l.length - 1 := List.length_drop
  unfold kids at s2
  rw [s1] at s2
  omega
end Ly
end Go.Proofs.YtmjdjcpmkdninaaDoor
