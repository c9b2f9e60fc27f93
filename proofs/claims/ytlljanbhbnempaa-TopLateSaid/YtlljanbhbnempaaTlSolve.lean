/- The least codes of a job, plainly: found one after the other; late arrivals do not help; the machine sorts by them. -/
import Derived.Test.YtlljanbhbnempaaTlMach2
namespace Go.Proofs.Ytlljanbhbnempaa
namespace Tl
/-- A valid job. -/
structure JobOk (l : List IT) (w : Nat) : Prop where
  len : l.length ≤ 96
  wt : w ≤ 12
  its : ∀ x ∈ l, x.tr ≤ 15 ∧ x.bl ≤ 31 ∧ x.rd ≤ 12 ∧ 1 ≤ x.ln ∧ x.ln ≤ 400
  mono : ∀ x y, x < y → y < l.length → (it l x).rd ≤ (it l y).rd
/-- x comes strictly (2), weakly (1) or not (0) before y. -/
def rel (l : List IT) (x y : Nat) : Nat := if (it l x).tr ≠ (it l y).tr ∨ (it l y).bl ≤ (it l x).bl then 0 else if y < x then 2 else 1
/-- The greatest bound of some items. -/
def baseTo (l : List IT) (K : List Nat) (y : Nat) : Nat → Nat
  | 0 => 0
  | x + 1 => if 0 < rel l x y then max (baseTo l K y x) (kAt K x + rel l x y - 1) else baseTo l K y x
def base (l : List IT) (K : List Nat) (y : Nat) : Nat := baseTo l K y l.length
def solveGo (l : List IT) (w : Nat) : List Nat → List Nat → List Nat → Option (List Nat × List Nat)
  | [], b, K => some (b, K)
  | y :: r, b, K => match next (base l K y) (it l y).rd w with
    | none => none
    | some k => solveGo l w r (b.set y (base l K y)) (K.set y k)
def zeros (n : Nat) : List Nat := List.replicate n 0
def solve (l : List IT) (w : Nat) (o : List Nat) : Option (List Nat × List Nat) := solveGo l w o (zeros l.length) (zeros l.length)
/-- The codes are the least ones above their bounds. -/
def Sol (l : List IT) (w : Nat) (K : List Nat) : Prop := K.length = l.length ∧ ∀ y, y < l.length → next (base l K y) (it l y).rd w = some (kAt K y)
/-- An order by blocks. -/
structure Ord (l : List IT) (o : List Nat) : Prop where
  perm : o.Perm (List.range l.length)
  blk : o.Pairwise fun x y => (it l x).bl ≤ (it l y).bl
theorem kAt_set_same {K : List Nat} {y k : Nat} (h : y < K.length) : kAt (K.set y k) y = k := by
  unfold kAt; rw [List.getD_eq_getElem?_getD, List.getElem?_set_self h]; rfl
theorem kAt_set_other {K : List Nat} {x y k : Nat} (h : y ≠ x) : kAt (K.set y k) x = kAt K x := by
  unfold kAt; rw [List.getD_eq_getElem?_getD, List.getElem?_set_ne h, List.getD_eq_getElem?_getD]
theorem kAt_zeros (n x : Nat) : kAt (zeros n) x = 0 := by
  unfold kAt zeros; rw [List.getD_eq_getElem?_getD, List.getElem?_replicate]; split <;> rfl
theorem baseTo_congr {l : List IT} {K K' : List Nat} {y : Nat} : ∀ n, (∀ x, x < n → 0 < rel l x y → kAt K x = kAt K' x) → baseTo l K y n = baseTo l K' y n
  | 0, _ => rfl
  | n + 1, h => by
    unfold baseTo
    rw [baseTo_congr n (fun x hx => h x (by omega))]
    by_cases hr : 0 < rel l n y
    · rw [if_pos hr, if_pos hr, h n (by omega) hr]
    · rw [if_neg hr, if_neg hr]
theorem rel_bl {l : List IT} {x y : Nat} (h : 0 < rel l x y) : (it l x).tr = (it l y).tr ∧ (it l x).bl < (it l y).bl := by
  unfold rel at h
  split at h
  · omega
  · rename_i hn
    rw [not_or, Decidable.not_not] at hn
    exact ⟨hn.1, by omega⟩
/-- What the process keeps. -/
theorem solveGo_sol {l : List IT} {w : Nat} : ∀ (r done b K b' K' : List Nat), Ord l (done ++ r) → K.length = l.length → b.length = l.length →
    (∀ y, y ∈ done → next (base l K y) (it l y).rd w = some (kAt K y) ∧ kAt b y = base l K y) → solveGo l w r b K = some (b', K') →
    K'.length = l.length ∧ b'.length = l.length ∧ ∀ y, y < l.length → next (base l K' y) (it l y).rd w = some (kAt K' y) ∧ kAt b' y = base l K' y := by
  intro r
  induction r with
  | nil =>
    intro done b K b' K' ho hK hb hd h
    cases h
    refine ⟨hK, hb, fun y hy => hd y ?_⟩
    have := ho.perm.mem_iff (a := y)
    rw [List.append_nil] at this
    exact this.2 (by simpa using hy)
  | cons y r ih =>
    intro done b K b' K' ho hK hb hd h
    unfold solveGo at h
    cases hn : next (base l K y) (it l y).rd w with
    | none => rw [hn] at h; cases h
    | some k =>
      rw [hn] at h
      simp only at h
      have hy : y < l.length := by
        have := (ho.perm.mem_iff (a := y)).1 (by simp)
        simpa using this
      have hnod : (done ++ y :: r).Nodup := ho.perm.nodup_iff.2 List.nodup_range
      have hyd : y ∉ done := fun hm => (List.nodup_append.1 hnod).2.2 y hm y (List.mem_cons_self ..) rfl
      -- bounds do not turn where y comes behind
      have hsame : ∀ z, z ∈ done ∨ z = y → base l (K.set y k) z = base l K z := by
        intro z hz
        unfold base
        refine baseTo_congr l.length fun x _ hr => ?_
        by_cases hxy : y = x
        · exfalso
          subst hxy
          have h1 := rel_bl hr
          rcases hz with hz | hz
          · have h2 := (List.pairwise_append.1 ho.blk).2.2 z hz y (List.mem_cons_self ..)
            omega
          · subst hz; omega
        · exact kAt_set_other hxy
      refine ih (done ++ [y]) (b.set y (base l K y)) (K.set y k) b' K' (by rw [List.append_assoc]; exact ho) (by simpa using hK) (by simpa using hb) (fun z hz => ?_) h
      rcases List.mem_append.1 hz with hz | hz
      · have hne : y ≠ z := fun e => hyd (e ▸ hz)
        obtain ⟨h1, h2⟩ := hd z hz
        rw [hsame z (.inl hz), kAt_set_other hne, kAt_set_other hne]
        exact ⟨h1, h2⟩
      · rw [List.mem_singleton] at hz
        subst hz
        rw [hsame z (.inr rfl), kAt_set_same (by omega), kAt_set_same (by omega)]
        exact ⟨hn, rfl⟩
theorem solve_sol {l : List IT} {w : Nat} {o b K : List Nat} (ho : Ord l o) (h : solve l w o = some (b, K)) : Sol l w K ∧ b.length = l.length ∧ ∀ y, y < l.length → kAt b y = base l K y := by
  obtain ⟨h1, h2, h3⟩ := solveGo_sol o [] (zeros l.length) (zeros l.length) b K (by simpa using ho) (by simp [zeros]) (by simp [zeros]) (by intro y hy; cases hy) h
  exact ⟨⟨h1, fun y hy => (h3 y hy).1⟩, h2, fun y hy => (h3 y hy).2⟩
/-- Later items. -/
structure Late (l l' : List IT) : Prop where
  len : l.length = l'.length
  tr : ∀ x, (it l x).tr = (it l' x).tr
  bl : ∀ x, (it l x).bl = (it l' x).bl
  rd : ∀ x, (it l x).rd ≤ (it l' x).rd
theorem rel_late {l l' : List IT} (h : Late l l') (x y : Nat) : rel l x y = rel l' x y := by unfold rel; rw [h.tr, h.tr, h.bl, h.bl]
theorem baseTo_mono {l l' : List IT} (h : Late l l') {K K' : List Nat} (hk : ∀ x, kAt K x ≤ kAt K' x) (y : Nat) : ∀ n, baseTo l K y n ≤ baseTo l' K' y n
  | 0 => Nat.le_refl 0
  | n + 1 => by
    unfold baseTo
    have ih := baseTo_mono h hk y n
    have := hk n
    rw [rel_late h]
    split
    · rw [Nat.max_le]
      constructor
      · exact Nat.le_trans ih (Nat.le_max_left _ _)
      · exact Nat.le_trans (by omega) (Nat.le_max_right _ _)
    · exact ih
theorem solveGo_late {l l' : List IT} (h : Late l l') {K' : List Nat} (hs : Sol l' 12 K') : ∀ (o b K : List Nat), (∀ y, y ∈ o → y < l.length) → (∀ x, kAt K x ≤ kAt K' x) → K.length = l.length → ∃ b2 K2, solveGo l 12 o b K = some (b2, K2) ∧ ∀ x, kAt K2 x ≤ kAt K' x := by
  intro o
  induction o with
  | nil => intro b K _ hk _; exact ⟨b, K, rfl, hk⟩
  | cons y r ih =>
    intro b K ho hk hl
    have hy := ho y (List.mem_cons_self ..)
    have hb : base l K y ≤ base l' K' y := by unfold base; rw [h.len]; exact baseTo_mono h hk y _
    have h1 := hs.2 y (by rw [← h.len]; exact hy)
    have hlt : base l' K' y < 4096 := by
      rcases Nat.lt_or_ge (base l' K' y) 4096 with h' | h'
      · exact h'
      · unfold next at h1
        rw [if_pos h'] at h1
        cases h1
    rw [next_12 hlt] at h1
    obtain ⟨j, hj, hjk⟩ := next12_mono hb (h.rd y) h1
    rw [← next_12 (by omega)] at hj
    unfold solveGo
    rw [hj]
    refine ih _ _ (fun z hz => ho z (List.mem_cons_of_mem _ hz)) (fun x => ?_) (by simpa using hl)
    by_cases e : y = x
    · subst e
      rw [kAt_set_same (by omega)]
      exact hjk
    · rw [kAt_set_other e]
      exact hk x
theorem solve_late {l l' : List IT} (h : Late l l') {K' o : List Nat} (hs : Sol l' 12 K') (ho : Ord l o) : ∃ b K, solve l 12 o = some (b, K) ∧ ∀ x, kAt K x ≤ kAt K' x :=
  solveGo_late h hs o _ _ (fun y hy => by have := ho.perm.mem_iff.1 hy; simpa using this) (fun x => by rw [kAt_zeros]; exact Nat.zero_le _) (by simp [zeros])
/- ### The machine sorts. -/
theorem baseTo_ge {l : List IT} {K : List Nat} {y x : Nat} (hr : 0 < rel l x y) : ∀ n, x < n → kAt K x + rel l x y - 1 ≤ baseTo l K y n
  | 0, h => absurd h (Nat.not_lt_zero _)
  | n + 1, h => by
    unfold baseTo
    by_cases e : x = n
    · subst e
      rw [if_pos hr]
      exact Nat.le_max_right _ _
    · have ih := baseTo_ge (K := K) hr n (by omega)
      split
      · exact Nat.le_trans ih (Nat.le_max_left _ _)
      · exact ih
theorem bump_spec {w : Nat} : ∀ (f p q : Nat), bump w f p = some q → p ≤ q ∧ pop q ≤ w := by
  intro f
  induction f with
  | zero => intro p q e; cases e
  | succ f ih =>
    intro p q e
    rw [bump] at e
    by_cases h1 : pop p ≤ w
    · rw [if_pos h1] at e
      have e' := Option.some.inj e
      rw [← e']
      exact And.intro (Nat.le_refl _) h1
    · rw [if_neg h1] at e
      by_cases h2 : 4096 ≤ p + low p
      · rw [if_pos h2] at e
        exact absurd e (by simp)
      · rw [if_neg h2] at e
        have h3 := ih _ _ e
        exact And.intro (Nat.le_trans (Nat.le_add_right _ _) h3.1) h3.2
theorem next_spec {a r w k : Nat} (h : next a r w = some k) : a ≤ k ∧ k < 4096 ∧ ∃ q, k = q * 2 ^ r + mis r ∧ pop q ≤ w := by
  unfold next at h
  generalize 4097 = f at h
  split at h
  · cases h
  · split at h
    · cases h
    · rename_i q hb
      split at h
      · rename_i hlt
        cases h
        obtain ⟨h1, h2⟩ := bump_spec f _ _ hb
        have h3 := real0_ge a r
        have h4 : real0 a r * 2 ^ r ≤ q * 2 ^ r := Nat.mul_le_mul_right _ h1
        exact ⟨by omega, hlt, q, rfl, h2⟩
      · cases h
theorem mis_bit {q r b : Nat} (hb : b < r) : (q * 2 ^ r + mis r).testBit b = true := by
  unfold mis
  rw [Nat.mul_comm, Nat.testBit_two_pow_mul_add q (by have := Nat.two_pow_pos r; omega) b, if_pos hb, Nat.testBit_two_pow_sub_one, decide_eq_true hb]
theorem sol_fit {l : List IT} {w S : Nat} {K : List Nat} (hs : Sol l w K) (hm : ∀ x y, x < y → y < l.length → (it l x).rd ≤ (it l y).rd) (ht : ∀ x, x < l.length → kAt K x < 2 ^ S) : Fit l K S :=
  ⟨hs.1, fun x b hx hb => by
    obtain ⟨_, _, q, hq, _⟩ := next_spec (hs.2 x hx)
    rw [hq]
    exact mis_bit hb, ht, hm⟩
theorem sol_rd {l : List IT} {w S : Nat} {K : List Nat} (hs : Sol l w K) (ht : ∀ x, x < l.length → kAt K x < 2 ^ S) {x : Nat} (hx : x < l.length) : (it l x).rd ≤ S := by
  obtain ⟨_, _, q, hq, _⟩ := next_spec (hs.2 x hx)
  have h1 := ht x hx
  rcases Nat.lt_or_ge S (it l x).rd with h | h
  · exfalso
    have h2 : 2 ^ (S + 1) ≤ 2 ^ (it l x).rd := Nat.pow_le_pow_right (by decide) h
    have h3 := mis_pos (it l x).rd
    rw [Nat.pow_succ] at h2
    have h4 := Nat.two_pow_pos S
    omega
  · exact h
/-- Trains that are what a job needs. -/
structure SortedT (l : List IT) (T : List (List Nat)) : Prop where
  mem : ∀ j, ∀ x ∈ T.getD j [], x < l.length ∧ (it l x).tr = j
  ord : ∀ j, (T.getD j []).Pairwise fun x y => (it l x).bl ≤ (it l y).bl
  perm : T.flatten.Perm (List.range l.length)
theorem run_sorted {l : List IT} {w S : Nat} {K : List Nat} (hs : Sol l w K) (hm : ∀ x y, x < y → y < l.length → (it l x).rd ≤ (it l y).rd) (ht : ∀ x, x < l.length → kAt K x < 2 ^ S) :
    (∀ j, ∀ x ∈ (run l K S).tn.getD j [], x < l.length ∧ (it l x).tr = j) ∧ ∀ j, ((run l K S).tn.getD j []).Pairwise fun x y => (it l x).bl ≤ (it l y).bl := by
  have hf := sol_fit hs hm ht
  obtain ⟨_, htn⟩ := run_trains hf (fun x hx => sol_rd hs ht hx)
  have hmem : ∀ j x, x ∈ (run l K S).tn.getD j [] → x < l.length ∧ (it l x).tr = j := by
    intro j x hx
    rw [htn j] at hx
    obtain ⟨h1, h2⟩ := List.mem_filter.1 hx
    have := (ord_perm K l.length S).mem_iff.1 h1
    exact ⟨by simpa using this, of_decide_eq_true h2⟩
  refine ⟨hmem, fun j => ?_⟩
  have hp := (ord_sorted K l.length S).filter (fun x => decide ((it l x).tr = j))
  rw [← htn j] at hp
  refine List.Pairwise.imp_of_mem ?_ hp
  intro x y hx hy hxy
  obtain ⟨hxl, hxj⟩ := hmem j x hx
  obtain ⟨hyl, hyj⟩ := hmem j y hy
  unfold lexlt at hxy
  rw [Nat.mod_eq_of_lt (ht x hxl), Nat.mod_eq_of_lt (ht y hyl)] at hxy
  rcases Nat.lt_or_ge (it l y).bl (it l x).bl with hb | hb
  · exfalso
    have hr : rel l y x = if x < y then 2 else 1 := by
      unfold rel
      rw [if_neg (by rw [not_or, Decidable.not_not]; exact ⟨by rw [hxj, hyj], by omega⟩)]
    have hr0 : 0 < rel l y x := by rw [hr]; split <;> decide
    have h1 := baseTo_ge (K := K) hr0 l.length hyl
    have h2 := (next_spec (hs.2 x hxl)).1
    unfold base at h2
    rw [hr] at h1
    split at h1 <;> omega
  · exact hb
end Tl
end Go.Proofs.Ytlljanbhbnempaa
