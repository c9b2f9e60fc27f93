/- The least codes of a job, plainly: found one after the other; late arrivals do not help; the machine sorts by them. -/
import Derived.Test.YtocohkgdkebmdaaGreatTlMach
namespace Go.Proofs.YtocohkgdkebmdaaGreat
namespace Tl
variable {l : List IT} {K : List Nat} {S : Nat}
theorem nbit_lt (k : Nat) : ∀ (f t b : Nat), nbit k t f = some b → t ≤ b ∧ b < t + f := by
  intro f
  induction f with
  | zero => intro t b h; cases h
  | succ f ih =>
    intro t b h
    unfold nbit at h
    split at h
    · cases h; omega
    · have := ih _ _ h; omega
theorem nbit_step {k t : Nat} (ht : t < S) : nbit k t (S - t) = if k.testBit t = true then some t else nbit k (t + 1) (S - (t + 1)) := by
  rw [show S - t = (S - (t + 1)) + 1 by omega]
  rfl
theorem addAt_len (L : List (List Nat)) (i x : Nat) : (addAt L i x).length = L.length := by unfold addAt; simp
theorem addAt_same {L : List (List Nat)} {i x : Nat} (h : i < L.length) : (addAt L i x).getD i [] = L.getD i [] ++ [x] := by
  unfold addAt
  rw [List.getD_eq_getElem?_getD, List.getElem?_set_self h]
  rfl
theorem addAt_other {L : List (List Nat)} {i j x : Nat} (h : i ≠ j) : (addAt L i x).getD j [] = L.getD j [] := by
  unfold addAt
  rw [List.getD_eq_getElem?_getD, List.getElem?_set_ne h, List.getD_eq_getElem?_getD]
def goesTo (K : List Nat) (S t b x : Nat) : Bool := nbit (kAt K x) t (S - t) == some b
def goesOut (l : List IT) (K : List Nat) (S t j x : Nat) : Bool := nbit (kAt K x) t (S - t) == none && decide ((it l x).tr = j)
theorem push_fold (t : Nat) : ∀ (L : List Nat) (m : MC), (∀ x, x ∈ L → (it l x).tr < m.tn.length) → S ≤ m.st.length →
    (L.foldl (pushM l K S t) m).st.length = m.st.length ∧ (L.foldl (pushM l K S t) m).tn.length = m.tn.length ∧
    (∀ b, (L.foldl (pushM l K S t) m).st.getD b [] = m.st.getD b [] ++ L.filter (goesTo K S t b)) ∧ (∀ j, (L.foldl (pushM l K S t) m).tn.getD j [] = m.tn.getD j [] ++ L.filter (goesOut l K S t j)) ∧
    (L.foldl (pushM l K S t) m).mv = m.mv + L.length ∧ (L.foldl (pushM l K S t) m).pu = m.pu := by
  intro L
  induction L with
  | nil => intro m _ _; simp
  | cons x r ih =>
    intro m htr hst
    rw [List.foldl_cons]
    cases hb : nbit (kAt K x) t (S - t) with
    | some b =>
      have hlt := nbit_lt _ _ _ _ hb
      have e : pushM l K S t m x = { m with st := addAt m.st b x, mv := m.mv + 1 } := by unfold pushM; rw [hb]
      rw [e]
      obtain ⟨h1, h2, h3, h4, h5, h6⟩ := ih { m with st := addAt m.st b x, mv := m.mv + 1 } (fun y hy => htr y (List.mem_cons_of_mem _ hy)) (by rw [addAt_len]; exact hst)
      refine ⟨by rw [h1, addAt_len], h2, fun c => ?_, fun j => ?_, by rw [h5, List.length_cons]; simp only; omega, h6⟩
      · rw [h3 c, List.filter_cons]
        by_cases hc : b = c
        · subst hc
          have : goesTo K S t b x = true := by unfold goesTo; rw [hb]; simp
          rw [addAt_same (by omega), if_pos this, List.append_assoc]
          rfl
        · have : ¬ goesTo K S t c x = true := by unfold goesTo; rw [hb]; simp [hc]
          rw [addAt_other hc, if_neg this]
      · rw [h4 j, List.filter_cons]
        have : ¬ goesOut l K S t j x = true := by unfold goesOut; rw [hb]; simp
        rw [if_neg this]
    | none =>
      have e : pushM l K S t m x = { m with tn := addAt m.tn (it l x).tr x, mv := m.mv + 1 } := by unfold pushM; rw [hb]
      rw [e]
      have hx := htr x (List.mem_cons_self ..)
      obtain ⟨h1, h2, h3, h4, h5, h6⟩ := ih { m with tn := addAt m.tn (it l x).tr x, mv := m.mv + 1 } (fun y hy => by rw [addAt_len]; exact htr y (List.mem_cons_of_mem _ hy)) hst
      refine ⟨h1, by rw [h2, addAt_len], fun c => ?_, fun j => ?_, by rw [h5, List.length_cons]; simp only; omega, h6⟩
      · rw [h3 c, List.filter_cons]
        have : ¬ goesTo K S t c x = true := by unfold goesTo; rw [hb]; simp
        rw [if_neg this]
      · rw [h4 j, List.filter_cons]
        by_cases hc : (it l x).tr = j
        · subst hc
          have : goesOut l K S t (it l x).tr x = true := by unfold goesOut; rw [hb]; simp
          rw [addAt_same hx, if_pos this, List.append_assoc]
          rfl
        · have : ¬ goesOut l K S t j x = true := by unfold goesOut; rw [hb]; simp [hc]
          rw [addAt_other hc, if_neg this]
/-- What is on the hump's far side behind the pushes of a time. -/
theorem ord_step (h : Fit l K S) (t : Nat) (N : Nat → Bool) :
    (ord K l.length t).filter (fun x => decide ((it l x).rd ≤ t) && (!bitOf K t x && N x)) ++ ((ord K l.length t).filter (fun x => decide ((it l x).rd ≤ t) && (bitOf K t x && N x)) ++ (List.range l.length).filter (fun x => decide ((it l x).rd = t + 1) && N x)) =
      (ord K l.length (t + 1)).filter (fun x => decide ((it l x).rd ≤ t + 1) && N x) := by
  have hm : ∀ x, x ∈ ord K l.length t → (it l x).rd = t + 1 → bitOf K t x = true := fun x hx hr => h.low x t (by have := (ord_perm K l.length t).mem_iff.1 hx; simpa using this) (by omega)
  conv => rhs; unfold ord
  rw [List.filter_append, List.filter_filter, List.filter_filter]
  congr 1
  · refine List.filter_congr fun x hx => ?_
    by_cases hr : (it l x).rd = t + 1
    · rw [hm x hx hr]; simp
    · have : decide ((it l x).rd ≤ t) = decide ((it l x).rd ≤ t + 1) := by rw [decide_eq_decide]; omega
      rw [this]
      cases decide ((it l x).rd ≤ t + 1) <;> cases bitOf K t x <;> cases N x <;> rfl
  · have hs := ord_split h (t + 1) t (by omega) (fun x => decide ((it l x).rd ≤ t) && (bitOf K t x && N x)) N (fun x hx => by simp only [Bool.and_eq_true, decide_eq_true_eq] at hx; omega)
    rw [ord_new h (t + 1) N t (by omega)] at hs
    rw [← hs]
    refine List.filter_congr fun x hx => ?_
    by_cases hr : (it l x).rd = t + 1
    · rw [hm x hx hr, hr]
      simp
    · have : decide ((it l x).rd ≤ t) = decide ((it l x).rd ≤ t + 1) := by rw [decide_eq_decide]; omega
      rw [this, decide_eq_false hr]
      cases decide ((it l x).rd ≤ t + 1) <;> cases bitOf K t x <;> cases N x <;> rfl
structure Inv (l : List IT) (K : List Nat) (S t : Nat) (m : MC) : Prop where
  sl : m.st.length = S
  tl : m.tn.length = nTn l
  st : ∀ b, b < S → m.st.getD b [] = (ord K l.length t).filter (fun x => decide ((it l x).rd ≤ t) && goesTo K S t b x)
  tn : ∀ j, m.tn.getD j [] = (ord K l.length t).filter (fun x => decide ((it l x).rd ≤ t) && goesOut l K S t j x)
theorem foldl_max_ge (l : List IT) : ∀ a, a ≤ l.foldl (fun n x => max n (x.tr + 1)) a := by
  induction l with
  | nil => intro a; exact Nat.le_refl a
  | cons x r ih => intro a; exact Nat.le_trans (Nat.le_max_left _ _) (ih _)
theorem tr_lt_nTn : ∀ (l : List IT) (a : Nat) (x : IT), x ∈ l → x.tr < l.foldl (fun n x => max n (x.tr + 1)) a := by
  intro l
  induction l with
  | nil => intro a x hx; cases hx
  | cons y r ih =>
    intro a x hx
    rw [List.foldl_cons]
    rcases List.mem_cons.1 hx with rfl | hx
    · have h1 := foldl_max_ge r (max a (x.tr + 1))
      have h2 := Nat.le_max_right a (x.tr + 1)
      omega
    · exact ih _ x hx
theorem it_mem {x : Nat} (hx : x < l.length) : it l x ∈ l := by
  unfold it
  rw [List.getD_eq_getElem?_getD, List.getElem?_eq_getElem hx]
  exact List.getElem_mem hx
theorem tr_ok {x : Nat} (hx : x < l.length) : (it l x).tr < nTn l := tr_lt_nTn l 0 _ (it_mem hx)
theorem getD_rep (n i : Nat) : (List.replicate n ([] : List Nat)).getD i [] = [] := by
  rw [List.getD_eq_getElem?_getD, List.getElem?_replicate]
  split <;> rfl
theorem atM_st (m : MC) (t : Nat) : (atM l K S m t).st = ((oldAt m t ++ newAt l t).foldl (pushM l K S t) (clr m t)).st := by unfold atM; simp only; split <;> rfl
theorem atM_tn (m : MC) (t : Nat) : (atM l K S m t).tn = ((oldAt m t ++ newAt l t).foldl (pushM l K S t) (clr m t)).tn := by unfold atM; simp only; split <;> rfl
theorem inv_zero : Inv l K S 0 (runTo l K S 1) := by
  have hf := push_fold (l := l) (K := K) (S := S) 0 (newAt l 0) (start l S) (fun x hx => by
    unfold newAt at hx
    have hx2 := (List.mem_filter.1 hx).1
    have : x < l.length := by simpa using hx2
    unfold start
    simp only [List.length_replicate]
    exact tr_ok this) (by unfold start; simp)
  have e : (oldAt (start l S) 0 ++ newAt l 0).foldl (pushM l K S 0) (clr (start l S) 0) = (newAt l 0).foldl (pushM l K S 0) (start l S) := by unfold oldAt clr; simp
  obtain ⟨h1, h2, h3, h4, _, _⟩ := hf
  refine ⟨?_, ?_, fun b hb => ?_, fun j => ?_⟩
  · show (atM l K S (start l S) 0).st.length = S
    rw [atM_st, e, h1]; unfold start; simp
  · show (atM l K S (start l S) 0).tn.length = nTn l
    rw [atM_tn, e, h2]; unfold start; simp
  · show (atM l K S (start l S) 0).st.getD b [] = _
    rw [atM_st, e, h3 b]
    unfold start newAt ord
    simp only
    rw [getD_rep, List.nil_append, List.filter_filter]
    refine List.filter_congr fun x _ => ?_
    rw [Bool.and_comm, show decide ((it l x).rd = 0) = decide ((it l x).rd ≤ 0) by rw [decide_eq_decide]; omega]
  · show (atM l K S (start l S) 0).tn.getD j [] = _
    rw [atM_tn, e, h4 j]
    unfold start newAt ord
    simp only
    rw [getD_rep, List.nil_append, List.filter_filter]
    refine List.filter_congr fun x _ => ?_
    rw [Bool.and_comm, show decide ((it l x).rd = 0) = decide ((it l x).rd ≤ 0) by rw [decide_eq_decide]; omega]
theorem inv_succ (h : Fit l K S) {t : Nat} (ht : t < S) {m : MC} (hi : Inv l K S t m) : Inv l K S (t + 1) (atM l K S m (t + 1)) := by
  have hold : oldAt m (t + 1) = (ord K l.length t).filter (fun x => decide ((it l x).rd ≤ t) && bitOf K t x) := by
    unfold oldAt
    rw [if_neg (by omega), Nat.add_sub_cancel, hi.st t ht]
    refine List.filter_congr fun x _ => ?_
    congr 1
    unfold goesTo bitOf
    rw [nbit_step ht]
    cases hb : (kAt K x).testBit t with
    | true => simp
    | false =>
      simp only [Bool.false_eq_true, if_false]
      cases hn : nbit (kAt K x) (t + 1) (S - (t + 1)) with
      | none => rfl
      | some b =>
        have := nbit_lt _ _ _ _ hn
        simp
        omega
  have hclr : clr m (t + 1) = { m with st := m.st.set t [] } := by unfold clr; rw [if_neg (by omega), Nat.add_sub_cancel]
  have hcl : (clr m (t + 1)).st.length = S := by rw [hclr]; simp [hi.sl]
  have hct : (clr m (t + 1)).tn.length = nTn l := by rw [hclr]; exact hi.tl
  obtain ⟨h1, h2, h3, h4, _, _⟩ := push_fold (l := l) (K := K) (S := S) (t + 1) (oldAt m (t + 1) ++ newAt l (t + 1)) (clr m (t + 1)) (fun x hx => by
    rw [hct]
    refine tr_ok ?_
    rcases List.mem_append.1 hx with hx | hx
    · rw [hold] at hx
      have := (ord_perm K l.length t).mem_iff.1 (List.mem_filter.1 hx).1
      simpa using this
    · unfold newAt at hx
      simpa using (List.mem_filter.1 hx).1) (by rw [hcl]; exact Nat.le_refl _)
  refine ⟨by rw [atM_st, h1, hcl], by rw [atM_tn, h2, hct], fun b hb => ?_, fun j => ?_⟩
  · rw [atM_st, h3 b, ← ord_step h t (goesTo K S (t + 1) b), List.filter_append, hold, List.filter_filter]
    have e1 : (clr m (t + 1)).st.getD b [] = (ord K l.length t).filter (fun x => decide ((it l x).rd ≤ t) && (!bitOf K t x && goesTo K S (t + 1) b x)) := by
      rw [hclr]
      simp only
      by_cases hbt : t = b
      · subst hbt
        rw [List.getD_eq_getElem?_getD, List.getElem?_set_self (by rw [hi.sl]; exact hb)]
        symm
        show _ = []
        rw [List.filter_eq_nil_iff]
        intro x _ hc
        simp only [Bool.and_eq_true] at hc
        have := hc.2.2
        unfold goesTo at this
        cases hn : nbit (kAt K x) (t + 1) (S - (t + 1)) with
        | none => rw [hn] at this; simp at this
        | some c =>
          rw [hn] at this
          have h5 := nbit_lt _ _ _ _ hn
          simp at this
          omega
      · rw [List.getD_eq_getElem?_getD, List.getElem?_set_ne hbt, ← List.getD_eq_getElem?_getD, hi.st b hb]
        refine List.filter_congr fun x _ => ?_
        congr 1
        unfold goesTo bitOf
        rw [nbit_step ht]
        cases hbb : (kAt K x).testBit t with
        | true => simp [hbt]
        | false => simp
    rw [e1]
    congr 1
    congr 1
    · refine List.filter_congr fun x _ => ?_
      cases decide ((it l x).rd ≤ t) <;> cases bitOf K t x <;> cases goesTo K S (t + 1) b x <;> rfl
    · unfold newAt
      rw [List.filter_filter]
      refine List.filter_congr fun x _ => ?_
      rw [Bool.and_comm]
  · rw [atM_tn, h4 j, ← ord_step h t (goesOut l K S (t + 1) j), List.filter_append, hold, List.filter_filter]
    have e1 : (clr m (t + 1)).tn.getD j [] = (ord K l.length t).filter (fun x => decide ((it l x).rd ≤ t) && (!bitOf K t x && goesOut l K S (t + 1) j x)) := by
      rw [hclr]
      simp only
      rw [hi.tn j]
      refine List.filter_congr fun x _ => ?_
      congr 1
      unfold goesOut bitOf
      rw [nbit_step ht]
      cases hbb : (kAt K x).testBit t with
      | true => simp
      | false => simp
    rw [e1]
    congr 1
    congr 1
    · refine List.filter_congr fun x _ => ?_
      cases decide ((it l x).rd ≤ t) <;> cases bitOf K t x <;> cases goesOut l K S (t + 1) j x <;> rfl
    · unfold newAt
      rw [List.filter_filter]
      refine List.filter_congr fun x _ => ?_
      rw [Bool.and_comm]
theorem inv_at (h : Fit l K S) : ∀ t, t ≤ S → Inv l K S t (runTo l K S (t + 1)) := by
  intro t
  induction t with
  | zero => intro _; exact inv_zero
  | succ t ih =>
    intro ht
    exact inv_succ h (by omega) (ih (by omega))
end Tl
end Go.Proofs.YtocohkgdkebmdaaGreat
namespace Go.Proofs.YtocohkgdkebmdaaGreat
namespace Tl
/-- A valid job. -/
structure JobOk (l : List IT) (w : Nat) : Prop where
  len : l.length ≤ 96
  wt : w ≤ 12
  its : ∀ x ∈ l, x.tr ≤ 15 ∧ x.bl ≤ 31 ∧ x.rd ≤ 12 ∧ 1 ≤ x.ln ∧ x.ln ≤ 400
  mono : ∀ x y, x < y → y < l.length → (it l x).rd ≤ (it l y).rd
/-- x comes strictly (2), weakly (1) or not (0) before y. -/
def rel (l : List IT) (x y : Nat) : Nat := if (it l x).tr ≠ (it l y).tr ∨ (it l y).bl ≤ (it l x).bl then 0 else if y < x then 2 else 1
/-- The greatest bound of some items. -/
def baseTo (l : List IT) (K : List Nat) (y : Nat) : Nat → Nat
  | 0 => 0
  | x + 1 => if 0 < rel l x y then max (baseTo l K y x) (kAt K x + rel l x y - 1) else baseTo l K y x
def base (l : List IT) (K : List Nat) (y : Nat) : Nat := baseTo l K y l.length
def solveGo (l : List IT) (w : Nat) : List Nat → List Nat → List Nat → Option (List Nat × List Nat)
  | [], b, K => some (b, K)
  | y :: r, b, K => match next (base l K y) (it l y).rd w with
    | none => none
    | some k => solveGo l w r (b.set y (base l K y)) (K.set y k)
def zeros (n : Nat) : List Nat := List.replicate n 0
def solve (l : List IT) (w : Nat) (o : List Nat) : Option (List Nat × List Nat) := solveGo l w o (zeros l.length) (zeros l.length)
/-- The codes are the least ones above their bounds. -/
def Sol (l : List IT) (w : Nat) (K : List Nat) : Prop := K.length = l.length ∧ ∀ y, y < l.length → next (base l K y) (it l y).rd w = some (kAt K y)
/-- An order by blocks. -/
structure Ord (l : List IT) (o : List Nat) : Prop where
  perm : o.Perm (List.range l.length)
  blk : o.Pairwise fun x y => (it l x).bl ≤ (it l y).bl
theorem kAt_set_same {K : List Nat} {y k : Nat} (h : y < K.length) : kAt (K.set y k) y = k := by
  unfold kAt; rw [List.getD_eq_getElem?_getD, List.getElem?_set_self h]; rfl
theorem kAt_set_other {K : List Nat} {x y k : Nat} (h : y ≠ x) : kAt (K.set y k) x = kAt K x := by
  unfold kAt; rw [List.getD_eq_getElem?_getD, List.getElem?_set_ne h, List.getD_eq_getElem?_getD]
theorem kAt_zeros (n x : Nat) : kAt (zeros n) x = 0 := by
  unfold kAt zeros; rw [List.getD_eq_getElem?_getD, List.getElem?_replicate]; split <;> rfl
theorem baseTo_congr {l : List IT} {K K' : List Nat} {y : Nat} : ∀ n, (∀ x, x < n → 0 < rel l x y → kAt K x = kAt K' x) → baseTo l K y n = baseTo l K' y n
  | 0, _ => rfl
  | n + 1, h => by
    unfold baseTo
    rw [baseTo_congr n (fun x hx => h x (by omega))]
    by_cases hr : 0 < rel l n y
    · rw [if_pos hr, if_pos hr, h n (by omega) hr]
    · rw [if_neg hr, if_neg hr]
theorem rel_bl {l : List IT} {x y : Nat} (h : 0 < rel l x y) : (it l x).tr = (it l y).tr ∧ (it l x).bl < (it l y).bl := by
  unfold rel at h
  split at h
  · omega
  · rename_i hn
    rw [not_or, Decidable.not_not] at hn
    exact ⟨hn.1, by omega⟩
/-- What the process keeps. -/
theorem solveGo_sol {l : List IT} {w : Nat} : ∀ (r done b K b' K' : List Nat), Ord l (done ++ r) → K.length = l.length → b.length = l.length →
    (∀ y, y ∈ done → next (base l K y) (it l y).rd w = some (kAt K y) ∧ kAt b y = base l K y) → solveGo l w r b K = some (b', K') →
    K'.length = l.length ∧ b'.length = l.length ∧ ∀ y, y < l.length → next (base l K' y) (it l y).rd w = some (kAt K' y) ∧ kAt b' y = base l K' y := by
  intro r
  induction r with
  | nil =>
    intro done b K b' K' ho hK hb hd h
    cases h
    refine ⟨hK, hb, fun y hy => hd y ?_⟩
    have := ho.perm.mem_iff (a := y)
    rw [List.append_nil] at this
    exact this.2 (by simpa using hy)
  | cons y r ih =>
    intro done b K b' K' ho hK hb hd h
    unfold solveGo at h
    cases hn : next (base l K y) (it l y).rd w with
    | none => rw [hn] at h; cases h
    | some k =>
      rw [hn] at h
      simp only at h
      have hy : y < l.length := by
        have := (ho.perm.mem_iff (a := y)).1 (by simp)
        simpa using this
      have hnod : (done ++ y :: r).Nodup := ho.perm.nodup_iff.2 List.nodup_range
      have hyd : y ∉ done := fun hm => (List.nodup_append.1 hnod).2.2 y hm y (List.mem_cons_self ..) rfl
      -- bounds do not turn where y comes behind
      have hsame : ∀ z, z ∈ done ∨ z = y → base l (K.set y k) z = base l K z := by
        intro z hz
        unfold base
        refine baseTo_congr l.length fun x _ hr => ?_
        by_cases hxy : y = x
        · exfalso
          subst hxy
          have h1 := rel_bl hr
          rcases hz with hz | hz
          · have h2 := (List.pairwise_append.1 ho.blk).2.2 z hz y (List.mem_cons_self ..)
            omega
          · subst hz; omega
        · exact kAt_set_other hxy
      refine ih (done ++ [y]) (b.set y (base l K y)) (K.set y k) b' K' (by rw [List.append_assoc]; exact ho) (by simpa using hK) (by simpa using hb) (fun z hz => ?_) h
      rcases List.mem_append.1 hz with hz | hz
      · have hne : y ≠ z := fun e => hyd (e ▸ hz)
        obtain ⟨h1, h2⟩ := hd z hz
        rw [hsame z (.inl hz), kAt_set_other hne, kAt_set_other hne]
        exact ⟨h1, h2⟩
      · rw [List.mem_singleton] at hz
        subst hz
        rw [hsame z (.inr rfl), kAt_set_same (by omega), kAt_set_same (by omega)]
        exact ⟨hn, rfl⟩
theorem solve_sol {l : List IT} {w : Nat} {o b K : List Nat} (ho : Ord l o) (h : solve l w o = some (b, K)) : Sol l w K ∧ b.length = l.length ∧ ∀ y, y < l.length → kAt b y = base l K y := by
  obtain ⟨h1, h2, h3⟩ := solveGo_sol o [] (zeros l.length) (zeros l.length) b K (by simpa using ho) (by simp [zeros]) (by simp [zeros]) (by intro y hy; cases hy) h
  exact ⟨⟨h1, fun y hy => (h3 y hy).1⟩, h2, fun y hy => (h3 y hy).2⟩
/- ### The machine sorts. -/
theorem bump_spec {w : Nat} : ∀ (f p q : Nat), bump w f p = some q → p ≤ q ∧ pop q ≤ w := by
  intro f
  induction f with
  | zero => intro p q e; cases e
  | succ f ih =>
    intro p q e
    rw [bump] at e
    by_cases h1 : pop p ≤ w
    · rw [if_pos h1] at e
      have e' := Option.some.inj e
      rw [← e']
      exact And.intro (Nat.le_refl _) h1
    · rw [if_neg h1] at e
      by_cases h2 : 4096 ≤ p + low p
      · rw [if_pos h2] at e
        exact absurd e (by simp)
      · rw [if_neg h2] at e
        have h3 := ih _ _ e
        exact And.intro (Nat.le_trans (Nat.le_add_right _ _) h3.1) h3.2
theorem next_spec {a r w k : Nat} (h : next a r w = some k) : a ≤ k ∧ k < 4096 ∧ ∃ q, k = q * 2 ^ r + mis r ∧ pop q ≤ w := by
  unfold next at h
  generalize 4097 = f at h
  split at h
  · cases h
  · split at h
    · cases h
    · rename_i q hb
      split at h
      · rename_i hlt
        cases h
        obtain ⟨h1, h2⟩ := bump_spec f _ _ hb
        have h3 := real0_ge a r
        have h4 : real0 a r * 2 ^ r ≤ q * 2 ^ r := Nat.mul_le_mul_right _ h1
        exact ⟨by omega, hlt, q, rfl, h2⟩
      · cases h
theorem mis_bit {q r b : Nat} (hb : b < r) : (q * 2 ^ r + mis r).testBit b = true := by
  unfold mis
  rw [Nat.mul_comm, Nat.testBit_two_pow_mul_add q (by have := Nat.two_pow_pos r; omega) b, if_pos hb, Nat.testBit_two_pow_sub_one, decide_eq_true hb]
end Tl
end Go.Proofs.YtocohkgdkebmdaaGreat
