/- The machine of a sorting plan, plainly: what it leaves on its tracks. -/
import Derived.Test.YtlljanbhbnempaaTlMach
namespace Go.Proofs.Ytlljanbhbnempaa
namespace Tl
variable {l : List IT} {K : List Nat} {S : Nat}
theorem nbit_lt (k : Nat) : ∀ (f t b : Nat), nbit k t f = some b → t ≤ b ∧ b < t + f := by
  intro f
  induction f with
  | zero => intro t b h; cases h
  | succ f ih =>
    intro t b h
    unfold nbit at h
    split at h
    · cases h; omega
    · have := ih _ _ h; omega
theorem nbit_step {k t : Nat} (ht : t < S) : nbit k t (S - t) = if k.testBit t = true then some t else nbit k (t + 1) (S - (t + 1)) := by
  rw [show S - t = (S - (t + 1)) + 1 by omega]
  rfl
theorem addAt_len (L : List (List Nat)) (i x : Nat) : (addAt L i x).length = L.length := by unfold addAt; simp
theorem addAt_same {L : List (List Nat)} {i x : Nat} (h : i < L.length) : (addAt L i x).getD i [] = L.getD i [] ++ [x] := by
  unfold addAt
  rw [List.getD_eq_getElem?_getD, List.getElem?_set_self h]
  rfl
theorem addAt_other {L : List (List Nat)} {i j x : Nat} (h : i ≠ j) : (addAt L i x).getD j [] = L.getD j [] := by
  unfold addAt
  rw [List.getD_eq_getElem?_getD, List.getElem?_set_ne h, List.getD_eq_getElem?_getD]
def goesTo (K : List Nat) (S t b x : Nat) : Bool := nbit (kAt K x) t (S - t) == some b
def goesOut (l : List IT) (K : List Nat) (S t j x : Nat) : Bool := nbit (kAt K x) t (S - t) == none && decide ((it l x).tr = j)
theorem push_fold (t : Nat) : ∀ (L : List Nat) (m : MC), (∀ x, x ∈ L → (it l x).tr < m.tn.length) → S ≤ m.st.length →
    (L.foldl (pushM l K S t) m).st.length = m.st.length ∧ (L.foldl (pushM l K S t) m).tn.length = m.tn.length ∧
    (∀ b, (L.foldl (pushM l K S t) m).st.getD b [] = m.st.getD b [] ++ L.filter (goesTo K S t b)) ∧ (∀ j, (L.foldl (pushM l K S t) m).tn.getD j [] = m.tn.getD j [] ++ L.filter (goesOut l K S t j)) ∧
    (L.foldl (pushM l K S t) m).mv = m.mv + L.length ∧ (L.foldl (pushM l K S t) m).pu = m.pu := by
  intro L
  induction L with
  | nil => intro m _ _; simp
  | cons x r ih =>
    intro m htr hst
    rw [List.foldl_cons]
    cases hb : nbit (kAt K x) t (S - t) with
    | some b =>
      have hlt := nbit_lt _ _ _ _ hb
      have e : pushM l K S t m x = { m with st := addAt m.st b x, mv := m.mv + 1 } := by unfold pushM; rw [hb]
      rw [e]
      obtain ⟨h1, h2, h3, h4, h5, h6⟩ := ih { m with st := addAt m.st b x, mv := m.mv + 1 } (fun y hy => htr y (List.mem_cons_of_mem _ hy)) (by rw [addAt_len]; exact hst)
      refine ⟨by rw [h1, addAt_len], h2, fun c => ?_, fun j => ?_, by rw [h5, List.length_cons]; simp only; omega, h6⟩
      · rw [h3 c, List.filter_cons]
        by_cases hc : b = c
        · subst hc
          have : goesTo K S t b x = true := by unfold goesTo; rw [hb]; simp
          rw [addAt_same (by omega), if_pos this, List.append_assoc]
          rfl
        · have : ¬ goesTo K S t c x = true := by unfold goesTo; rw [hb]; simp [hc]
          rw [addAt_other hc, if_neg this]
      · rw [h4 j, List.filter_cons]
        have : ¬ goesOut l K S t j x = true := by unfold goesOut; rw [hb]; simp
        rw [if_neg this]
    | none =>
      have e : pushM l K S t m x = { m with tn := addAt m.tn (it l x).tr x, mv := m.mv + 1 } := by unfold pushM; rw [hb]
      rw [e]
      have hx := htr x (List.mem_cons_self ..)
      obtain ⟨h1, h2, h3, h4, h5, h6⟩ := ih { m with tn := addAt m.tn (it l x).tr x, mv := m.mv + 1 } (fun y hy => by rw [addAt_len]; exact htr y (List.mem_cons_of_mem _ hy)) hst
      refine ⟨h1, by rw [h2, addAt_len], fun c => ?_, fun j => ?_, by rw [h5, List.length_cons]; simp only; omega, h6⟩
      · rw [h3 c, List.filter_cons]
        have : ¬ goesTo K S t c x = true := by unfold goesTo; rw [hb]; simp
        rw [if_neg this]
      · rw [h4 j, List.filter_cons]
        by_cases hc : (it l x).tr = j
        · subst hc
          have : goesOut l K S t (it l x).tr x = true := by unfold goesOut; rw [hb]; simp
          rw [addAt_same hx, if_pos this, List.append_assoc]
          rfl
        · have : ¬ goesOut l K S t j x = true := by unfold goesOut; rw [hb]; simp [hc]
          rw [addAt_other hc, if_neg this]
/-- What is on the hump's far side behind the pushes of a time. -/
theorem ord_step (h : Fit l K S) (t : Nat) (N : Nat → Bool) :
    (ord K l.length t).filter (fun x => decide ((it l x).rd ≤ t) && (!bitOf K t x && N x)) ++ ((ord K l.length t).filter (fun x => decide ((it l x).rd ≤ t) && (bitOf K t x && N x)) ++ (List.range l.length).filter (fun x => decide ((it l x).rd = t + 1) && N x)) =
      (ord K l.length (t + 1)).filter (fun x => decide ((it l x).rd ≤ t + 1) && N x) := by
  have hm : ∀ x, x ∈ ord K l.length t → (it l x).rd = t + 1 → bitOf K t x = true := fun x hx hr => h.low x t (by have := (ord_perm K l.length t).mem_iff.1 hx; simpa using this) (by omega)
  conv => rhs; unfold ord
  rw [List.filter_append, List.filter_filter, List.filter_filter]
  congr 1
  · refine List.filter_congr fun x hx => ?_
    by_cases hr : (it l x).rd = t + 1
    · rw [hm x hx hr]; simp
    · have : decide ((it l x).rd ≤ t) = decide ((it l x).rd ≤ t + 1) := by rw [decide_eq_decide]; omega
      rw [this]
      cases decide ((it l x).rd ≤ t + 1) <;> cases bitOf K t x <;> cases N x <;> rfl
  · have hs := ord_split h (t + 1) t (by omega) (fun x => decide ((it l x).rd ≤ t) && (bitOf K t x && N x)) N (fun x hx => by simp only [Bool.and_eq_true, decide_eq_true_eq] at hx; omega)
    rw [ord_new h (t + 1) N t (by omega)] at hs
    rw [← hs]
    refine List.filter_congr fun x hx => ?_
    by_cases hr : (it l x).rd = t + 1
    · rw [hm x hx hr, hr]
      simp
    · have : decide ((it l x).rd ≤ t) = decide ((it l x).rd ≤ t + 1) := by rw [decide_eq_decide]; omega
      rw [this, decide_eq_false hr]
      cases decide ((it l x).rd ≤ t + 1) <;> cases bitOf K t x <;> cases N x <;> rfl
structure Inv (l : List IT) (K : List Nat) (S t : Nat) (m : MC) : Prop where
  sl : m.st.length = S
  tl : m.tn.length = nTn l
  st : ∀ b, b < S → m.st.getD b [] = (ord K l.length t).filter (fun x => decide ((it l x).rd ≤ t) && goesTo K S t b x)
  tn : ∀ j, m.tn.getD j [] = (ord K l.length t).filter (fun x => decide ((it l x).rd ≤ t) && goesOut l K S t j x)
theorem foldl_max_ge (l : List IT) : ∀ a, a ≤ l.foldl (fun n x => max n (x.tr + 1)) a := by
  induction l with
  | nil => intro a; exact Nat.le_refl a
  | cons x r ih => intro a; exact Nat.le_trans (Nat.le_max_left _ _) (ih _)
theorem tr_lt_nTn : ∀ (l : List IT) (a : Nat) (x : IT), x ∈ l → x.tr < l.foldl (fun n x => max n (x.tr + 1)) a := by
  intro l
  induction l with
  | nil => intro a x hx; cases hx
  | cons y r ih =>
    intro a x hx
    rw [List.foldl_cons]
    rcases List.mem_cons.1 hx with rfl | hx
    · have h1 := foldl_max_ge r (max a (x.tr + 1))
      have h2 := Nat.le_max_right a (x.tr + 1)
      omega
    · exact ih _ x hx
theorem it_mem {x : Nat} (hx : x < l.length) : it l x ∈ l := by
  unfold it
  rw [List.getD_eq_getElem?_getD, List.getElem?_eq_getElem hx]
  exact List.getElem_mem hx
theorem tr_ok {x : Nat} (hx : x < l.length) : (it l x).tr < nTn l := tr_lt_nTn l 0 _ (it_mem hx)
theorem getD_rep (n i : Nat) : (List.replicate n ([] : List Nat)).getD i [] = [] := by
  rw [List.getD_eq_getElem?_getD, List.getElem?_replicate]
  split <;> rfl
theorem atM_st (m : MC) (t : Nat) : (atM l K S m t).st = ((oldAt m t ++ newAt l t).foldl (pushM l K S t) (clr m t)).st := by unfold atM; simp only; split <;> rfl
theorem atM_tn (m : MC) (t : Nat) : (atM l K S m t).tn = ((oldAt m t ++ newAt l t).foldl (pushM l K S t) (clr m t)).tn := by unfold atM; simp only; split <;> rfl
theorem inv_zero : Inv l K S 0 (runTo l K S 1) := by
  have hf := push_fold (l := l) (K := K) (S := S) 0 (newAt l 0) (start l S) (fun x hx => by
    unfold newAt at hx
    have hx2 := (List.mem_filter.1 hx).1
    have : x < l.length := by simpa using hx2
    unfold start
    simp only [List.length_replicate]
    exact tr_ok this) (by unfold start; simp)
  have e : (oldAt (start l S) 0 ++ newAt l 0).foldl (pushM l K S 0) (clr (start l S) 0) = (newAt l 0).foldl (pushM l K S 0) (start l S) := by unfold oldAt clr; simp
  obtain ⟨h1, h2, h3, h4, _, _⟩ := hf
  refine ⟨?_, ?_, fun b hb => ?_, fun j => ?_⟩
  · show (atM l K S (start l S) 0).st.length = S
    rw [atM_st, e, h1]; unfold start; simp
  · show (atM l K S (start l S) 0).tn.length = nTn l
    rw [atM_tn, e, h2]; unfold start; simp
  · show (atM l K S (start l S) 0).st.getD b [] = _
    rw [atM_st, e, h3 b]
    unfold start newAt ord
    simp only
    rw [getD_rep, List.nil_append, List.filter_filter]
    refine List.filter_congr fun x _ => ?_
    rw [Bool.and_comm, show decide ((it l x).rd = 0) = decide ((it l x).rd ≤ 0) by rw [decide_eq_decide]; omega]
  · show (atM l K S (start l S) 0).tn.getD j [] = _
    rw [atM_tn, e, h4 j]
    unfold start newAt ord
    simp only
    rw [getD_rep, List.nil_append, List.filter_filter]
    refine List.filter_congr fun x _ => ?_
    rw [Bool.and_comm, show decide ((it l x).rd = 0) = decide ((it l x).rd ≤ 0) by rw [decide_eq_decide]; omega]
theorem inv_succ (h : Fit l K S) {t : Nat} (ht : t < S) {m : MC} (hi : Inv l K S t m) : Inv l K S (t + 1) (atM l K S m (t + 1)) := by
  have hold : oldAt m (t + 1) = (ord K l.length t).filter (fun x => decide ((it l x).rd ≤ t) && bitOf K t x) := by
    unfold oldAt
    rw [if_neg (by omega), Nat.add_sub_cancel, hi.st t ht]
    refine List.filter_congr fun x _ => ?_
    congr 1
    unfold goesTo bitOf
    rw [nbit_step ht]
    cases hb : (kAt K x).testBit t with
    | true => simp
    | false =>
      simp only [Bool.false_eq_true, if_false]
      cases hn : nbit (kAt K x) (t + 1) (S - (t + 1)) with
      | none => rfl
      | some b =>
        have := nbit_lt _ _ _ _ hn
        simp
        omega
  have hclr : clr m (t + 1) = { m with st := m.st.set t [] } := by unfold clr; rw [if_neg (by omega), Nat.add_sub_cancel]
  have hcl : (clr m (t + 1)).st.length = S := by rw [hclr]; simp [hi.sl]
  have hct : (clr m (t + 1)).tn.length = nTn l := by rw [hclr]; exact hi.tl
  obtain ⟨h1, h2, h3, h4, _, _⟩ := push_fold (l := l) (K := K) (S := S) (t + 1) (oldAt m (t + 1) ++ newAt l (t + 1)) (clr m (t + 1)) (fun x hx => by
    rw [hct]
    refine tr_ok ?_
    rcases List.mem_append.1 hx with hx | hx
    · rw [hold] at hx
      have := (ord_perm K l.length t).mem_iff.1 (List.mem_filter.1 hx).1
      simpa using this
    · unfold newAt at hx
      simpa using (List.mem_filter.1 hx).1) (by rw [hcl]; exact Nat.le_refl _)
  refine ⟨by rw [atM_st, h1, hcl], by rw [atM_tn, h2, hct], fun b hb => ?_, fun j => ?_⟩
  · rw [atM_st, h3 b, ← ord_step h t (goesTo K S (t + 1) b), List.filter_append, hold, List.filter_filter]
    have e1 : (clr m (t + 1)).st.getD b [] = (ord K l.length t).filter (fun x => decide ((it l x).rd ≤ t) && (!bitOf K t x && goesTo K S (t + 1) b x)) := by
      rw [hclr]
      simp only
      by_cases hbt : t = b
      · subst hbt
        rw [List.getD_eq_getElem?_getD, List.getElem?_set_self (by rw [hi.sl]; exact hb)]
        symm
        show _ = []
        rw [List.filter_eq_nil_iff]
        intro x _ hc
        simp only [Bool.and_eq_true] at hc
        have := hc.2.2
        unfold goesTo at this
        cases hn : nbit (kAt K x) (t + 1) (S - (t + 1)) with
        | none => rw [hn] at this; simp at this
        | some c =>
          rw [hn] at this
          have h5 := nbit_lt _ _ _ _ hn
          simp at this
          omega
      · rw [List.getD_eq_getElem?_getD, List.getElem?_set_ne hbt, ← List.getD_eq_getElem?_getD, hi.st b hb]
        refine List.filter_congr fun x _ => ?_
        congr 1
        unfold goesTo bitOf
        rw [nbit_step ht]
        cases hbb : (kAt K x).testBit t with
        | true => simp [hbt]
        | false => simp
    rw [e1]
    congr 1
    congr 1
    · refine List.filter_congr fun x _ => ?_
      cases decide ((it l x).rd ≤ t) <;> cases bitOf K t x <;> cases goesTo K S (t + 1) b x <;> rfl
    · unfold newAt
      rw [List.filter_filter]
      refine List.filter_congr fun x _ => ?_
      rw [Bool.and_comm]
  · rw [atM_tn, h4 j, ← ord_step h t (goesOut l K S (t + 1) j), List.filter_append, hold, List.filter_filter]
    have e1 : (clr m (t + 1)).tn.getD j [] = (ord K l.length t).filter (fun x => decide ((it l x).rd ≤ t) && (!bitOf K t x && goesOut l K S (t + 1) j x)) := by
      rw [hclr]
      simp only
      rw [hi.tn j]
      refine List.filter_congr fun x _ => ?_
      congr 1
      unfold goesOut bitOf
      rw [nbit_step ht]
      cases hbb : (kAt K x).testBit t with
      | true => simp
      | false => simp
    rw [e1]
    congr 1
    congr 1
    · refine List.filter_congr fun x _ => ?_
      cases decide ((it l x).rd ≤ t) <;> cases bitOf K t x <;> cases goesOut l K S (t + 1) j x <;> rfl
    · unfold newAt
      rw [List.filter_filter]
      refine List.filter_congr fun x _ => ?_
      rw [Bool.and_comm]
theorem inv_at (h : Fit l K S) : ∀ t, t ≤ S → Inv l K S t (runTo l K S (t + 1)) := by
  intro t
  induction t with
  | zero => intro _; exact inv_zero
  | succ t ih =>
    intro ht
    exact inv_succ h (by omega) (ih (by omega))
/-- The trains behind all pushes. -/
theorem run_trains (h : Fit l K S) (hr : ∀ x, x < l.length → (it l x).rd ≤ S) : (run l K S).tn.length = nTn l ∧ ∀ j, (run l K S).tn.getD j [] = (ord K l.length S).filter fun x => decide ((it l x).tr = j) := by
  have hi := inv_at h S (Nat.le_refl _)
  refine ⟨hi.tl, fun j => ?_⟩
  show (runTo l K S (S + 1)).tn.getD j [] = _
  rw [hi.tn j]
  refine List.filter_congr fun x hx => ?_
  have hx2 : x < l.length := by have := (ord_perm K l.length S).mem_iff.1 hx; simpa using this
  rw [decide_eq_true (hr x hx2)]
  unfold goesOut
  rw [Nat.sub_self]
  simp [nbit]
end Tl
end Go.Proofs.Ytlljanbhbnempaa
