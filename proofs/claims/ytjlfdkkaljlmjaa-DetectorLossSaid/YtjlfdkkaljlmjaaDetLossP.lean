/- The plain law of 'DetectorLoss'. -/
import Derived.Test.YtjlfdkkaljlmjaaDetLaws2
namespace Go.Proofs.Ytjlfdkkaljlmjaa.Det
theorem rdP_neg : ∀ (k : Nat) (t : Int) (l : List Int) (j : Nat), j < 2 * k → 2 * k ≤ l.length → l.getD j 0 = -1 → rdP t k l = none := by
  intro k
  induction k with
  | zero => intro t l j h; omega
  | succ k ih =>
    intro t l j hj hl h
    match l, hl, h with
    | [], hl, _ | [_], hl, _ => (exfalso; simp only [List.length_cons, List.length_nil] at hl; omega)
    | a :: d :: r, hl, h =>
      by_cases hok : okV a d t = true
      · rw [rdP_ok _ _ _ _ _ hok]
        have hj2 : 2 ≤ j := by
          rcases Nat.lt_or_ge j 2 with hlt | hge
          · exfalso
            have e : j = 0 ∨ j = 1 := by omega
            simp only [okV, small, Bool.and_eq_true, decide_eq_true_eq] at hok
            rcases e with rfl | rfl
            · simp only [List.getD_cons_zero] at h; omega
            · simp only [List.getD_cons_succ, List.getD_cons_zero] at h; omega
          · exact hge
        obtain ⟨i, rfl⟩ : ∃ i, j = i + 2 := ⟨j - 2, by omega⟩
        rw [ih (t + d) r i (by omega) (by simp only [List.length_cons] at hl; omega) (by simpa using h)]
        rfl
      · exact rdP_bad _ _ _ _ _ (by simpa using hok)
theorem skip_low (X C : List Int) (h : ∀ x ∈ X, mark x = false) : skip (X ++ C) = X.length + skip C := by
  induction X with
  | nil => simp
  | cons x X ih =>
    rw [List.cons_append, skip, if_neg (by rw [h x (by simp)]; simp), ih (fun y hy => h y (by simp [hy])), List.length_cons]
    omega
theorem skip_vals (l : List V3) : skip (vals l) = 0 := by
  cases l with
  | nil => rfl
  | cons p r =>
    have hg := grp_pos p r
    have hlen : ((p :: r).take (grp (p :: r))).length = grp (p :: r) := by rw [List.length_take, List.length_cons]; omega
    rw [vals_cons, grpVals, hlen]
    have hm : mark (1536 + (grp (p :: r) : Int)) = true := by simp [mark]; omega
    simp only [head4, List.cons_append, skip, hm, if_true]
/-- The values of a group: its head, and the rest, no mark among it. -/
theorem grp_form (p : V3) (r : List V3) (h : vGo (p :: r) none = 0) : ∃ X : List Int, grpVals ((p :: r).take (grp (p :: r))) = (1536 + (grp (p :: r) : Int)) :: X ∧ X.length = 3 + 2 * grp (p :: r) ∧ (∀ x ∈ X, mark x = false) ∧ small (X.getD 0 0) = true ∧ small (X.getD 1 0) = true ∧ small (X.getD 2 0) = true := by
  obtain ⟨h1, _, h3⟩ := vGo_cons h
  have hg := grp_pos p r
  have ho := okP_all h1
  have hgr : grp (p :: r) = run 7 p.b r + 1 := rfl
  have hlen : ((p :: r).take (grp (p :: r))).length = grp (p :: r) := by rw [List.length_take, List.length_cons]; omega
  have hhead : headT ((p :: r).take (grp (p :: r))) = p.b := by rw [hgr, List.take_succ_cons]; rfl
  refine ⟨(p.b / 1048576) :: (p.b / 1024 % 1024) :: (p.b % 1024) :: encP p.b ((p :: r).take (grp (p :: r))), by rw [grpVals, hlen, hhead]; rfl, by simp only [List.length_cons, encP_len, hlen]; omega, fun x hx => ?_, ?_, ?_, ?_⟩
  · have hlow : x ≤ 1536 := by
      rcases List.mem_cons.1 hx with rfl | hx
      · omega
      rcases List.mem_cons.1 hx with rfl | hx
      · omega
      rcases List.mem_cons.1 hx with rfl | hx
      · omega
      rw [hgr, List.take_succ_cons, encP] at hx
      have := pv_range h1
      rcases List.mem_cons.1 hx with rfl | hx
      · omega
      rcases List.mem_cons.1 hx with rfl | hx
      · omega
      have := encP_range 7 p.b r h3 x hx
      omega
    simp [mark]; omega
  · simp [small]; omega
  · simp [small]; omega
  · simp [small]; omega
theorem getD_set_self (X : List Int) (i : Nat) (v : Int) (h : i < X.length) : (X.set i v).getD i 0 = v := by
  rw [List.getD_eq_getElem?_getD, List.getElem?_set_self h]; rfl
theorem getD_append (X C : List Int) (i : Nat) (h : i < X.length) : (X ++ C).getD i 0 = X.getD i 0 := by
  rw [List.getD_eq_getElem?_getD, List.getElem?_append_left h, ← List.getD_eq_getElem?_getD]
theorem set_getD_ne (X : List Int) (i j : Nat) (v : Int) (h : i ≠ j) : (X.set i v).getD j 0 = X.getD j 0 := by
  rw [List.getD_eq_getElem?_getD, List.getElem?_set_ne h, ← List.getD_eq_getElem?_getD]
/-- A group of which one value is lost is not read, and passed over whole. -/
theorem broken (p : V3) (r : List V3) (h : vGo (p :: r) none = 0) (o : Nat) (ho : o < 4 + 2 * grp (p :: r)) (C : List Int) (hC : skip C = 0) :
    rd ((grpVals ((p :: r).take (grp (p :: r)))).set o (-1) ++ C) = none ∧ skip (((grpVals ((p :: r).take (grp (p :: r)))).set o (-1) ++ C).drop 1) = 3 + 2 * grp (p :: r) := by
  obtain ⟨X, e1, e2, e3, s0, s1, s2⟩ := grp_form p r h
  have hg := grp_pos p r
  rw [e1]
  generalize grp (p :: r) = g at *
  cases o with
  | zero =>
    rw [List.set_cons_zero]
    refine ⟨rd_no_mark _ rfl, ?_⟩
    rw [List.cons_append, List.drop_succ_cons, List.drop_zero, skip_low X C e3, hC, e2]
    omega
  | succ o =>
    rw [List.set_cons_succ]
    have hoX : o < X.length := by omega
    have hl : (X.set o (-1)).length = 3 + 2 * g := by rw [List.length_set, e2]
    refine ⟨?_, ?_⟩
    · have hA : ∀ i, i < 3 + 2 * g → (((1536 + (g : Int)) :: X.set o (-1)) ++ C).getD (i + 1) 0 = (X.set o (-1)).getD i 0 := fun i hi => by
        rw [List.cons_append, List.getD_cons_succ, getD_append _ _ _ (by omega)]
      by_cases ho3 : o < 3
      · refine rd_large _ ?_
        have h4 : small ((X.set o (-1)).getD o 0) = false := by rw [getD_set_self _ _ _ hoX]; rfl
        rw [hA 0 (by omega), hA 1 (by omega), hA 2 (by omega)]
        have e : o = 0 ∨ o = 1 ∨ o = 2 := by omega
        rcases e with rfl | rfl | rfl
        · rw [h4]; rfl
        · rw [h4]; simp
        · rw [h4]; simp
      · rw [rd_go _ g rfl (by show mark (1536 + (g : Int)) = true; simp [mark]; omega) (by simp only [List.cons_append, List.length_cons, List.length_append, hl]; omega)
          (by rw [hA 0 (by omega), set_getD_ne _ _ _ _ (by omega)]; exact s0) (by rw [hA 1 (by omega), set_getD_ne _ _ _ _ (by omega)]; exact s1) (by rw [hA 2 (by omega), set_getD_ne _ _ _ _ (by omega)]; exact s2)]
        rw [rdP_neg g _ _ (o - 3) (by omega) (by simp only [List.length_drop, List.cons_append, List.length_cons, List.length_append, hl]; omega) ?_]
        · rfl
        · rw [List.getD_eq_getElem?_getD, List.getElem?_drop, ← List.getD_eq_getElem?_getD, show 4 + (o - 3) = o + 1 by omega, hA o (by omega), getD_set_self _ _ _ hoX]
    · rw [List.cons_append, List.drop_succ_cons, List.drop_zero, skip_low _ C (fun x hx => ?_), hC, hl]
      · omega
      · rcases List.mem_or_eq_of_mem_set hx with hx | rfl
        · exact e3 x hx
        · rfl
/-- Behind some whole groups: the values so far, and how they are read. -/
structure Pos (l : List V3) (fr first : Nat) (P : List Int) : Prop where
  pv : vals l = P ++ vals (l.drop first)
  pl : P.length = fr
  le : first ≤ l.length
  pp : ∀ C, parseAt (P ++ C) 0 = (l.take first ++ (parseAt (P ++ C) fr).1, (parseAt (P ++ C) fr).2)
theorem Pos.zero (l : List V3) : Pos l 0 0 [] := ⟨rfl, rfl, by omega, fun C => by simp⟩
theorem Pos.step {l : List V3} {fr first : Nat} {P : List Int} (h : Pos l fr first P) (hv : vGo l none = 0) (hf : first < l.length) :
    Pos l (fr + (4 + 2 * grp (l.drop first))) (first + grp (l.drop first)) (P ++ grpVals ((l.drop first).take (grp (l.drop first)))) := by
  have hvd := vGo_drop first l hv
  have hdd : (l.drop first).drop (grp (l.drop first)) = l.drop (first + grp (l.drop first)) := by rw [List.drop_drop]
  have htt : l.take (first + grp (l.drop first)) = l.take first ++ (l.drop first).take (grp (l.drop first)) := by rw [List.take_add]
  have hdl : (l.drop first).length = l.length - first := List.length_drop
  rcases hq : l.drop first with _ | ⟨p, r⟩
  · rw [hq] at hdl; simp at hdl; omega
  rw [hq] at hvd hdd htt hdl
  have hg := grp_pos p r
  simp only [List.length_cons] at hdl
  have hgl : ((p :: r).take (grp (p :: r))).length = grp (p :: r) := by rw [List.length_take, List.length_cons]; omega
  refine ⟨?_, ?_, by omega, fun C => ?_⟩
  · rw [h.pv, hq, vals_cons, List.append_assoc, hdd]
  · rw [List.length_append, h.pl, grpVals_len, hgl]
  · rw [List.append_assoc, h.pp]
    have hd : (P ++ (grpVals ((p :: r).take (grp (p :: r))) ++ C)).drop fr = grpVals ((p :: r).take (grp (p :: r))) ++ C := by rw [← h.pl, List.drop_left]
    rw [parseAt_some _ fr _ _ (by rw [hd]; exact rd_group p r C hvd)]
    simp only
    rw [htt, List.append_assoc]
theorem loss {l : List V3} {fr first at_ : Nat} {P : List Int} (h : Pos l fr first P) (hv : vGo l none = 0) (hf : first < l.length) (h1 : fr ≤ at_) (h2 : at_ < fr + (4 + 2 * grp (l.drop first))) :
    parse ((vals l).set at_ (-1)) = (l.take first ++ l.drop (first + grp (l.drop first)), [((fr : Int), ((fr + (3 + 2 * grp (l.drop first)) : Nat) : Int))]) := by
  have hvd := vGo_drop first l hv
  have hdd : (l.drop first).drop (grp (l.drop first)) = l.drop (first + grp (l.drop first)) := by rw [List.drop_drop]
  have hdl : (l.drop first).length = l.length - first := List.length_drop
  have hpv := h.pv
  rcases hq : l.drop first with _ | ⟨p, r⟩
  · rw [hq] at hdl; simp at hdl; omega
  rw [hq] at hvd hdd hdl h2 hpv
  have hg := grp_pos p r
  simp only [List.length_cons] at hdl
  have hgl : ((p :: r).take (grp (p :: r))).length = grp (p :: r) := by rw [List.length_take, List.length_cons]; omega
  have hL : (grpVals ((p :: r).take (grp (p :: r)))).length = 4 + 2 * grp (p :: r) := by rw [grpVals_len, hgl]
  obtain ⟨b1, b2⟩ := broken p r hvd (at_ - fr) (by omega) (vals (l.drop (first + grp (p :: r)))) (skip_vals _)
  have hset : (vals l).set at_ (-1) = P ++ ((grpVals ((p :: r).take (grp (p :: r)))).set (at_ - fr) (-1) ++ vals (l.drop (first + grp (p :: r)))) := by
    rw [hpv, vals_cons, hdd, List.set_append_right _ _ (by rw [h.pl]; omega), h.pl, List.set_append_left _ _ (by omega)]
  rw [hset, parse_at0, h.pp]
  generalize hLe : (grpVals ((p :: r).take (grp (p :: r)))).set (at_ - fr) (-1) = L' at b1 b2
  have hL' : L'.length = 4 + 2 * grp (p :: r) := by rw [← hLe, List.length_set, hL]
  have hd0 : (P ++ (L' ++ vals (l.drop (first + grp (p :: r))))).drop fr = L' ++ vals (l.drop (first + grp (p :: r))) := by rw [← h.pl, List.drop_left]
  have hd1 : (P ++ (L' ++ vals (l.drop (first + grp (p :: r))))).drop (fr + 1) = (L' ++ vals (l.drop (first + grp (p :: r)))).drop 1 := by rw [← List.drop_drop, hd0]
  rw [parseAt_none _ fr (by rw [List.length_append, List.length_append, h.pl, hL']; omega) (by rw [hd0]; exact b1), hd1, b2]
  have hpl := parse_vals _ (l.drop (first + grp (p :: r))) (Nat.le_refl _) (vGo_drop _ l hv) (P ++ L') []
  rw [List.append_nil, List.append_assoc] at hpl
  have hn : fr + 1 + (3 + 2 * grp (p :: r)) = (P ++ L').length := by rw [List.length_append, h.pl, hL']; omega
  rw [hn, hpl, parseAt_end _ _ (by simp only [List.length_append]; omega)]
  simp
end Go.Proofs.Ytjlfdkkaljlmjaa.Det
