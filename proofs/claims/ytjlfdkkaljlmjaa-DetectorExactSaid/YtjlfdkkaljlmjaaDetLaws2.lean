/- Plain laws of layer 4: reading the values of a valid list gives the list back. -/
import Derived.Test.YtjlfdkkaljlmjaaDetLaws
namespace Go.Proofs.Ytjlfdkkaljlmjaa.Det
theorem okV_of {p : V3} {t : Int} (h : okP p = true) (h0 : t ≤ p.b) (h1 : p.b - t ≤ 1023) : okV (pv p) (p.b - t) t = true := by
  have ho := okP_all h
  have hp := pv_range h
  simp only [okV, small, Bool.and_eq_true, decide_eq_true_eq]
  omega
theorem back {p : V3} {t : Int} (h : okP p = true) : (⟨(pv p - 1024) / 2, t + (p.b - t), (pv p - 1024) % 2 * 2 - 1⟩ : V3) = p := by
  have ho := okP_all h
  obtain ⟨a, b, c⟩ := p
  simp only [pv] at *
  have h2 : t + (b - t) = b := by omega
  rw [h2]
  obtain ⟨_, _, _, _, hc | hc⟩ := ho
  · subst hc
    rw [if_pos rfl]
    have e1 : (1024 + 2 * a + 1 - 1024) / 2 = a := by omega
    have e2 : (1024 + 2 * a + 1 - 1024) % 2 * 2 - 1 = 1 := by omega
    rw [e1, e2]
  · subst hc
    rw [if_neg (by decide)]
    have e1 : (1024 + 2 * a + 0 - 1024) / 2 = a := by omega
    have e2 : (1024 + 2 * a + 0 - 1024) % 2 * 2 - 1 = -1 := by omega
    rw [e1, e2]
theorem rdP_run : ∀ (m : Nat) (t : Int) (l : List V3) (C : List Int), vGo l (some t) = 0 → rdP t (run m t l) (encP t (l.take (run m t l)) ++ C) = some (l.take (run m t l)) := by
  intro m
  induction m with
  | zero => intro t l C _; simp [run, rdP]
  | succ m ih =>
    intro t l C h
    cases l with
    | nil => simp [run, rdP]
    | cons p r =>
      obtain ⟨h1, h2, h3⟩ := vGo_cons h
      have h2' : t ≤ p.b := by simpa [early] using h2
      rw [run]
      split
      · rename_i hd
        rw [List.take_succ_cons, encP, List.cons_append, List.cons_append, rdP_ok _ _ _ _ _ (okV_of h1 h2' hd)]
        have e : t + (p.b - t) = p.b := by omega
        have hb := back (t := t) h1
        rw [e] at hb ⊢
        rw [ih p.b r C h3]
        simp [hb]
      · simp [rdP]
theorem rd_group (p : V3) (r : List V3) (C : List Int) (h : vGo (p :: r) none = 0) : rd (grpVals ((p :: r).take (grp (p :: r))) ++ C) = some ((p :: r).take (grp (p :: r)), 4 + 2 * grp (p :: r)) := by
  obtain ⟨h1, _, h3⟩ := vGo_cons h
  have hg := grp_pos p r
  have ho := okP_all h1
  have hgr : grp (p :: r) = run 7 p.b r + 1 := rfl
  have hlen : ((p :: r).take (grp (p :: r))).length = grp (p :: r) := by rw [List.length_take, List.length_cons]; omega
  have hhead : headT ((p :: r).take (grp (p :: r))) = p.b := by rw [hgr, List.take_succ_cons]; rfl
  have hV : grpVals ((p :: r).take (grp (p :: r))) ++ C = (1536 + (grp (p :: r) : Int)) :: (p.b / 1048576) :: (p.b / 1024 % 1024) :: (p.b % 1024) :: (encP p.b ((p :: r).take (grp (p :: r))) ++ C) := by
    rw [grpVals, hlen, hhead]; rfl
  have hL : (grpVals ((p :: r).take (grp (p :: r))) ++ C).length = 4 + 2 * grp (p :: r) + C.length := by rw [List.length_append, grpVals_len, hlen]
  rw [rd_go _ (grp (p :: r)) (by rw [hV]; rfl) (by rw [hV]; simp [mark]; omega) (by omega) (by rw [hV]; simp [small]; omega) (by rw [hV]; simp [small]; omega) (by rw [hV]; simp [small]; omega)]
  have hT : (grpVals ((p :: r).take (grp (p :: r))) ++ C).getD 1 0 * 1048576 + (grpVals ((p :: r).take (grp (p :: r))) ++ C).getD 2 0 * 1024 + (grpVals ((p :: r).take (grp (p :: r))) ++ C).getD 3 0 = p.b := by
    rw [hV]
    show p.b / 1048576 * 1048576 + p.b / 1024 % 1024 * 1024 + p.b % 1024 = p.b
    omega
  have hD : (grpVals ((p :: r).take (grp (p :: r))) ++ C).drop 4 = encP p.b ((p :: r).take (grp (p :: r))) ++ C := by rw [hV]; rfl
  rw [hT, hD]
  have hfirst : rdP p.b (grp (p :: r)) (encP p.b ((p :: r).take (grp (p :: r))) ++ C) = some ((p :: r).take (grp (p :: r))) := by
    rw [hgr, List.take_succ_cons, encP, List.cons_append, List.cons_append, rdP_ok _ _ _ _ _ (okV_of h1 (by omega) (by omega))]
    have e : p.b + (p.b - p.b) = p.b := by omega
    have hb := back (t := p.b) h1
    rw [e] at hb ⊢
    rw [rdP_run 7 p.b r C h3]
    simp [hb]
  rw [hfirst]
  rfl
theorem parse_vals : ∀ (n : Nat) (l : List V3), l.length ≤ n → vGo l none = 0 → ∀ A C : List Int, parseAt (A ++ (vals l ++ C)) A.length = (l ++ (parseAt (A ++ (vals l ++ C)) (A.length + (vals l).length)).1, (parseAt (A ++ (vals l ++ C)) (A.length + (vals l).length)).2) := by
  intro n
  induction n with
  | zero =>
    intro l hl _ A C
    obtain rfl : l = [] := List.eq_nil_of_length_eq_zero (by omega)
    simp [vals, valsF]
  | succ n ih =>
    intro l hl h A C
    cases l with
    | nil => simp [vals, valsF]
    | cons p r =>
      have hg := grp_pos p r
      have hgl : ((p :: r).take (grp (p :: r))).length = grp (p :: r) := by rw [List.length_take, List.length_cons]; omega
      have hd : (A ++ (vals (p :: r) ++ C)).drop A.length = grpVals ((p :: r).take (grp (p :: r))) ++ (vals ((p :: r).drop (grp (p :: r))) ++ C) := by
        rw [List.drop_left', vals_cons, List.append_assoc]
        rfl
      have hrd := rd_group p r (vals ((p :: r).drop (grp (p :: r))) ++ C) h
      have hs := parseAt_some (A ++ (vals (p :: r) ++ C)) A.length _ _ (by rw [hd]; exact hrd)
      have hi := ih ((p :: r).drop (grp (p :: r))) (by simp only [List.length_drop, List.length_cons] at *; omega) (vGo_drop _ _ h) (A ++ grpVals ((p :: r).take (grp (p :: r)))) C
      have hA : (A ++ grpVals ((p :: r).take (grp (p :: r)))).length = A.length + (4 + 2 * grp (p :: r)) := by rw [List.length_append, grpVals_len, hgl]
      have hV : A ++ grpVals ((p :: r).take (grp (p :: r))) ++ (vals ((p :: r).drop (grp (p :: r))) ++ C) = A ++ (vals (p :: r) ++ C) := by
        rw [vals_cons]; simp [List.append_assoc]
      rw [hV, hA] at hi
      rw [hs, hi]
      have hN : A.length + (4 + 2 * grp (p :: r)) + (vals ((p :: r).drop (grp (p :: r)))).length = A.length + (vals (p :: r)).length := by
        rw [vals_cons, List.length_append, grpVals_len, hgl]; omega
      rw [hN]
      simp only
      rw [← List.append_assoc, List.take_append_drop]
theorem parse_one (l : List V3) (h : vGo l none = 0) : parse (vals l) = (l, []) := by
  have := parse_vals _ l (Nat.le_refl _) h [] []
  simp only [List.nil_append, List.append_nil, List.length_nil, Nat.zero_add] at this
  rw [parse_at0, this, parseAt_end _ _ (Nat.le_refl _)]
  simp
theorem parse_two (l m : List V3) (h : vGo l none = 0) (hm : vGo m none = 0) : parse (vals l ++ vals m) = (l ++ m, []) := by
  have h1 := parse_vals _ l (Nat.le_refl _) h [] (vals m)
  have h2 := parse_vals _ m (Nat.le_refl _) hm (vals l) []
  simp only [List.nil_append, List.length_nil, Nat.zero_add] at h1
  rw [List.append_nil] at h2
  rw [h2, parseAt_end (vals l ++ vals m) ((vals l).length + (vals m).length) (by rw [List.length_append]; exact Nat.le_refl _)] at h1
  rw [parse_at0, h1]
  simp
/- two messages one behind the other -/
theorem encB_append (a b : List Int) : Ham.encB (a ++ b) = Ham.encB a ++ Ham.encB b := by simp [Ham.encB]
theorem joined (l m : List V3) (h : vGo l none = 0) (hm : vGo m none = 0) (hl : l.length ≤ 2000) (hml : m.length ≤ 2000) :
    Ham.unpE (Ham.encB (vals l) ++ Ham.encB (vals m)) = 0 ∧ Ham.unpackV (Ham.encB (vals l) ++ Ham.encB (vals m)) = vals l ++ vals m := by
  rw [← encB_append]
  have r1 := vals_range _ l (Nat.le_refl _) h
  have r2 := vals_range _ m (Nat.le_refl _) hm
  obtain ⟨G1, a1, a2, _⟩ := vals_len _ l (Nat.le_refl _)
  obtain ⟨G2, b1, b2, _⟩ := vals_len _ m (Nat.le_refl _)
  have hu := (Ham.Near.enc (vals l ++ vals m)).unpack (fun v hv => by
    rcases List.mem_append.1 hv with hv | hv
    · exact r1 v hv
    · exact r2 v hv) (by rw [List.length_append]; omega)
  exact ⟨hu.1, hu.2.1⟩
end Go.Proofs.Ytjlfdkkaljlmjaa.Det
