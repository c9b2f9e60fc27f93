/- Plain laws of layer 4: the values of a valid list are in their range; how many there are. -/
import Derived.Test.YtjlfdkkaljlmjaaDetParse
namespace Go.Proofs.Ytjlfdkkaljlmjaa.Det
theorem vGo_weak : ∀ (l : List V3) (o : Option Int), vGo l o = 0 → vGo l none = 0 := by
  intro l o h
  cases l with
  | nil => rfl
  | cons p r =>
    by_cases hk : okP p = true
    · rw [vGo_ok o p r hk] at h
      rw [vGo_ok none p r hk, if_neg (by simp [early])]
      by_cases he : early o p.b = true
      · rw [if_pos he] at h; omega
      · rwa [if_neg he] at h
    · rw [vGo_bad o p r (by simpa using hk)] at h; omega
theorem vGo_cons {p : V3} {r : List V3} {o : Option Int} (h : vGo (p :: r) o = 0) : okP p = true ∧ early o p.b = false ∧ vGo r (some p.b) = 0 := by
  by_cases hk : okP p = true
  · rw [vGo_ok o p r hk] at h
    by_cases he : early o p.b = true
    · rw [if_pos he] at h; omega
    · rw [if_neg he] at h; exact ⟨hk, by simpa using he, h⟩
  · rw [vGo_bad o p r (by simpa using hk)] at h; omega
theorem vGo_drop : ∀ (k : Nat) (l : List V3), vGo l none = 0 → vGo (l.drop k) none = 0 := by
  intro k
  induction k with
  | zero => intro l h; exact h
  | succ k ih =>
    intro l h
    cases l with
    | nil => rfl
    | cons p r => exact ih r (vGo_weak r _ (vGo_cons h).2.2)
theorem pv_range {p : V3} (h : okP p = true) : 1024 ≤ pv p ∧ pv p < 1088 := by
  have := okP_all h
  unfold pv
  split <;> omega
theorem encP_range : ∀ (m : Nat) (t : Int) (l : List V3), vGo l (some t) = 0 → ∀ v ∈ encP t (l.take (run m t l)), 0 ≤ v ∧ v < 1088 := by
  intro m
  induction m with
  | zero => intro t l _ v hv; simp [run, encP] at hv
  | succ m ih =>
    intro t l h v hv
    cases l with
    | nil => simp [run, encP] at hv
    | cons p r =>
      obtain ⟨h1, h2, h3⟩ := vGo_cons h
      rw [run] at hv
      split at hv
      · rename_i hd
        rw [List.take_succ_cons, encP] at hv
        have := pv_range h1
        have h2' : t ≤ p.b := by simpa [early] using h2
        rcases List.mem_cons.1 hv with rfl | hv
        · omega
        · rcases List.mem_cons.1 hv with rfl | hv
          · omega
          · exact ih p.b r h3 v hv
      · simp [encP] at hv
theorem grp_range {l : List V3} (h : vGo l none = 0) : ∀ v ∈ grpVals (l.take (grp l)), 0 ≤ v ∧ v < 2048 := by
  intro v hv
  cases l with
  | nil => simp [grpVals, head4, encP, headT, grp] at hv; omega
  | cons p r =>
    obtain ⟨h1, _, h3⟩ := vGo_cons h
    have hg := grp_pos p r
    have ho := okP_all h1
    have hgr : grp (p :: r) = run 7 p.b r + 1 := rfl
    rw [grpVals] at hv
    have hlen : ((p :: r).take (grp (p :: r))).length = grp (p :: r) := by rw [List.length_take, List.length_cons]; omega
    have hhead : headT ((p :: r).take (grp (p :: r))) = p.b := by rw [hgr, List.take_succ_cons]; rfl
    rw [hlen, hhead] at hv
    rcases List.mem_append.1 hv with hv | hv
    · simp only [head4, List.mem_cons, List.not_mem_nil, or_false] at hv
      rcases hv with rfl | rfl | rfl | rfl <;> omega
    · rw [hgr, List.take_succ_cons, encP] at hv
      have := pv_range h1
      rcases List.mem_cons.1 hv with rfl | hv
      · omega
      · rcases List.mem_cons.1 hv with rfl | hv
        · omega
        · have := encP_range 7 p.b r h3 v hv
          omega
theorem vals_range : ∀ (n : Nat) (l : List V3), l.length ≤ n → vGo l none = 0 → ∀ v ∈ vals l, 0 ≤ v ∧ v < 2048 := by
  intro n
  induction n with
  | zero =>
    intro l hl _ v hv
    obtain rfl : l = [] := List.eq_nil_of_length_eq_zero (by omega)
    simp [vals, valsF] at hv
  | succ n ih =>
    intro l hl h v hv
    cases l with
    | nil => simp [vals, valsF] at hv
    | cons p r =>
      have hg := grp_pos p r
      rw [vals_cons] at hv
      rcases List.mem_append.1 hv with hv | hv
      · exact grp_range h v hv
      · exact ih _ (by simp only [List.length_drop, List.length_cons] at *; omega) (vGo_drop _ _ h) v hv
theorem vals_len : ∀ (n : Nat) (l : List V3), l.length ≤ n → ∃ G, (vals l).length = 4 * G + 2 * l.length ∧ G ≤ l.length ∧ (l.length + 7) / 8 ≤ G := by
  intro n
  induction n with
  | zero =>
    intro l hl
    obtain rfl : l = [] := List.eq_nil_of_length_eq_zero (by omega)
    exact ⟨0, rfl, by simp, by simp⟩
  | succ n ih =>
    intro l hl
    cases l with
    | nil => exact ⟨0, rfl, by simp, by simp⟩
    | cons p r =>
      have hg := grp_pos p r
      obtain ⟨G, h1, h2, h3⟩ := ih ((p :: r).drop (grp (p :: r))) (by simp only [List.length_drop, List.length_cons] at *; omega)
      refine ⟨G + 1, ?_, ?_, ?_⟩
      · rw [vals_cons, List.length_append, grpVals_len, h1, List.length_take, List.length_drop, List.length_cons]
        omega
      · simp only [List.length_drop, List.length_cons] at *; omega
      · simp only [List.length_drop, List.length_cons] at *; omega
theorem vErr_of {l : List V3} (h : vGo l none = 0) (hl : l.length ≤ 4096) : vErr l = 0 := by rw [vErr, if_neg (by omega)]; exact h
end Go.Proofs.Ytjlfdkkaljlmjaa.Det
