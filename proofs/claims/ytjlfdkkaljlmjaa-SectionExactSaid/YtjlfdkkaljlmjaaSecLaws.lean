/- The plain laws of layer 5. -/
import Derived.Test.YtjlfdkkaljlmjaaSecPlain
import Derived.Test.YtjlfdkkaljlmjaaDetLaws
namespace Go.Proofs.Ytjlfdkkaljlmjaa
namespace Sec
/-- What a pulse adds to the count. -/
def cs (l : List V3) (s r : Int) (x : V3) : Int := if x.b ≤ r then 0 else x.c * sense l s x.a
def csum (l : List V3) (s r : Int) : List V3 → Int
  | [] => 0
  | x :: p => cs l s r x + csum l s r p
theorem csum_append (l : List V3) (s r : Int) (p q : List V3) : csum l s r (p ++ q) = csum l s r p + csum l s r q := by
  induction p with
  | nil => simp [csum]
  | cons x p ih => rw [List.cons_append, csum, csum, ih]; omega
theorem cnt_csum (l : List V3) (s r : Int) : ∀ (n : Nat) (p : List V3), p.length = n → (cnt l p s r).1 = csum l s r p := by
  intro n
  induction n with
  | zero => intro p hp; rw [List.length_eq_zero_iff.1 hp]; rfl
  | succ n ih =>
    intro p hp
    obtain ⟨q, x, rfl⟩ : ∃ q x, p = q ++ [x] := ⟨p.dropLast, p.getLast (by intro e; simp [e] at hp), (List.dropLast_concat_getLast _).symm⟩
    rw [cnt_snoc, csum_append, ← ih q (by simpa using hp), cstep]
    simp only [csum, cs]
    split <;> simp
theorem cnt_add (l p : List V3) (s r : Int) (k : Nat) : (cnt l p s r).1 = (cnt l (p.take k) s r).1 + (cnt l (p.drop k) s r).1 := by
  rw [cnt_csum l s r _ p rfl, cnt_csum l s r _ _ rfl, cnt_csum l s r _ _ rfl, ← csum_append, List.take_append_drop]
theorem csum_low (l : List V3) (s r : Int) : ∀ p : List V3, (∀ x ∈ p, x.b ≤ r) → csum l s r p = 0 := by
  intro p
  induction p with
  | nil => intro _; rfl
  | cons x p ih => intro h; rw [csum, cs, if_pos (h x (by simp)), ih (fun y hy => h y (by simp [hy]))]; rfl
theorem csum_high (l : List V3) (s r t : Int) : ∀ p : List V3, (∀ x ∈ p, r < x.b ∧ t < x.b) → csum l s r p = csum l s t p := by
  intro p
  induction p with
  | nil => intro _; rfl
  | cons x p ih =>
    intro h
    have h1 := h x (by simp)
    rw [csum, csum, cs, cs, if_neg (by omega), if_neg (by omega), ih (fun y hy => h y (by simp [hy]))]
theorem sorted_ge : ∀ (p : List V3) (o : Option Int), Det.vGo p o = 0 → ∀ t, o = some t → ∀ x ∈ p, t ≤ x.b := by
  intro p
  induction p with
  | nil => intro _ _ _ _ x hx; simp at hx
  | cons q r ih =>
    intro o h t ht x hx
    obtain ⟨_, h2, h3⟩ := Det.vGo_cons h
    subst ht
    have h4 : t ≤ q.b := by simp [Det.early] at h2; omega
    rcases List.mem_cons.1 hx with rfl | hx
    · exact h4
    · exact Int.le_trans h4 (ih (some q.b) h3 q.b rfl x hx)
theorem drop_high (p : List V3) (n : Nat) (r : Int) (h : Det.vGo p none = 0) (hn : ∀ q, p[n]? = some q → r < q.b) : ∀ x ∈ p.drop n, r < x.b := by
  intro x hx
  have hd := Det.vGo_drop n p h
  rcases hq : p[n]? with _ | q
  · rw [List.drop_eq_nil_of_le (by simpa using hq)] at hx; simp at hx
  · have h1 := hn q hq
    obtain ⟨hk, he⟩ := List.getElem?_eq_some_iff.1 hq
    rw [List.drop_eq_getElem_cons hk, he] at hd hx
    obtain ⟨_, _, h3⟩ := Det.vGo_cons hd
    rcases List.mem_cons.1 hx with rfl | hx
    · exact h1
    · exact Int.lt_of_lt_of_le h1 (sorted_ge _ _ h3 q.b rfl x hx)
theorem cnt_reset (l p : List V3) (s r : Int) (n : Nat) (h : Det.vGo p none = 0) (hr : -1 ≤ r) (hlo : ∀ x ∈ p.take n, x.b ≤ r) (hhi : ∀ q, p[n]? = some q → r < q.b) : (cnt l p s (-1)).1 = (cnt l (p.take n) s (-1)).1 + (cnt l p s r).1 := by
  have h1 := drop_high p n r h hhi
  rw [cnt_add l p s (-1) n, cnt_add l p s r n]
  rw [cnt_csum l s r _ _ rfl, csum_low l s r _ hlo, cnt_csum l s r _ (p.drop n) rfl, cnt_csum l s (-1) _ (p.drop n) rfl, csum_high l s r (-1) _ (fun x hx => ⟨h1 x hx, by have := h1 x hx; omega⟩)]
  omega
theorem vGo_take : ∀ (k : Nat) (l : List V3) (o : Option Int), Det.vGo l o = 0 → Det.vGo (l.take k) o = 0 := by
  intro k
  induction k with
  | zero => intro l o _; rfl
  | succ k ih =>
    intro l o h
    cases l with
    | nil => rfl
    | cons q r =>
      obtain ⟨h1, h2, h3⟩ := Det.vGo_cons h
      rw [List.take_succ_cons, Det.vGo_ok o q _ h1, if_neg (by rw [h2]; simp)]
      exact ih r _ h3
theorem chk_take {l p : List V3} {s : Int} (k : Nat) (hl : vGo l [] = 0) (hl2 : l.length ≤ 64) (hp : Det.vGo p none = 0) (hp2 : p.length ≤ 4096) (hs : inB s = true) : chk l (p.take k) s = 0 :=
  chk_of (by rw [vErr, if_neg (by omega)]; exact hl) (Det.vErr_of (vGo_take k p none hp) (by rw [List.length_take]; omega)) hs
theorem chk_drop {l p : List V3} {s : Int} (k : Nat) (hl : vGo l [] = 0) (hl2 : l.length ≤ 64) (hp : Det.vGo p none = 0) (hp2 : p.length ≤ 4096) (hs : inB s = true) : chk l (p.drop k) s = 0 :=
  chk_of (by rw [vErr, if_neg (by omega)]; exact hl) (Det.vErr_of (Det.vGo_drop k p hp) (by rw [List.length_drop]; omega)) hs
theorem chk_all {l p : List V3} {s : Int} (hl : vGo l [] = 0) (hl2 : l.length ≤ 64) (hp : Det.vGo p none = 0) (hp2 : p.length ≤ 4096) (hs : inB s = true) : chk l p s = 0 :=
  chk_of (by rw [vErr, if_neg (by omega)]; exact hl) (Det.vErr_of hp hp2) hs
theorem cntR_ok {l p : List V3} {s r : Int} (h : chk l p s = 0) (f : List V3 → List V3 → Int → Int → Int) (hf : ∀ l p s r, f l p s r = if chk l p s = 0 then (cnt l p s r).1 else 0) : f l p s r = (cnt l p s r).1 := by rw [hf, if_pos h]
theorem cstep_low (l : List V3) (s r : Int) (st : Int × Int) (x : V3) (h : st.2 < 0) : (cstep l s r st x).2 < 0 := by
  unfold cstep
  split
  · exact h
  · simp only; omega
/-- A count that was below 0 once stays so. -/
theorem cnt_stays (l p : List V3) (s r : Int) (i : Nat) (h : (cnt l (p.take i) s r).2 < 0) : (cnt l (p.take (i + 1)) s r).2 < 0 := by
  by_cases hi : i < p.length
  · rw [List.take_succ_eq_append_getElem hi, cnt_snoc]
    exact cstep_low _ _ _ _ _ h
  · rw [List.take_of_length_le (by omega)] at h ⊢
    exact h
theorem cnt_late (l : List V3) (s r : Int) : ∀ (n : Nat) (p : List V3), p.length = n → (∀ x ∈ p, x.b ≤ r) → cnt l p s r = (0, 0) := by
  intro n
  induction n with
  | zero => intro p hp _; rw [List.length_eq_zero_iff.1 hp]; rfl
  | succ n ih =>
    intro p hp h
    obtain ⟨q, x, rfl⟩ : ∃ q x, p = q ++ [x] := ⟨p.dropLast, p.getLast (by intro e; simp [e] at hp), (List.dropLast_concat_getLast _).symm⟩
    rw [cnt_snoc, ih q (by simpa using hp) (fun y hy => h y (by simp [hy])), cstep, if_pos (h x (by simp))]
end Sec
end Go.Proofs.Ytjlfdkkaljlmjaa
