/- The plain mathematics of layer 5 (section). A border is a V3 (section, detector, sense), a pulse a V3 (detector, time, direction). -/
import Derived.Test.YtjlfdkkaljlmjaaDetPlain
namespace Go.Proofs.Ytjlfdkkaljlmjaa
namespace Sec
/-- Is n from 0 to 31? -/
def inB (n : Int) : Bool := decide (0 ≤ n) && decide (n < 32)
theorem inB_bd {n : Int} (h : inB n = true) : 0 ≤ n ∧ n < 32 := by simpa [inB] using h
def okB (b : V3) : Bool := inB b.a && inB b.b && (decide (b.c = 1) || decide (b.c = -1))
theorem okB_all {b : V3} (h : okB b = true) : inB b.a = true ∧ inB b.b = true ∧ (b.c = 1 ∨ b.c = -1) := by
  simpa [okB, and_assoc] using h
theorem okB_not {b : V3} (h : okB b = false) : inB b.a = false ∨ inB b.a = true ∧ inB b.b = false ∨ inB b.a = true ∧ inB b.b = true ∧ b.c ≠ 1 ∧ b.c ≠ -1 := by
  unfold okB at h
  cases h1 : inB b.a <;> cases h2 : inB b.b <;> simp [h1, h2] at h ⊢
  exact h
/-- Is the place among the borders? -/
def held (l : List V3) (s d : Int) : Bool := l.any fun x => decide (s = x.a) && decide (d = x.b)
/-- The error of a list of borders behind others. -/
def vGo : List V3 → List V3 → Int
  | [], _ => 0
  | b :: r, done => if okB b = true then (if held done b.a b.b = true then 8 else vGo r (done ++ [b])) else 1
theorem vGo_bad (b : V3) (r done : List V3) (h : okB b = false) : vGo (b :: r) done = 1 := by rw [vGo, if_neg (by rw [h]; simp)]
theorem vGo_dup (b : V3) (r done : List V3) (h : okB b = true) (h2 : held done b.a b.b = true) : vGo (b :: r) done = 8 := by rw [vGo, if_pos h, if_pos h2]
theorem vGo_ok (b : V3) (r done : List V3) (h : okB b = true) (h2 : held done b.a b.b = false) : vGo (b :: r) done = vGo r (done ++ [b]) := by rw [vGo, if_pos h, if_neg (by rw [h2]; simp)]
def vErr (l : List V3) : Int := if 64 < l.length then 3 else vGo l []
theorem held_snoc (l : List V3) (b : V3) : (fun s d => held (l ++ [b]) s d) = fun s d => if s = b.a ∧ d = b.b then true else held l s d := by
  funext s d
  by_cases h : s = b.a ∧ d = b.b
  · rw [if_pos h]; simp [held, h.1, h.2]
  · rw [if_neg h]; simp [held]; intro h1 h2; exact absurd ⟨h1, h2⟩ h
/-- The sense of a place: the last one that is on the list, or 0. -/
def sense (l : List V3) (s d : Int) : Int := l.foldl (fun g x => if s = x.a ∧ d = x.b then x.c else g) 0
theorem sense_snoc (l : List V3) (b : V3) : (fun s d => sense (l ++ [b]) s d) = fun s d => if s = b.a ∧ d = b.b then b.c else sense l s d := by
  funext s d; simp [sense]
theorem sense_range (l : List V3) (h : ∀ b ∈ l, okB b = true) (s d : Int) : sense l s d = 1 ∨ sense l s d = -1 ∨ sense l s d = 0 := by
  unfold sense
  suffices H : ∀ (m : List V3) (g : Int), (∀ b ∈ m, okB b = true) → (g = 1 ∨ g = -1 ∨ g = 0) → ((m.foldl (fun g x => if s = x.a ∧ d = x.b then x.c else g) g) = 1 ∨ (m.foldl (fun g x => if s = x.a ∧ d = x.b then x.c else g) g) = -1 ∨ (m.foldl (fun g x => if s = x.a ∧ d = x.b then x.c else g) g) = 0) from H l 0 h (by simp)
  intro m
  induction m with
  | nil => intro g _ hg; exact hg
  | cons b r ih =>
    intro g hb hg
    refine ih _ (fun x hx => hb x (by simp [hx])) ?_
    simp only
    by_cases e : s = b.a ∧ d = b.b
    · rw [if_pos e]
      have := (okB_all (hb b (by simp))).2.2
      omega
    · rw [if_neg e]; exact hg
theorem vGo_valid : ∀ (l done : List V3), vGo l done = 0 → ∀ b ∈ l, okB b = true := by
  intro l
  induction l with
  | nil => intro _ _ b hb; simp at hb
  | cons q r ih =>
    intro done h b hb
    by_cases hk : okB q = true
    · by_cases hh : held done q.a q.b = true
      · rw [vGo_dup q r done hk hh] at h; omega
      · rw [vGo_ok q r done hk (by simpa using hh)] at h
        rcases List.mem_cons.1 hb with rfl | hb
        · exact hk
        · exact ih _ h b hb
    · rw [vGo_bad q r done (by simpa using hk)] at h; omega
theorem vErr_valid {l : List V3} (h : vErr l = 0) : l.length ≤ 64 ∧ vGo l [] = 0 ∧ ∀ b ∈ l, okB b = true := by
  unfold vErr at h
  split at h
  · omega
  · exact ⟨by omega, h, vGo_valid _ _ h⟩
/-- One pulse of the count: the count and the least count. -/
def cstep (l : List V3) (s r : Int) (st : Int × Int) (x : V3) : Int × Int := if x.b ≤ r then st else (st.1 + x.c * sense l s x.a, min st.2 (st.1 + x.c * sense l s x.a))
def cnt (l p : List V3) (s r : Int) : Int × Int := p.foldl (cstep l s r) (0, 0)
theorem cnt_snoc (l p : List V3) (x : V3) (s r : Int) : cnt l (p ++ [x]) s r = cstep l s r (cnt l p s r) x := by simp [cnt]
theorem cnt_range (l : List V3) (hl : ∀ b ∈ l, okB b = true) (s r : Int) : ∀ (n : Nat) (p : List V3), p.length = n → (∀ x ∈ p, x.c = 1 ∨ x.c = -1) → -(n : Int) ≤ (cnt l p s r).1 ∧ (cnt l p s r).1 ≤ n ∧ -(n : Int) ≤ (cnt l p s r).2 ∧ (cnt l p s r).2 ≤ 0 := by
  intro n
  induction n with
  | zero => intro p hp _; rw [List.length_eq_zero_iff.1 hp]; simp [cnt]
  | succ n ih =>
    intro p hp hx
    obtain ⟨q, x, rfl⟩ : ∃ q x, p = q ++ [x] := ⟨p.dropLast, p.getLast (by intro e; simp [e] at hp), (List.dropLast_concat_getLast _).symm⟩
    have h := ih q (by simpa using hp) (fun y hy => hx y (by simp [hy]))
    rw [cnt_snoc, cstep]
    split
    · omega
    · have h1 := hx x (by simp)
      have h2 := sense_range l hl s x.a
      have h3 : x.c * sense l s x.a = 1 ∨ x.c * sense l s x.a = -1 ∨ x.c * sense l s x.a = 0 := by
        rcases h1 with h1 | h1 <;> rcases h2 with h2 | h2 | h2 <;> rw [h1, h2] <;> simp
      generalize x.c * sense l s x.a = y at h3 ⊢
      simp only
      omega
/-- The error of the arguments of Count and State. -/
def chk (l p : List V3) (s : Int) : Int := if vErr l = 0 then (if Det.vErr p = 0 then (if inB s = true then 0 else 2) else Det.vErr p) else vErr l
/-- The state for a count and a least count. -/
def stOf (x : Int × Int) : Int := if x.2 < 0 then 2 else if 0 < x.1 then 1 else 0
theorem chk_ok {l p : List V3} {s : Int} (h : chk l p s = 0) : vErr l = 0 ∧ Det.vErr p = 0 ∧ inB s = true := by
  unfold chk at h
  split at h
  · split at h
    · split at h
      · exact ⟨‹_›, ‹_›, ‹_›⟩
      · omega
    · exact absurd h ‹_›
  · exact absurd h ‹_›
theorem chk_of {l p : List V3} {s : Int} (h1 : vErr l = 0) (h2 : Det.vErr p = 0) (h3 : inB s = true) : chk l p s = 0 := by
  rw [chk, if_pos h1, if_pos h2, if_pos h3]
theorem detErr_ok {p : List V3} (h : Det.vErr p = 0) : p.length ≤ 4096 ∧ Det.vGo p none = 0 ∧ ∀ x ∈ p, Det.okP x = true := by
  unfold Det.vErr at h
  split at h
  · omega
  · exact ⟨by omega, h, Det.vGo_valid p none h⟩
/-- How many borders stand at a detector, and the sum of their senses. -/
def atN (l : List V3) (d : Int) : Nat × Int := l.foldl (fun x b => if b.b = d then (x.1 + 1, x.2 + b.c) else x) (0, 0)
theorem atN_snoc (l : List V3) (b : V3) (d : Int) : atN (l ++ [b]) d = if b.b = d then ((atN l d).1 + 1, (atN l d).2 + b.c) else atN l d := by simp [atN]
theorem atN_bd : ∀ (n : Nat) (l : List V3), l.length = n → (∀ b ∈ l, b.c = 1 ∨ b.c = -1) → ∀ d, (atN l d).1 ≤ n ∧ -(n : Int) ≤ (atN l d).2 ∧ (atN l d).2 ≤ n := by
  intro n
  induction n with
  | zero => intro p hp _ d; rw [List.length_eq_zero_iff.1 hp]; simp [atN]
  | succ n ih =>
    intro p hp hx d
    obtain ⟨q, x, rfl⟩ : ∃ q x, p = q ++ [x] := ⟨p.dropLast, p.getLast (by intro e; simp [e] at hp), (List.dropLast_concat_getLast _).symm⟩
    have h := ih q (by simpa using hp) (fun y hy => hx y (by simp [hy])) d
    have h1 := hx x (by simp)
    rw [atN_snoc]
    split
    · simp only; omega
    · omega
/-- Do two borders of opposite senses stand at the detector? -/
def thrB (l : List V3) (d : Nat) : Bool := decide ((atN l d).1 = 2) && decide ((atN l d).2 = 0)
def thrTo (l : List V3) (k : Nat) : List Int := ((List.range k).filter (thrB l)).map Int.ofNat
def thr (l : List V3) : List Int := thrTo l 32
theorem thrTo_yes (l : List V3) (k : Nat) (h : thrB l k = true) : thrTo l (k + 1) = thrTo l k ++ [(k : Int)] := by simp [thrTo, List.range_succ, h]
theorem thrTo_no (l : List V3) (k : Nat) (h : thrB l k = false) : thrTo l (k + 1) = thrTo l k := by simp [thrTo, List.range_succ, h]
theorem thrTo_len (l : List V3) (k : Nat) : (thrTo l k).length ≤ k := by
  unfold thrTo
  rw [List.length_map]
  exact Nat.le_trans (List.length_filter_le _ _) (by simp)
/-- The sum of the counts of the first k sections. -/
def balTo (l p : List V3) : Nat → Int
  | 0 => 0
  | k + 1 => balTo l p k + (cnt l p (k : Int) (-1)).1
def bal (l p : List V3) : Int := balTo l p 32
theorem held_take (l : List V3) (j : Nat) (q : V3) (s d : Int) (h : l[j]? = some q) : held (l.take (j + 1)) s d = (held (l.take j) s d || (decide (s = q.a) && decide (d = q.b))) := by
  obtain ⟨hk, rfl⟩ := List.getElem?_eq_some_iff.1 h
  rw [List.take_succ_eq_append_getElem hk]
  generalize l.take j = m
  simp [held]
theorem held_more (l : List V3) (j k : Nat) (s d : Int) (hj : j ≤ k) (h : held (l.take j) s d = true) : held (l.take k) s d = true := by
  unfold held at h ⊢
  rw [List.any_eq_true] at h ⊢
  obtain ⟨x, hx, h2⟩ := h
  exact ⟨x, (List.take_sublist_take_left hj).subset hx, h2⟩
/-- The sense of a place: the first one on the list, or 0. -/
def senseF : List V3 → Int → Int → Int
  | [], _, _ => 0
  | b :: r, s, d => if s = b.a ∧ d = b.b then b.c else senseF r s d
theorem sense_other : ∀ (l : List V3) (g s d : Int), held l s d = false → l.foldl (fun g x => if s = x.a ∧ d = x.b then x.c else g) g = g := by
  intro l
  induction l with
  | nil => intro g s d _; rfl
  | cons b r ih =>
    intro g s d h
    have h1 : ¬(s = b.a ∧ d = b.b) := by
      intro e
      simp [held, e.1, e.2] at h
    have h2 : held r s d = false := by
      unfold held at h ⊢
      rw [List.any_cons] at h
      simp only [Bool.or_eq_false_iff] at h
      exact h.2
    rw [List.foldl_cons, if_neg h1]
    exact ih g s d h2
theorem vGo_fresh : ∀ (l done : List V3) (s d : Int), vGo l done = 0 → held done s d = true → held l s d = false := by
  intro l
  induction l with
  | nil => intro _ _ _ _ _; rfl
  | cons b r ih =>
    intro done s d h hd
    by_cases hk : okB b = true
    · by_cases hh : held done b.a b.b = true
      · rw [vGo_dup b r done hk hh] at h; omega
      · rw [vGo_ok b r done hk (by simpa using hh)] at h
        have h1 : ¬(s = b.a ∧ d = b.b) := by rintro ⟨rfl, rfl⟩; exact hh hd
        have h2 := ih (done ++ [b]) s d h (by unfold held at hd ⊢; rw [List.any_append, hd]; rfl)
        unfold held at h2 ⊢
        rw [List.any_cons, h2]
        simpa using h1
    · rw [vGo_bad b r done (by simpa using hk)] at h; omega
theorem sense_first : ∀ (l done : List V3) (s d : Int), vGo l done = 0 → sense l s d = senseF l s d := by
  intro l
  induction l with
  | nil => intro _ _ _ _; rfl
  | cons b r ih =>
    intro done s d h
    by_cases hk : okB b = true
    · by_cases hh : held done b.a b.b = true
      · rw [vGo_dup b r done hk hh] at h; omega
      · rw [vGo_ok b r done hk (by simpa using hh)] at h
        rw [senseF]
        by_cases e : s = b.a ∧ d = b.b
        · rw [if_pos e]
          have hf := vGo_fresh r (done ++ [b]) s d h (by simp [held, e.1, e.2])
          unfold sense
          rw [List.foldl_cons, if_pos e]
          exact sense_other r b.c s d hf
        · rw [if_neg e, ← ih (done ++ [b]) s d h]
          unfold sense
          rw [List.foldl_cons, if_neg e]
    · rw [vGo_bad b r done (by simpa using hk)] at h; omega
theorem senseF_drop (l : List V3) (j : Nat) (q : V3) (s d : Int) (h : l[j]? = some q) : senseF (l.drop j) s d = if s = q.a ∧ d = q.b then q.c else senseF (l.drop (j + 1)) s d := by
  obtain ⟨hk, rfl⟩ := List.getElem?_eq_some_iff.1 h
  rw [List.drop_eq_getElem_cons hk, senseF]
end Sec
end Go.Proofs.Ytjlfdkkaljlmjaa
