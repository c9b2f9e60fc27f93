/- The plain mathematics of layer 4 (detector): pulses, groups, values, reading. No program in sight. A struct of three ints is a V3. -/
import Derived.ProofKit
namespace Go.Proofs.YtocohkgdkebmdaaGreat
namespace Tl
/-- The code in which the missed bits alone are set. -/
def mis (r : Nat) : Nat := 2 ^ r - 1
theorem mis_pos (r : Nat) : mis r + 1 = 2 ^ r := by unfold mis; have := Nat.two_pow_pos r; omega
/-- The number of bits that are set. -/
def ones : Nat → Nat → Nat
  | 0, _ => 0
  | f + 1, k => k % 2 + ones f (k / 2)
def pop (k : Nat) : Nat := ones 64 k
theorem ones_le : ∀ (f k : Nat), ones f k ≤ f
  | 0, _ => Nat.le_refl 0
  | f + 1, k => by unfold ones; have := ones_le f (k / 2); omega
theorem ones_zero : ∀ f, ones f 0 = 0
  | 0 => rfl
  | f + 1 => by unfold ones; rw [Nat.zero_div, ones_zero f]
/-- The lowest bit that is set. -/
def lowb : Nat → Nat → Nat
  | 0, _ => 0
  | f + 1, k => if k = 0 then 0 else if k % 2 = 1 then 1 else 2 * lowb f (k / 2)
def low (k : Nat) : Nat := lowb 64 k
/-- The real part of the next code. -/
def bump (w : Nat) : Nat → Nat → Option Nat
  | 0, _ => none
  | f + 1, r => if pop r ≤ w then some r else if 4096 ≤ r + low r then none else bump w f (r + low r)
def real0 (least r : Nat) : Nat := if mis r < least then (least - mis r + (2 ^ r - 1)) / 2 ^ r else 0
/-- The least code of a form that is at least least. -/
def next (least r w : Nat) : Option Nat :=
  if 4096 ≤ least then none
  else match bump w 4097 (real0 least r) with
    | none => none
    | some k => if k * 2 ^ r + mis r < 4096 then some (k * 2 ^ r + mis r) else none
theorem real0_ge (least r : Nat) : least ≤ real0 least r * 2 ^ r + mis r := by
  unfold real0
  have hp := Nat.two_pow_pos r
  have hm := mis_pos r
  split
  · rename_i h
    have h1 := Nat.div_add_mod (least - mis r + (2 ^ r - 1)) (2 ^ r)
    have h2 := Nat.mod_lt (least - mis r + (2 ^ r - 1)) hp
    rw [Nat.mul_comm] at h1
    omega
  · omega
end Tl
end Go.Proofs.YtocohkgdkebmdaaGreat
namespace Go.Proofs.YtocohkgdkebmdaaGreat
namespace Ax
/-- A wagon: its kind, its length in cm. -/
abbrev W2 := Nat × Nat
def offs (w : W2) : List Nat :=
  if w.1 = 1 then [130, 330, w.2 - 330, w.2 - 130] else if w.1 = 2 then [w.2 / 4, w.2 - w.2 / 4] else if w.1 = 3 then [120, 280, 440, w.2 - 440, w.2 - 280, w.2 - 120] else [150, 330, w.2 - 330, w.2 - 150]
def Ok (w : W2) : Prop := 800 ≤ w.2 ∧ w.2 ≤ 4000 ∧ (w.1 = 3 → 1200 ≤ w.2)
/-- The places of the axles. -/
def pos (f : Nat) : List W2 → List Nat
  | [] => []
  | w :: r => (offs w).map (f + ·) ++ pos (f + w.2) r
def diffs (l : List Nat) : List Nat := (List.range (l.length - 1)).map fun i => l.getD (i + 1) 0 - l.getD i 0
def pat (w : W2) : List Nat := diffs (offs w)
theorem diffs_len (l : List Nat) : (diffs l).length = l.length - 1 := by simp [diffs]
theorem diffs_get (l : List Nat) {i : Nat} (h : i + 1 < l.length) : (diffs l).getD i 0 = l.getD (i + 1) 0 - l.getD i 0 := by
  rw [diffs, List.getD_eq_getElem?_getD, List.getElem?_map, List.getElem?_range (by omega)]
  rfl
theorem diffs_one (x : Nat) : diffs [x] = [] := rfl
theorem getD_app_l {l m : List Nat} {i : Nat} (h : i < l.length) : (l ++ m).getD i 0 = l.getD i 0 := by
  rw [List.getD_eq_getElem?_getD, List.getElem?_append_left h, List.getD_eq_getElem?_getD]
theorem getD_app_r {l m : List Nat} {i : Nat} : (l ++ m).getD (l.length + i) 0 = m.getD i 0 := by
  rw [List.getD_eq_getElem?_getD, List.getElem?_append_right (by omega), List.getD_eq_getElem?_getD]
  congr 2
  omega
theorem diffs_snoc (l : List Nat) (x : Nat) (h : 0 < l.length) : diffs (l ++ [x]) = diffs l ++ [x - l.getD (l.length - 1) 0] := by
  unfold diffs
  rw [List.length_append, List.length_singleton, show l.length + 1 - 1 = (l.length - 1) + 1 by omega, List.range_succ, List.map_append, List.map_singleton]
  congr 1
  · refine List.map_congr_left fun i hi => ?_
    have := List.mem_range.1 hi
    rw [getD_app_l (by omega), getD_app_l (by omega)]
  · rw [show l.length - 1 + 1 = l.length + 0 by omega, getD_app_r, getD_app_l (by omega)]
    rfl
theorem offs_len (w : W2) : 2 ≤ (offs w).length ∧ (offs w).length ≤ 6 := by
  unfold offs
  split
  · simp
  · split
    · simp
    · split <;> simp
theorem pos_app (A B : List W2) : ∀ f, pos f (A ++ B) = pos f A ++ pos (f + (A.map (·.2)).sum) B := by
  induction A with
  | nil => intro f; simp [pos]
  | cons w r ih =>
    intro f
    rw [List.cons_append, pos, ih, pos, List.append_assoc, List.map_cons, List.sum_cons, Nat.add_assoc]
/-- Steps of a list of places. -/
def Stp : List Nat → Prop
  | a :: b :: r => (a < b ∧ b ≤ a + 4000) ∧ Stp (b :: r)
  | _ => True
theorem Stp.get : ∀ {l : List Nat}, Stp l → ∀ i, i + 1 < l.length → l.getD i 0 < l.getD (i + 1) 0 ∧ l.getD (i + 1) 0 ≤ l.getD i 0 + 4000
  | [], _, i, h => by simp at h
  | [_], _, i, h => by simp at h
  | a :: b :: r, hs, 0, _ => hs.1
  | a :: b :: r, hs, i + 1, h => Stp.get (l := b :: r) hs.2 i (by simp at h ⊢; omega)
theorem pos_head (w : W2) (r : List W2) (f : Nat) (h : Ok w) : ∃ x t, pos f (w :: r) = x :: t ∧ f + 120 ≤ x ∧ x ≤ f + 1000 := by
  obtain ⟨h1, h2, h3⟩ := h
  rw [pos, offs]
  split
  · exact ⟨_, _, rfl, by dsimp only; omega, by dsimp only; omega⟩
  · split
    · exact ⟨_, _, rfl, by dsimp only; omega, by dsimp only; omega⟩
    · split
      · exact ⟨_, _, rfl, by dsimp only; omega, by dsimp only; omega⟩
      · exact ⟨_, _, rfl, by dsimp only; omega, by dsimp only; omega⟩
theorem pos_stp : ∀ (W : List W2) (f : Nat), (∀ w ∈ W, Ok w) → Stp (pos f W)
  | [], f, _ => trivial
  | w :: r, f, h => by
    have ih := pos_stp r (f + w.2) fun x hx => h x (List.mem_cons_of_mem _ hx)
    obtain ⟨h1, h2, h3⟩ := h w (List.mem_cons_self ..)
    have hd : pos (f + w.2) r = [] ∨ ∃ x t, pos (f + w.2) r = x :: t ∧ f + w.2 + 120 ≤ x ∧ x ≤ f + w.2 + 1000 := by
      cases r with
      | nil => exact .inl rfl
      | cons v s => exact .inr (pos_head v s _ (h v (by simp)))
    rw [pos, offs]
    rcases hd with e | ⟨x, t, e, hx1, hx2⟩
    · rw [e]
      split
      · simp only [List.map_cons, List.map_nil, List.append_nil, Stp, and_true]; omega
      · split
        · simp only [List.map_cons, List.map_nil, List.append_nil, Stp, and_true]; omega
        · split
          · simp only [List.map_cons, List.map_nil, List.append_nil, Stp, and_true]; omega
          · simp only [List.map_cons, List.map_nil, List.append_nil, Stp, and_true]; omega
    · rw [e] at ih ⊢
      split
      · simp only [List.map_cons, List.map_nil, List.cons_append, List.nil_append, Stp]
        exact ⟨by omega, by omega, by omega, by omega, ih⟩
      · split
        · simp only [List.map_cons, List.map_nil, List.cons_append, List.nil_append, Stp]
          exact ⟨by omega, by omega, ih⟩
        · split
          · simp only [List.map_cons, List.map_nil, List.cons_append, List.nil_append, Stp]
            exact ⟨by omega, by omega, by omega, by omega, by omega, by omega, ih⟩
          · simp only [List.map_cons, List.map_nil, List.cons_append, List.nil_append, Stp]
            exact ⟨by omega, by omega, by omega, by omega, ih⟩
theorem pos_len_le : ∀ (W : List W2) (f : Nat), (pos f W).length ≤ 6 * W.length
  | [], _ => Nat.le_refl _
  | w :: r, f => by
    have := pos_len_le r (f + w.2)
    have h := (offs_len w).2
    rw [pos, List.length_append, List.length_map, List.length_cons]
    omega
/-- Where a wagon's axles begin. -/
def start (W : List W2) (i : Nat) : Nat := (pos 0 (W.take i)).length
/-- A wagon's pattern stands in the distances. -/
theorem pat_in (W : List W2) {i : Nat} (hi : i < W.length) : start W (i + 1) = start W i + (pat W[i]).length + 1 ∧ start W (i + 1) ≤ (pos 0 W).length ∧
    ∀ k, k < (pat W[i]).length → (diffs (pos 0 W)).getD (start W i + k) 0 = (pat W[i]).getD k 0 := by
  have hol := offs_len W[i]
  have hpl : (pat W[i]).length = (offs W[i]).length - 1 := diffs_len _
  have e1 : W.take (i + 1) = W.take i ++ [W[i]] := by rw [List.take_add_one, List.getElem?_eq_getElem hi]; rfl
  have e2 : start W (i + 1) = start W i + (offs W[i]).length := by
    unfold start
    rw [e1, pos_app, List.length_append]
    simp [pos]
  have e3 : pos 0 W = pos 0 (W.take (i + 1)) ++ pos (0 + ((W.take (i + 1)).map (·.2)).sum) (W.drop (i + 1)) := by
    rw [← pos_app, List.take_append_drop]
  have e5 : start W (i + 1) ≤ (pos 0 W).length := by
    rw [e3, List.length_append]
    exact Nat.le_add_right _ _
  refine ⟨by omega, e5, fun k hk => ?_⟩
  have key : ∀ j, j < (offs W[i]).length → (pos 0 W).getD (start W i + j) 0 = 0 + ((W.take i).map (·.2)).sum + (offs W[i]).getD j 0 := by
    intro j hj
    rw [e3, getD_app_l (show start W i + j < (pos 0 (W.take (i + 1))).length from by have : (pos 0 (W.take (i + 1))).length = start W (i + 1) := rfl; omega), e1, pos_app]
    have : (pos 0 (W.take i) ++ pos (0 + ((W.take i).map (·.2)).sum) [W[i]]).getD (start W i + j) 0 = (pos (0 + ((W.take i).map (·.2)).sum) [W[i]]).getD j 0 := getD_app_r
    rw [this, pos, pos, List.append_nil, List.getD_eq_getElem?_getD, List.getElem?_map, List.getD_eq_getElem?_getD, List.getElem?_eq_getElem hj]
    rfl
  rw [diffs_get _ (show start W i + k + 1 < (pos 0 W).length by omega), pat, diffs_get _ (by omega), Nat.add_assoc, key (k + 1) (by omega), key k (by omega)]
  omega
theorem start_zero (W : List W2) : start W 0 = 0 := by simp [start, pos]
theorem start_end (W : List W2) : start W W.length = (pos 0 W).length := by simp [start]
end Ax
end Go.Proofs.YtocohkgdkebmdaaGreat
namespace Go.Proofs.YtocohkgdkebmdaaGreat
/-- A struct of three integers: a pulse (detector, time, direction); a border (section, detector, sense). -/
structure V3 where
  a : Int
  b : Int
  c : Int
namespace Det
def okP (p : V3) : Bool := decide (0 ≤ p.a) && decide (p.a < 32) && decide (0 ≤ p.b) && decide (p.b ≤ 1000000000) && (decide (p.c = 1) || decide (p.c = -1))
def early (o : Option Int) (b : Int) : Bool := match o with | some t => decide (b < t) | none => false
/-- The error of a list of pulses behind a pulse at time t (none at the beginning). -/
def vGo : List V3 → Option Int → Int
  | [], _ => 0
  | p :: r, o => if okP p = true then (if early o p.b = true then 12 else vGo r (some p.b)) else 1
theorem vGo_ok (o : Option Int) (p : V3) (r : List V3) (h : okP p = true) : vGo (p :: r) o = if early o p.b = true then 12 else vGo r (some p.b) := by rw [vGo, if_pos h]
theorem vGo_bad (o : Option Int) (p : V3) (r : List V3) (h : okP p = false) : vGo (p :: r) o = 1 := by rw [vGo, if_neg (by rw [h]; simp)]
def vErr (l : List V3) : Int := if 4096 < l.length then 3 else vGo l none
theorem vGo_snoc (p : V3) (hp : okP p = true) : ∀ (l : List V3) (o : Option Int), vGo l o = 0 → (∀ q ∈ l, q.b ≤ p.b) → (∀ t, o = some t → t ≤ p.b) → vGo (l ++ [p]) o = 0 := by
  intro l
  induction l with
  | nil =>
    intro o _ _ ho
    show vGo [p] o = 0
    rw [vGo_ok o p [] hp, if_neg, vGo]
    cases o with
    | none => simp [early]
    | some t => have := ho t rfl; simp [early]; omega
  | cons q r ih =>
    intro o h hq ho
    show vGo (q :: (r ++ [p])) o = 0
    by_cases hk : okP q = true
    · rw [vGo_ok o q r hk] at h
      rw [vGo_ok o q _ hk]
      by_cases he : early o q.b = true
      · rw [if_pos he] at h; omega
      · rw [if_neg he] at h ⊢
        exact ih _ h (fun x hx => hq x (by simp [hx])) (fun t ht => by cases ht; exact hq q (by simp))
    · rw [vGo_bad o q r (by simpa using hk)] at h; omega
/-- What a valid list is. -/
theorem vGo_valid : ∀ (l : List V3) (o : Option Int), vGo l o = 0 → (∀ p ∈ l, okP p = true) := by
  intro l
  induction l with
  | nil => intro o _ p hp; simp at hp
  | cons q r ih =>
    intro o h p hp
    by_cases hk : okP q = true
    · rw [vGo_ok o q r hk] at h
      by_cases he : early o q.b = true
      · rw [if_pos he] at h; omega
      · rw [if_neg he] at h
        rcases List.mem_cons.1 hp with rfl | hp
        · exact hk
        · exact ih _ h p hp
    · rw [vGo_bad o q r (by simpa using hk)] at h; omega
/-- How many pulses more a group takes: at most m, behind time t. -/
def run : Nat → Int → List V3 → Nat
  | 0, _, _ => 0
  | _ + 1, _, [] => 0
  | m + 1, t, p :: r => if p.b - t ≤ 1023 then run m p.b r + 1 else 0
def grp : List V3 → Nat
  | [] => 0
  | p :: r => run 7 p.b r + 1
theorem run_le (m : Nat) : ∀ (t : Int) (l : List V3), run m t l ≤ m ∧ run m t l ≤ l.length := by
  induction m with
  | zero => intro t l; simp [run]
  | succ m ih =>
    intro t l
    cases l with
    | nil => simp [run]
    | cons p r =>
      unfold run
      have := ih p.b r
      split
      · simp only [List.length_cons]; omega
      · omega
theorem grp_pos (p : V3) (r : List V3) : 1 ≤ grp (p :: r) ∧ grp (p :: r) ≤ 8 ∧ grp (p :: r) ≤ r.length + 1 := by
  have := run_le 7 p.b r
  simp only [grp]
  omega
theorem grp_le (l : List V3) : grp l ≤ 8 ∧ grp l ≤ l.length ∧ (0 < l.length → 1 ≤ grp l) := by
  cases l with
  | nil => simp [grp]
  | cons p r => have := grp_pos p r; simp only [List.length_cons]; omega
theorem okP_time {p : V3} (h : okP p = true) : 0 ≤ p.b ∧ p.b ≤ 1000000000 := by
  simp only [okP, Bool.and_eq_true, Bool.or_eq_true, decide_eq_true_eq] at h
  omega
theorem okP_all {p : V3} (h : okP p = true) : 0 ≤ p.a ∧ p.a < 32 ∧ 0 ≤ p.b ∧ p.b ≤ 1000000000 ∧ (p.c = 1 ∨ p.c = -1) := by
  simp only [okP, Bool.and_eq_true, Bool.or_eq_true, decide_eq_true_eq] at h
  omega
def pv (p : V3) : Int := 1024 + 2 * p.a + (if p.c = 1 then 1 else 0)
/-- The values of the pulses of a group, behind time t. -/
def encP : Int → List V3 → List Int
  | _, [] => []
  | t, p :: r => pv p :: (p.b - t) :: encP p.b r
def headT : List V3 → Int
  | [] => 0
  | p :: _ => p.b
def head4 (n : Nat) (t : Int) : List Int := [1536 + (n : Int), t / 1048576, t / 1024 % 1024, t % 1024]
def grpVals (g : List V3) : List Int := head4 g.length (headT g) ++ encP (headT g) g
def valsF : Nat → List V3 → List Int
  | 0, _ => []
  | _ + 1, [] => []
  | f + 1, p :: r => grpVals ((p :: r).take (grp (p :: r))) ++ valsF f ((p :: r).drop (grp (p :: r)))
def vals (l : List V3) : List Int := valsF l.length l
theorem encP_len (l : List V3) : ∀ t, (encP t l).length = 2 * l.length := by
  induction l with
  | nil => intro t; rfl
  | cons p r ih => intro t; simp only [encP, List.length_cons, ih]; omega
theorem grpVals_len (g : List V3) : (grpVals g).length = 4 + 2 * g.length := by
  simp [grpVals, head4, encP_len]; omega
theorem valsF_more (f : Nat) : ∀ (g : Nat) (l : List V3), l.length ≤ f → l.length ≤ g → valsF f l = valsF g l := by
  induction f with
  | zero =>
    intro g l h _
    obtain rfl : l = [] := List.eq_nil_of_length_eq_zero (by omega)
    cases g <;> rfl
  | succ f ih =>
    intro g l h hg
    cases l with
    | nil => cases g <;> rfl
    | cons p r =>
      cases g with
      | zero => simp at hg
      | succ g =>
        have hp := grp_pos p r
        unfold valsF
        rw [ih g _ (by simp only [List.length_drop, List.length_cons] at *; omega) (by simp only [List.length_drop, List.length_cons] at *; omega)]
theorem vals_cons (p : V3) (r : List V3) : vals (p :: r) = grpVals ((p :: r).take (grp (p :: r))) ++ vals ((p :: r).drop (grp (p :: r))) := by
  have hp := grp_pos p r
  unfold vals
  rw [show (p :: r).length = r.length + 1 from rfl, valsF]
  congr 1
  exact valsF_more _ _ _ (by simp only [List.length_drop, List.length_cons]; omega) (Nat.le_refl _)
def lastT : Int → List V3 → Int
  | t, [] => t
  | _, p :: r => lastT p.b r
theorem lastT_ok (t : Int) (l : List V3) (h0 : 0 ≤ t ∧ t ≤ 1000000000) (h : ∀ p ∈ l, 0 ≤ p.b ∧ p.b ≤ 1000000000) : 0 ≤ lastT t l ∧ lastT t l ≤ 1000000000 := by
  induction l generalizing t with
  | nil => exact h0
  | cons p r ih => exact ih p.b (h p (by simp)) (fun q hq => h q (by simp [hq]))
theorem encP_snoc (l : List V3) (p : V3) : ∀ t, encP t (l ++ [p]) = encP t l ++ [pv p, p.b - lastT t l] := by
  induction l with
  | nil => intro t; rfl
  | cons q r ih => intro t; simp only [List.cons_append, encP, lastT, ih]
theorem lastT_snoc (l : List V3) (p : V3) : ∀ t, lastT t (l ++ [p]) = p.b := by
  induction l with
  | nil => intro t; rfl
  | cons q r ih => intro t; simp only [List.cons_append, lastT, ih]
/- reading -/
def mark (v : Int) : Bool := decide (1536 < v) && decide (v ≤ 1544)
def small (v : Int) : Bool := decide (0 ≤ v) && decide (v ≤ 1023)
def rdP : Int → Nat → List Int → Option (List V3)
  | _, 0, _ => some []
  | t, k + 1, a :: d :: r => if decide (1024 ≤ a) && decide (a < 1088) && small d && decide (t + d ≤ 1000000000) then (rdP (t + d) k r).map (fun l => ⟨(a - 1024) / 2, t + d, (a - 1024) % 2 * 2 - 1⟩ :: l) else none
  | _, _ + 1, _ => none
/-- The group at the beginning of some values: its pulses and the number of its values. -/
def rd : List Int → Option (List V3 × Nat)
  | m :: x :: y :: z :: r => if mark m && decide (2 * (m - 1536) ≤ (r.length : Int)) && small x && small y && small z then (rdP (x * 1048576 + y * 1024 + z) (m - 1536).toNat r).map (fun l => (l, 4 + 2 * (m - 1536).toNat)) else none
  | _ => none
theorem rd_no_mark (l : List Int) (h : mark (l.getD 0 0) = false) : rd l = none := by
  match l, h with
  | [], _ | [_], _ | [_, _], _ | [_, _, _], _ => rfl
  | m :: x :: y :: z :: r, h =>
    have h' : mark m = false := h
    simp [rd, h']
theorem mark_bd {v : Int} (h : mark v = true) : 1536 < v ∧ v ≤ 1544 := by simpa [mark] using h
theorem small_bd {v : Int} (h : small v = true) : 0 ≤ v ∧ v ≤ 1023 := by simpa [small] using h
theorem rd_short (l : List Int) (h : (l.length : Int) < 4 + 2 * (l.getD 0 0 - 1536)) : rd l = none := by
  match l, h with
  | [], _ | [_], _ | [_, _], _ | [_, _, _], _ => rfl
  | m :: x :: y :: z :: r, h =>
    have h' : ¬ (2 * (m - 1536) ≤ (r.length : Int)) := by
      simp only [List.length_cons, List.getD_cons_zero] at h
      omega
    simp [rd, h']
theorem rd_large (l : List Int) (h : (small (l.getD 1 0) && small (l.getD 2 0) && small (l.getD 3 0)) = false) : rd l = none := by
  match l, h with
  | [], _ | [_], _ | [_, _], _ | [_, _, _], _ => rfl
  | m :: x :: y :: z :: r, h =>
    have h' : (small x && small y && small z) = false := h
    rw [rd, if_neg]
    intro e
    simp only [Bool.and_eq_true] at e
    obtain ⟨⟨⟨_, e1⟩, e2⟩, e3⟩ := e
    rw [e1, e2, e3] at h'
    simp at h'
theorem rd_go (l : List Int) (k : Nat) (hk : l.getD 0 0 = 1536 + (k : Int)) (hm : mark (l.getD 0 0) = true) (hl : 4 + 2 * k ≤ l.length) (h1 : small (l.getD 1 0) = true) (h2 : small (l.getD 2 0) = true) (h3 : small (l.getD 3 0) = true) :
    rd l = (rdP (l.getD 1 0 * 1048576 + l.getD 2 0 * 1024 + l.getD 3 0) k (l.drop 4)).map (fun g => (g, 4 + 2 * k)) := by
  match l, hk, hm, hl, h1, h2, h3 with
  | [], _, _, hl, _, _, _ | [_], _, _, hl, _, _, _ | [_, _], _, _, hl, _, _, _ | [_, _, _], _, _, hl, _, _, _ => (exfalso; simp only [List.length_cons, List.length_nil] at hl; omega)
  | m :: x :: y :: z :: r, hk, hm, hl, h1, h2, h3 =>
    have hk' : m = 1536 + (k : Int) := hk
    have hkk : (m - 1536).toNat = k := by omega
    have hr : 2 * (m - 1536) ≤ (r.length : Int) := by simp only [List.length_cons] at hl; omega
    rw [rd, if_pos, hkk]
    · rfl
    · simp only [Bool.and_eq_true, decide_eq_true_eq]
      exact ⟨⟨⟨⟨hm, hr⟩, h1⟩, h2⟩, h3⟩
theorem drop_two (l : List Int) (i : Nat) (h : i + 1 < l.length) : l.drop i = l.getD i 0 :: l.getD (i + 1) 0 :: l.drop (i + 2) := by
  rw [List.drop_eq_getElem_cons (by omega), List.drop_eq_getElem_cons (by omega)]
  simp only [List.getD_eq_getElem?_getD]
  rw [List.getElem?_eq_getElem (by omega), List.getElem?_eq_getElem (by omega)]
  rfl
def okV (a d t : Int) : Bool := decide (1024 ≤ a) && decide (a < 1088) && small d && decide (t + d ≤ 1000000000)
theorem rdP_bad (t : Int) (k : Nat) (a d : Int) (r : List Int) (h : okV a d t = false) : rdP t (k + 1) (a :: d :: r) = none := by
  unfold okV at h
  rw [rdP, if_neg (by rw [h]; simp)]
theorem rdP_ok (t : Int) (k : Nat) (a d : Int) (r : List Int) (h : okV a d t = true) : rdP t (k + 1) (a :: d :: r) = (rdP (t + d) k r).map (fun l => ⟨(a - 1024) / 2, t + d, (a - 1024) % 2 * 2 - 1⟩ :: l) := by
  unfold okV at h
  rw [rdP, if_pos h]
/-- The reading of a group, j pulses of k read as g, time t. -/
def At (l : List Int) (k j : Nat) (t : Int) (g : List V3) : Prop := rd l = (rdP t (k - j) (l.drop (4 + 2 * j))).map (fun h => (g ++ h, 4 + 2 * k))
theorem At.bad {l : List Int} {k j : Nat} {t : Int} {g : List V3} (h : At l k j t g) (hj : j < k) (hl : 4 + 2 * k ≤ l.length) (hb : okV (l.getD (4 + 2 * j) 0) (l.getD (4 + 2 * j + 1) 0) t = false) : rd l = none := by
  unfold At at h
  rw [h, drop_two l _ (by omega), show k - j = (k - j - 1) + 1 by omega, rdP_bad _ _ _ _ _ hb]
  rfl
theorem At.step {l : List Int} {k j : Nat} {t : Int} {g : List V3} (h : At l k j t g) (hj : j < k) (hl : 4 + 2 * k ≤ l.length) (hb : okV (l.getD (4 + 2 * j) 0) (l.getD (4 + 2 * j + 1) 0) t = true) :
    At l k (j + 1) (t + l.getD (4 + 2 * j + 1) 0) (g ++ [⟨(l.getD (4 + 2 * j) 0 - 1024) / 2, t + l.getD (4 + 2 * j + 1) 0, (l.getD (4 + 2 * j) 0 - 1024) % 2 * 2 - 1⟩]) := by
  unfold At at h ⊢
  rw [h, drop_two l _ (by omega), show k - j = (k - (j + 1)) + 1 by omega, rdP_ok _ _ _ _ _ hb, Option.map_map]
  rw [show 4 + 2 * (j + 1) = 4 + 2 * j + 2 by omega]
  congr 1
  funext x
  simp
theorem At.done {l : List Int} {k : Nat} {t : Int} {g : List V3} (h : At l k k t g) : rd l = some (g, 4 + 2 * k) := by
  unfold At at h
  rw [h, Nat.sub_self]
  simp [rdP]
def skip : List Int → Nat
  | [] => 0
  | v :: r => if mark v then 0 else skip r + 1
def parseF : Nat → Nat → List Int → List V3 × List (Int × Int)
  | 0, _, _ => ([], [])
  | _ + 1, _, [] => ([], [])
  | f + 1, at_, v :: r =>
    match rd (v :: r) with
    | some (g, n) => (g ++ (parseF f (at_ + n) ((v :: r).drop n)).1, (parseF f (at_ + n) ((v :: r).drop n)).2)
    | none => ((parseF f (at_ + 1 + skip r) (r.drop (skip r))).1, ((at_ : Int), ((at_ + skip r : Nat) : Int)) :: (parseF f (at_ + 1 + skip r) (r.drop (skip r))).2)
def parse (v : List Int) : List V3 × List (Int × Int) := parseF v.length 0 v
end Det
end Go.Proofs.YtocohkgdkebmdaaGreat
