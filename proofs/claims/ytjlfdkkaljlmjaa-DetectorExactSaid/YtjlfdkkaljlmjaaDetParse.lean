/- The plain parse of layer 4, place by place; what it gives for the values of a valid list. -/
import Derived.Test.YtjlfdkkaljlmjaaDetPlain
import Derived.Test.YtjlfdkkaljlmjaaHamLists
namespace Go.Proofs.Ytjlfdkkaljlmjaa.Det
theorem rdP_len : ∀ (k : Nat) (t : Int) (r : List Int) (g : List V3), rdP t k r = some g → g.length = k := by
  intro k
  induction k with
  | zero => intro t r g h; simp [rdP] at h; subst h; rfl
  | succ k ih =>
    intro t r g h
    match r, h with
    | [], h | [_], h => simp [rdP] at h
    | a :: d :: r, h =>
      rw [rdP] at h
      split at h
      · rcases hx : rdP (t + d) k r with _ | x
        · rw [hx] at h; simp at h
        · rw [hx] at h
          simp at h
          subst h
          simp [ih _ _ _ hx]
      · cases h
theorem rd_len {l : List Int} {g : List V3} {n : Nat} (h : rd l = some (g, n)) : n = 4 + 2 * g.length ∧ n ≤ l.length ∧ 1 ≤ g.length ∧ g.length ≤ 8 := by
  match l, h with
  | [], h | [_], h | [_, _], h | [_, _, _], h => simp [rd] at h
  | m :: x :: y :: z :: r, h =>
    rw [rd] at h
    split at h
    · rename_i hc
      simp only [Bool.and_eq_true, decide_eq_true_eq] at hc
      obtain ⟨⟨⟨⟨h1, h2⟩, _⟩, _⟩, _⟩ := hc
      obtain ⟨b1, b2⟩ := mark_bd h1
      rcases hx : rdP (x * 1048576 + y * 1024 + z) (m - 1536).toNat r with _ | q
      · rw [hx] at h; simp at h
      · rw [hx] at h
        simp at h
        obtain ⟨rfl, rfl⟩ := h
        have := rdP_len _ _ _ _ hx
        simp only [List.length_cons]
        omega
    · cases h
theorem skip_le (l : List Int) : skip l ≤ l.length := by
  induction l with
  | nil => simp [skip]
  | cons v r ih => unfold skip; split <;> simp <;> omega
theorem parseF_more : ∀ (f g at_ : Nat) (l : List Int), l.length ≤ f → l.length ≤ g → parseF f at_ l = parseF g at_ l := by
  intro f
  induction f with
  | zero =>
    intro g at_ l h _
    obtain rfl : l = [] := List.eq_nil_of_length_eq_zero (by omega)
    cases g <;> rfl
  | succ f ih =>
    intro g at_ l h hg
    cases l with
    | nil => cases g <;> rfl
    | cons v r =>
      cases g with
      | zero => simp at hg
      | succ g =>
        simp only [List.length_cons] at h hg
        rw [parseF, parseF]
        rcases hx : rd (v :: r) with _ | ⟨q, n⟩
        · simp only
          rw [ih g _ _ (by simp only [List.length_drop]; omega) (by simp only [List.length_drop]; omega)]
        · have := rd_len hx
          simp only
          rw [ih g _ _ (by simp only [List.length_drop, List.length_cons]; omega) (by simp only [List.length_drop, List.length_cons]; omega)]
/-- The parse from a place on. -/
def parseAt (V : List Int) (at_ : Nat) : List V3 × List (Int × Int) := parseF (V.length - at_) at_ (V.drop at_)
theorem parse_at0 (V : List Int) : parse V = parseAt V 0 := by simp [parse, parseAt]
theorem parseAt_end (V : List Int) (at_ : Nat) (h : V.length ≤ at_) : parseAt V at_ = ([], []) := by
  unfold parseAt
  rw [show V.length - at_ = 0 by omega]
  rfl
theorem parseAt_some (V : List Int) (at_ : Nat) (g : List V3) (n : Nat) (h : rd (V.drop at_) = some (g, n)) : parseAt V at_ = (g ++ (parseAt V (at_ + n)).1, (parseAt V (at_ + n)).2) := by
  have hl := rd_len h
  rw [List.length_drop] at hl
  unfold parseAt
  rw [show V.length - at_ = (V.length - at_ - 1) + 1 by omega]
  rcases hd : V.drop at_ with _ | ⟨v, r⟩
  · have := congrArg List.length hd; simp at this; omega
  · rw [hd] at h
    rw [parseF, h]
    simp only
    rw [← hd, List.drop_drop, parseF_more _ (V.length - (at_ + n)) _ _ (by simp only [List.length_drop]; omega) (by simp only [List.length_drop]; omega)]
theorem parseAt_none (V : List Int) (at_ : Nat) (ha : at_ < V.length) (h : rd (V.drop at_) = none) :
    parseAt V at_ = ((parseAt V (at_ + 1 + skip (V.drop (at_ + 1)))).1, ((at_ : Int), ((at_ + skip (V.drop (at_ + 1)) : Nat) : Int)) :: (parseAt V (at_ + 1 + skip (V.drop (at_ + 1)))).2) := by
  unfold parseAt
  rw [show V.length - at_ = (V.length - at_ - 1) + 1 by omega]
  rcases hd : V.drop at_ with _ | ⟨v, r⟩
  · have := congrArg List.length hd; simp at this; omega
  · have hr : V.drop (at_ + 1) = r := by
      rw [← List.drop_drop, hd]; rfl
    rw [hd] at h
    rw [parseF, h, hr]
    simp only
    have hs := skip_le r
    have hrl : r.length = V.length - (at_ + 1) := by rw [← hr, List.length_drop]
    rw [← hr, List.drop_drop, hr, parseF_more _ (V.length - (at_ + 1 + skip r)) _ _ (by simp only [List.length_drop]; omega) (by simp only [List.length_drop]; omega)]
theorem skip_stop (V : List Int) (i : Nat) (h : V.length ≤ i) : skip (V.drop i) = 0 := by rw [List.drop_eq_nil_of_le h]; rfl
theorem drop_one (V : List Int) (i : Nat) (h : i < V.length) : V.drop i = V.getD i 0 :: V.drop (i + 1) := by
  rw [List.drop_eq_getElem_cons h, List.getD_eq_getElem?_getD, List.getElem?_eq_getElem h]; rfl
theorem skip_mark (V : List Int) (i : Nat) (h : i < V.length) (hm : mark (V.getD i 0) = true) : skip (V.drop i) = 0 := by rw [drop_one V i h, skip, if_pos hm]
theorem skip_go (V : List Int) (i : Nat) (h : i < V.length) (hm : mark (V.getD i 0) = false) : skip (V.drop i) = skip (V.drop (i + 1)) + 1 := by rw [drop_one V i h, skip, if_neg (by rw [hm]; simp)]

/-- The values of Unpack are in their range. -/
theorem unpackV_range (b : List Int) : ∀ v ∈ Ham.unpackV b, -1 ≤ v ∧ v < 2048 := by
  intro v hv
  unfold Ham.unpackV at hv
  split at hv
  · obtain ⟨j, _, rfl⟩ := List.mem_map.1 hv
    unfold Ham.vAt
    have := Ham.decV_lt (Ham.wordAt b j)
    split <;> omega
  · simp at hv
theorem unpackV_len (b : List Int) : (Ham.unpackV b).length ≤ 65536 := by
  unfold Ham.unpackV
  split
  · rename_i h
    rw [Ham.unpV_len]
    unfold Ham.unpE at h
    split at h
    · omega
    · split at h <;> omega
  · simp
/- the results of Decode -/
def decE (b : List Int) : Int := if Ham.unpE b ≠ 0 then Ham.unpE b else if 4096 < (parse (Ham.unpackV b)).1.length then 3 else 0
def decP (b : List Int) : List V3 := if decE b = 0 then (parse (Ham.unpackV b)).1 else []
def decG (b : List Int) : List (Int × Int) := if decE b = 0 then (parse (Ham.unpackV b)).2 else []
end Go.Proofs.Ytjlfdkkaljlmjaa.Det
