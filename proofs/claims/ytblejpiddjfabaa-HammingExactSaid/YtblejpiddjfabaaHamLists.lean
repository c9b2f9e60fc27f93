/- Lists of code words: what Pack and Unpack compute. -/
import Derived.Test.YtblejpiddjfabaaHamPlain
namespace Go.Proofs.Ytblejpiddjfabaa.Ham

/- lists -/
def okV (v : Int) : Bool := decide (0 ≤ v) && decide (v ≤ 2047)
def encB (l : List Int) : List Int := l.flatMap fun v => [((word v.toNat / 256 : Nat) : Int), ((word v.toNat % 256 : Nat) : Int)]
def packE (l : List Int) : Int := if 65536 < l.length then 3 else if l.all okV then 0 else 2
def packB (l : List Int) : List Int := if 65536 < l.length then [] else if l.all okV then encB l else []
theorem encB_len (l : List Int) : (encB l).length = 2 * l.length := by
  induction l with
  | nil => rfl
  | cons x l ih =>
    have e : encB (x :: l) = [((word x.toNat / 256 : Nat) : Int), ((word x.toNat % 256 : Nat) : Int)] ++ encB l := rfl
    rw [e, List.length_append, ih]
    simp only [List.length_cons, List.length_nil]
    omega
theorem encB_snoc (l : List Int) (v : Int) : encB (l ++ [v]) = encB l ++ [((word v.toNat / 256 : Nat) : Int), ((word v.toNat % 256 : Nat) : Int)] := by simp [encB]

def wordAt (b : List Int) (j : Nat) : Nat := (b.getD (2 * j) 0).toNat * 256 + (b.getD (2 * j + 1) 0).toNat
/-- The value of word j, -1 if it is lost. -/
def vAt (b : List Int) (j : Nat) : Int := if decE (wordAt b j) = 0 then (decV (wordAt b j) : Int) else -1
def unpV (b : List Int) (k : Nat) : List Int := (List.range k).map (vAt b)
def unpL (b : List Int) (k : Nat) : List Int := ((List.range k).filter fun j => decE (wordAt b j) != 0).map Int.ofNat
def unpE (b : List Int) : Int := if 131072 < b.length then 3 else if b.length % 2 = 1 then 10 else 0
def unpackV (b : List Int) : List Int := if unpE b = 0 then unpV b (b.length / 2) else []
def unpackL (b : List Int) : List Int := if unpE b = 0 then unpL b (b.length / 2) else []
theorem unpV_succ (b : List Int) (k : Nat) : unpV b (k + 1) = unpV b k ++ [vAt b k] := by simp [unpV, List.range_succ]
theorem unpV_len (b : List Int) (k : Nat) : (unpV b k).length = k := by simp [unpV]
theorem unpL_len (b : List Int) (k : Nat) : (unpL b k).length ≤ k := by
  have := List.length_filter_le (fun j => decE (wordAt b j) != 0) (List.range k)
  simp [unpL] at *; omega
theorem unpL_lost (b : List Int) (k : Nat) (h : decE (wordAt b k) ≠ 0) : unpL b (k + 1) = unpL b k ++ [(k : Int)] := by
  simp [unpL, List.range_succ, List.filter_append, h]
theorem unpL_kept (b : List Int) (k : Nat) (h : decE (wordAt b k) = 0) : unpL b (k + 1) = unpL b k := by
  simp [unpL, List.range_succ, List.filter_append, h]
theorem decE_of (w : Nat) : decE w = 0 ∨ decE w = 9 := by
  unfold decE
  split
  · exact .inl rfl
  · split
    · exact .inl rfl
    · exact .inr rfl
theorem wordAt_lt (b : List Int) (j : Nat) (h : ∀ x ∈ b, 0 ≤ x ∧ x < 256) : wordAt b j < 65536 := by
  have g : ∀ i, 0 ≤ b.getD i 0 ∧ b.getD i 0 < 256 := by
    intro i
    rcases Nat.lt_or_ge i b.length with hi | hi
    · rw [List.getD_eq_getElem?_getD, List.getElem?_eq_getElem hi]; exact h _ (List.getElem_mem hi)
    · rw [List.getD_eq_getElem?_getD, List.getElem?_eq_none hi]; simp
  have g1 := g (2 * j)
  have g2 := g (2 * j + 1)
  unfold wordAt
  omega
end Go.Proofs.Ytblejpiddjfabaa.Ham
