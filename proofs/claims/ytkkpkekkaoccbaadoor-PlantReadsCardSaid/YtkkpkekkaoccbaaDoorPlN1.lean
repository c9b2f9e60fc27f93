/- The walk of plant's number. -/
import Derived.Test.YtkkpkekkaoccbaaDoorPlR5
import Derived.Test.YtkkpkekkaoccbaaDoorTxPlain
namespace Go.Proofs.YtkkpkekkaoccbaaDoor
open Go.RowKit
def digC (c : UInt8) : Bool := decide (48 ≤ c.toNat) && decide (c.toNat ≤ 57)
def numV (l : List UInt8) : Nat := l.foldl (fun n c => 10 * n + (c.toNat - 48)) 0
def numOk (l : List UInt8) : Bool := decide (1 ≤ l.length) && decide (l.length ≤ 7) && !(decide (l.headD 0 = 48) && decide (1 < l.length)) && l.all digC
theorem numV_snoc (l : List UInt8) (c : UInt8) : numV (l ++ [c]) = 10 * numV l + (c.toNat - 48) := by simp [numV]
theorem foldl_lt (l : List UInt8) : ∀ a : Nat, (∀ c ∈ l, digC c = true) → l.foldl (fun n c => 10 * n + (c.toNat - 48)) a < (a + 1) * 10 ^ l.length := by
  induction l with
  | nil => intro a _; simp
  | cons c r ih =>
    intro a h
    have h1 := ih (10 * a + (c.toNat - 48)) (fun d hd => h d (List.mem_cons_of_mem _ hd))
    have h2 := h c List.mem_cons_self
    simp only [digC, Bool.and_eq_true, decide_eq_true_eq] at h2
    rw [List.foldl_cons, List.length_cons, Nat.pow_succ]
    refine Nat.lt_of_lt_of_le h1 ?_
    have h3 : 10 * a + (c.toNat - 48) + 1 ≤ (a + 1) * 10 := by omega
    calc (10 * a + (c.toNat - 48) + 1) * 10 ^ r.length ≤ ((a + 1) * 10) * 10 ^ r.length := Nat.mul_le_mul_right _ h3
      _ = (a + 1) * (10 ^ r.length * 10) := by rw [Nat.mul_assoc, Nat.mul_comm 10]
theorem numV_lt (l : List UInt8) (h : ∀ c ∈ l, digC c = true) : numV l < 10 ^ l.length := by
  have := foldl_lt l 0 h
  simpa [numV] using this
theorem numV_small (l : List UInt8) (h : ∀ c ∈ l, digC c = true) (h7 : l.length ≤ 7) : numV l < 10000000 :=
  Nat.lt_of_lt_of_le (numV_lt l h) (Nat.le_trans (Nat.pow_le_pow_right (by decide) h7) (by decide))
def three (c : Nat) : Prop := c < 48 ∨ (48 ≤ c ∧ c ≤ 57) ∨ 57 < c
theorem three_of (c : Nat) : three c := by unfold three; omega
/-- What the loop of a number does: the digits read so far. -/
def NumS (s : ByteArray) (k : Nat) : Prop := ∀ c ∈ s.data.toList.take k, digC c = true
theorem NumS.step {s : ByteArray} {k : Nat} (h : NumS s k) (hk : k < s.size) (hd : digC s[k] = true) : NumS s (k + 1) := by
  intro c hc
  have hk' : k < s.data.toList.length := by simpa using hk
  rw [List.take_succ_eq_append_getElem hk'] at hc
  rcases List.mem_append.1 hc with hc | hc
  · exact h c hc
  · simp at hc
    subst hc
    exact hd
theorem numV_step {s : ByteArray} {k : Nat} (hk : k < s.size) : numV (s.data.toList.take (k + 1)) = 10 * numV (s.data.toList.take k) + (s[k].toNat - 48) := by
  have hk' : k < s.data.toList.length := by simpa using hk
  rw [List.take_succ_eq_append_getElem hk', numV_snoc]
  rfl
theorem NumS.bad {s : ByteArray} {k : Nat} (hk : k < s.size) (hd : digC s[k] = false) : numOk s.data.toList = false := by
  unfold numOk
  rw [Bool.and_eq_false_iff]
  right
  rw [Bool.eq_false_iff]
  intro ha
  have hk' : k < s.data.toList.length := by simpa using hk
  have := List.all_eq_true.1 ha _ (List.getElem_mem hk')
  rw [show s.data.toList[k] = s[k] from rfl, hd] at this
  cases this
def numR (s : ByteArray) : Nat × Bool := if numOk s.data.toList = true then (numV s.data.toList, true) else (0, false)
theorem head_of {s : ByteArray} (h : 0 < s.size) : s.data.toList.headD 0 = s[0] := by
  have hk' : 0 < s.data.toList.length := by simpa using h
  rw [List.headD_eq_head?_getD, List.head?_eq_getElem?, List.getElem?_eq_getElem hk']
  rfl
theorem numOk_good {s : ByteArray} (h1 : 1 ≤ s.size) (h7 : s.size ≤ 7) (h0 : ∀ h : 0 < s.size, s[0].toNat = 48 → s.size = 1) (hd : NumS s s.size) : numOk s.data.toList = true := by
  have hl : s.data.toList.length = s.size := by simp
  unfold numOk
  rw [head_of (by omega), hl]
  simp only [Bool.and_eq_true, decide_eq_true_eq, Bool.not_eq_true', Bool.and_eq_false_iff, decide_eq_false_iff_not]
  refine ⟨⟨⟨h1, h7⟩, ?_⟩, List.all_eq_true.2 fun c hc => hd c (by rw [List.take_of_length_le (by simp)]; exact hc)⟩
  by_cases e : s[0] = 48
  · right
    have := h0 (by omega) (by rw [e]; rfl)
    omega
  · exact .inl e
theorem numOk_lead {s : ByteArray} (h1 : 1 < s.size) (h0 : s[0].toNat = 48) : numOk s.data.toList = false := by
  have hl : s.data.toList.length = s.size := by simp
  have e : s[0] = 48 := UInt8.toNat_inj.1 h0
  unfold numOk
  rw [head_of (by omega), hl, e]
  simp
  omega
theorem numOk_size {s : ByteArray} (h : s.size = 0 ∨ 7 < s.size) : numOk s.data.toList = false := by
  have hl : s.data.toList.length = s.size := by simp
  unfold numOk
  rw [hl]
  rcases h with h | h
  · simp [h]
  · rw [decide_eq_false (show ¬ s.size ≤ 7 by omega)]; simp
theorem isEmpty_of {s : ByteArray} (h : 0 < s.size) : s.toList.isEmpty = false := by
  rw [Lib.toList_data]
  cases hs : s.data.toList with
  | nil => have : s.data.toList.length = s.size := by simp
           rw [hs] at this; simp at this; omega
  | cons a r => rfl
theorem isEmpty_zero {s : ByteArray} (h : s.size = 0) : s.toList.isEmpty = true := by
  rw [Lib.toList_data, List.isEmpty_iff]
  exact List.eq_nil_of_length_eq_zero (by simpa using h)
theorem is48 {s : ByteArray} (h : s.size = 1) (h0 : s[0].toNat = 48) : (s.toList == [48]) = true := by
  have e : s[0] = 48 := UInt8.toNat_inj.1 h0
  rw [Lib.toList_data, beq_iff_eq]
  refine List.ext_getElem (by simpa using h) fun i h1 h2 => ?_
  simp at h2
  subst h2
  exact e
theorem not48 {s : ByteArray} (h : 1 < s.size) : (s.toList == [48]) = false := by
  rw [Lib.toList_data, beq_eq_false_iff_ne]
  intro e
  have := congrArg List.length e
  simp at this
  omega
end Go.Proofs.YtkkpkekkaoccbaaDoor
