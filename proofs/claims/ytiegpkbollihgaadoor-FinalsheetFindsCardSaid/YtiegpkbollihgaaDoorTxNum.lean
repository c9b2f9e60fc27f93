/- Numbers in texts, plainly: digits, their value, the numeral of a number; words. -/
import Derived.Test.YtiegpkbollihgaaDoorTxPlain
import Derived.Lib.ItoaMem
namespace Go.Proofs.YtiegpkbollihgaaDoor
def digC (c : UInt8) : Bool := decide (48 ≤ c.toNat) && decide (c.toNat ≤ 57)
def numV (l : List UInt8) : Nat := l.foldl (fun n c => 10 * n + (c.toNat - 48)) 0
theorem numV_snoc (l : List UInt8) (c : UInt8) : numV (l ++ [c]) = 10 * numV l + (c.toNat - 48) := by simp [numV]
theorem foldl_lt (l : List UInt8) : ∀ a : Nat, (∀ c ∈ l, digC c = true) → l.foldl (fun n c => 10 * n + (c.toNat - 48)) a < (a + 1) * 10 ^ l.length := by
  induction l with
  | nil => intro a _; simp
  | cons c r ih =>
    intro a h
    have h1 := ih (10 * a + (c.toNat - 48)) (fun d hd => h d (List.mem_cons_of_mem _ hd))
    have h2 := h c List.mem_cons_self
    simp only [digC, Bool.and_eq_true, decide_eq_true_eq] at h2
    rw [List.foldl_cons, List.length_cons, Nat.pow_succ]
    refine Nat.lt_of_lt_of_le h1 ?_
    have h3 : 10 * a + (c.toNat - 48) + 1 ≤ (a + 1) * 10 := by omega
    calc (10 * a + (c.toNat - 48) + 1) * 10 ^ r.length ≤ ((a + 1) * 10) * 10 ^ r.length := Nat.mul_le_mul_right _ h3
      _ = (a + 1) * (10 ^ r.length * 10) := by rw [Nat.mul_assoc, Nat.mul_comm 10]
theorem numV_lt (l : List UInt8) (h : ∀ c ∈ l, digC c = true) : numV l < 10 ^ l.length := by
  have := foldl_lt l 0 h
  simpa [numV] using this
def baOf (l : List UInt8) : ByteArray := ⟨l.toArray⟩
theorem baOf_data (l : List UInt8) : (baOf l).data.toList = l := rfl
namespace Tx
theorem dec_dig (n : Nat) : ∀ c ∈ Lib.decDigits n, digC c = true := by
  induction n using Nat.strongRecOn with
  | ind n ih =>
    have one : ∀ m, m < 10 → digC (UInt8.ofNat (48 + m)) = true := by
      intro m hm
      unfold digC
      rw [UInt8.toNat_ofNat', Nat.mod_eq_of_lt (by omega)]
      simp; omega
    intro c hc
    rw [Lib.decDigits] at hc
    split at hc
    · rename_i h
      rw [List.mem_singleton] at hc
      rw [hc]; exact one n h
    · rename_i h
      rw [List.mem_append, List.mem_singleton] at hc
      rcases hc with hc | hc
      · exact ih (n / 10) (by omega) c hc
      · rw [hc]; exact one _ (by omega)
theorem dec_val (n : Nat) : numV (Lib.decDigits n) = n := by
  induction n using Nat.strongRecOn with
  | ind n ih =>
    have one : ∀ m, m < 10 → (UInt8.ofNat (48 + m)).toNat - 48 = m := by
      intro m hm
      rw [UInt8.toNat_ofNat', Nat.mod_eq_of_lt (by omega)]
      omega
    rw [Lib.decDigits]
    split
    · rename_i h
      have := numV_snoc [] (UInt8.ofNat (48 + n))
      rw [List.nil_append] at this
      rw [this, one n h]
      simp [numV]
    · rename_i h
      rw [numV_snoc, ih (n / 10) (by omega), one _ (by omega)]
      omega
theorem dec_ne (n : Nat) : Lib.decDigits n ≠ [] := by
  rw [Lib.decDigits]
  split <;> simp
theorem dec_head (n : Nat) : 0 < n → (Lib.decDigits n).headD 0 ≠ 48 := by
  induction n using Nat.strongRecOn with
  | ind n ih =>
    intro h0
    rw [Lib.decDigits]
    split
    · rename_i h
      simp only [List.headD_cons]
      intro e
      have := congrArg UInt8.toNat e
      rw [UInt8.toNat_ofNat', Nat.mod_eq_of_lt (by omega)] at this
      have h2 : (48 : UInt8).toNat = 48 := rfl
      omega
    · rename_i h
      have := ih (n / 10) (by omega) (by omega)
      cases hd : Lib.decDigits (n / 10) with
      | nil => exact absurd hd (dec_ne _)
      | cons a r => rw [hd] at this; simpa using this
theorem dec_len (k : Nat) : ∀ n, n < 10 ^ (k + 1) → (Lib.decDigits n).length ≤ k + 1 := by
  induction k with
  | zero =>
    intro n h
    rw [Lib.decDigits, dif_pos (by simpa using h)]
    simp
  | succ k ih =>
    intro n h
    rw [Lib.decDigits]
    split
    · simp
    · have := ih (n / 10) (by rw [Nat.pow_succ] at h; omega)
      simp only [List.length_append, List.length_singleton]
      omega
theorem itoa_dec {n : Int} (h : 0 ≤ n) : Lib.itoa n = Lib.decDigits n.toNat := by
  unfold Lib.itoa
  rw [if_neg (by omega)]
theorem itoa_mem {n : Int} (h : 0 ≤ n) {c : UInt8} (hc : c ∈ Lib.itoa n) : 48 ≤ c.toNat := by
  rw [itoa_dec h] at hc
  have := dec_dig _ c hc
  simp only [digC, Bool.and_eq_true, decide_eq_true_eq] at this
  exact this.1
theorem cut_word (c : UInt8) (p r : List UInt8) (h : c ∉ p) : cutAt c (p ++ c :: r) = p :: cutAt c r := by
  rw [cut_piece c p _ h, cut_hit]
  simp [glue]
theorem cut_last (c : UInt8) (p : List UInt8) (h : c ∉ p) : cutAt c p = [p] := by
  have := cut_piece c p [] h
  rw [List.append_nil] at this
  rw [this]
  simp [cutAt, glue]
/-- The words of a line: what stands between blanks, if anything. -/
def words (l : List UInt8) : List (List UInt8) := (cutAt 32 l).filter fun p => !p.isEmpty
theorem words_cons (p r : List UInt8) (h : (32 : UInt8) ∉ p) (hp : p ≠ []) : words (p ++ 32 :: r) = p :: words r := by
  unfold words
  rw [cut_word 32 p r h, List.filter_cons, if_pos]
  cases p with
  | nil => exact absurd rfl hp
  | cons a t => rfl
theorem words_one (p : List UInt8) (h : (32 : UInt8) ∉ p) (hp : p ≠ []) : words p = [p] := by
  unfold words
  rw [cut_last 32 p h, List.filter_cons, if_pos]
  · rfl
  · cases p with
    | nil => exact absurd rfl hp
    | cons a t => rfl
theorem words_blank (r : List UInt8) : words (32 :: r) = words r := by
  unfold words
  rw [cut_hit, List.filter_cons, if_neg (by decide)]
/-- An integer with a sign, as a text has it: no number, one outside, or its value. -/
def digs : List UInt8 → List UInt8
  | 45 :: r => r
  | l => l
def numZ (l : List UInt8) : Option (Option Int) :=
  if (digs l).all digC = false ∨ digs l = [] ∨ ((digs l).headD 0 = 48 ∧ l ≠ [48]) then none
  else if 10 < (digs l).length ∨ 1000000000 < numV (digs l) then some none
  else some (some (if l.headD 0 = 45 then -(numV (digs l) : Int) else (numV (digs l) : Int)))
theorem digs_neg (r : List UInt8) : digs (45 :: r) = r := rfl
theorem digs_pos {l : List UInt8} (h : l.headD 0 ≠ 45) : digs l = l := by
  unfold digs
  split
  · exact absurd rfl h
  · rfl
theorem dec_head_dig (n : Nat) : digC ((Lib.decDigits n).headD 0) = true := by
  cases h : Lib.decDigits n with
  | nil => exact absurd h (dec_ne n)
  | cons a t => exact dec_dig n a (by rw [h]; simp)
theorem numZ_itoa {n : Int} (h0 : -1000000000 ≤ n) (h1 : n ≤ 1000000000) : numZ (Lib.itoa n) = some (some n) := by
  by_cases hn : n < 0
  · obtain ⟨u, rfl⟩ : ∃ u : Nat, n = -(u : Int) := ⟨n.natAbs, by omega⟩
    rw [Lib.itoa_neg u (by omega)]
    have hl := dec_len 9 u (by omega)
    unfold numZ
    rw [digs_neg, dec_val, if_neg, if_neg (by omega)]
    · rfl
    · rintro (h | h | h)
      · rw [List.all_eq_true.2 (dec_dig u)] at h; cases h
      · exact dec_ne u h
      · exact dec_head u (by omega) h.1
  · obtain ⟨u, rfl⟩ : ∃ u : Nat, n = (u : Int) := ⟨n.toNat, by omega⟩
    rw [Lib.itoa_nonneg]
    have hl := dec_len 9 u (by omega)
    have hh : (Lib.decDigits u).headD 0 ≠ 45 := by
      intro e
      have := dec_head_dig u
      rw [e] at this
      exact absurd this (by decide)
    unfold numZ
    rw [digs_pos hh, dec_val, if_neg, if_neg (by omega), if_neg hh]
    rintro (h | h | h)
    · rw [List.all_eq_true.2 (dec_dig u)] at h; cases h
    · exact dec_ne u h
    · rcases Nat.eq_zero_or_pos u with rfl | hp
      · exact h.2 (by rw [Lib.decDigits, dif_pos (by decide)]; rfl)
      · exact dec_head u hp h.1
theorem itoa_no {n : Int} {c : UInt8} (hc : c ∈ Lib.itoa n) : 45 ≤ c.toNat := by
  by_cases hn : n < 0
  · obtain ⟨u, rfl⟩ : ∃ u : Nat, n = -(u : Int) := ⟨n.natAbs, by omega⟩
    rw [Lib.itoa_neg u (by omega), List.mem_cons] at hc
    rcases hc with rfl | hc
    · decide
    · have := dec_dig _ c hc
      simp only [digC, Bool.and_eq_true, decide_eq_true_eq] at this
      omega
  · have := itoa_mem (n := n) (by omega) hc
    omega
theorem itoa_ne (n : Int) : Lib.itoa n ≠ [] := by
  by_cases hn : n < 0
  · obtain ⟨u, rfl⟩ : ∃ u : Nat, n = -(u : Int) := ⟨n.natAbs, by omega⟩
    rw [Lib.itoa_neg u (by omega)]
    simp
  · rw [itoa_dec (by omega)]
    exact dec_ne _
theorem itoa_len {n : Int} {k : Nat} (h0 : 0 ≤ n) (h : n.toNat < 10 ^ (k + 1)) : (Lib.itoa n).length ≤ k + 1 := by
  rw [itoa_dec h0]
  exact dec_len k _ h
theorem itoa_len_neg {n : Int} {k : Nat} (h : n.natAbs < 10 ^ (k + 1)) : (Lib.itoa n).length ≤ k + 2 := by
  by_cases hn : n < 0
  · obtain ⟨u, rfl⟩ : ∃ u : Nat, n = -(u : Int) := ⟨n.natAbs, by omega⟩
    rw [Lib.itoa_neg u (by omega), List.length_cons]
    have := dec_len k u (by simpa using h)
    omega
  · have := itoa_len (n := n) (k := k) (by omega) (by omega)
    omega
end Tx
end Go.Proofs.YtiegpkbollihgaaDoor
