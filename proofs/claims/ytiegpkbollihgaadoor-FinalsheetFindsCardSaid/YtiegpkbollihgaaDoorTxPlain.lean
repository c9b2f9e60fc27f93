/- Texts, plainly: cutting at a byte, and what strings.Split returns. -/
import Derived.Lib.SplitLaws
import Derived.Lib.Split
namespace Go.Proofs.YtiegpkbollihgaaDoor
namespace Tx
def glue (p : List UInt8) : List (List UInt8) → List (List UInt8)
  | [] => [p]
  | h :: t => (p ++ h) :: t
def cutAt (c : UInt8) : List UInt8 → List (List UInt8)
  | [] => [[]]
  | b :: r => if b = c then [] :: cutAt c r else glue [b] (cutAt c r)
theorem cutAt_ne (c : UInt8) : ∀ l, cutAt c l ≠ [] := by
  intro l
  cases l with
  | nil => simp [cutAt]
  | cons b r =>
    unfold cutAt
    split
    · simp
    · unfold glue
      split <;> simp
theorem glue_nil (L : List (List UInt8)) (h : L ≠ []) : glue [] L = L := by
  cases L with
  | nil => exact absurd rfl h
  | cons a t => rfl
theorem glue_glue (p q : List UInt8) (L : List (List UInt8)) (h : L ≠ []) : glue p (glue q L) = glue (p ++ q) L := by
  cases L with
  | nil => exact absurd rfl h
  | cons a t => simp [glue]
theorem cut_hit (c : UInt8) (r : List UInt8) : cutAt c (c :: r) = [] :: cutAt c r := by rw [cutAt, if_pos rfl]
theorem cut_miss {b c : UInt8} (h : b ≠ c) (r : List UInt8) : cutAt c (b :: r) = glue [b] (cutAt c r) := by rw [cutAt, if_neg h]
/-- A piece without the byte, ahead of what follows. -/
theorem cut_piece (c : UInt8) : ∀ (p r : List UInt8), c ∉ p → cutAt c (p ++ r) = glue p (cutAt c r) := by
  intro p
  induction p with
  | nil => intro r _; rw [List.nil_append, glue_nil _ (cutAt_ne c r)]
  | cons b p ih =>
    intro r h
    rw [List.mem_cons, not_or] at h
    rw [List.cons_append, cut_miss (fun e => h.1 e.symm), ih r h.2, glue_glue _ _ _ (cutAt_ne c r)]
    rfl
theorem split_cut (c : UInt8) : ∀ l : List UInt8, Lib.splitK [c] 0 (Lib.count l [c]) l = cutAt c l := by
  intro l
  induction l with
  | nil => rfl
  | cons b r ih =>
    by_cases hb : b = c
    · subst hb
      rw [Lib.count_cons_eq, Nat.add_comm, cut_hit, Lib.splitK]
      have hi : Lib.index (b :: r) [b] = 0 := by simp [Lib.index]
      rw [hi, if_neg (by decide)]
      simp only [Int.toNat_zero, Nat.zero_add, List.take_zero, List.length_singleton, List.drop_succ_cons, List.drop_zero]
      rw [ih]
    · rw [Lib.count_cons_ne b c r hb, cut_miss hb, ← ih]
      have hp : ([c].isPrefixOf (b :: r)) = false := by simp [List.isPrefixOf, show ¬ c = b from fun e => hb e.symm]
      rcases hk : Lib.count r [c] with _ | k
      · rfl
      · have hne : ¬ Lib.index r [c] = -1 := fun e => by rw [Lib.count_miss e] at hk; cases hk
        have hge := Lib.index_ge r [c]
        obtain ⟨i, hi⟩ := Int.eq_ofNat_of_zero_le (show 0 ≤ Lib.index r [c] by omega)
        have hib : Lib.index (b :: r) [c] = ((i + 1 : Nat) : Int) := by
          rw [Lib.index, hp]
          rw [hi]
          simp
        rw [Lib.splitK, Lib.splitK, hib, hi]
        rw [if_neg (by intro h; have := eq_of_beq h; omega), if_neg (by intro h; have := eq_of_beq h; omega)]
        simp [glue]
/-- What strings.Split returns at one byte. -/
theorem split_bytes (c : UInt8) (s : ByteArray) : (Lib.splitB ⟨#[c]⟩ 0 (Lib.countB s ⟨#[c]⟩) s).map (·.data.toList) = cutAt c s.data.toList := by
  rw [Lib.splitB_data]
  exact split_cut c s.data.toList
theorem cut_len (c : UInt8) : ∀ l, (cutAt c l).length = Lib.count l [c] + 1 := by
  intro l
  induction l with
  | nil => rfl
  | cons b r ih =>
    by_cases hb : b = c
    · subst hb
      rw [cut_hit, Lib.count_cons_eq, List.length_cons, ih]
      omega
    · rw [cut_miss hb, Lib.count_cons_ne b c r hb, ← ih]
      have := cutAt_ne c r
      cases h : cutAt c r with
      | nil => exact absurd h this
      | cons a t => rfl
end Tx
end Go.Proofs.YtiegpkbollihgaaDoor
