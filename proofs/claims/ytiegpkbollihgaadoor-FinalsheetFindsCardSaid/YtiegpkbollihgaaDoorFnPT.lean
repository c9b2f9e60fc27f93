/- Reading a sheet line by line, plainly. -/
import Derived.Test.YtiegpkbollihgaaDoorFnText2
import Derived.Test.YtiegpkbollihgaaDoorFnW8
import Derived.Test.YtiegpkbollihgaaDoorTxLen
import Derived.Lib.IndexMore
import Derived.Lib.IndexBytes
namespace Go.Proofs.YtiegpkbollihgaaDoor
namespace Tx
theorem idxB_none (c : UInt8) : ∀ l : List UInt8, c ∉ l → Lib.indexByte l c = -1 := by
  intro l
  induction l with
  | nil => intro _; rfl
  | cons b r ih =>
    intro h
    rw [List.mem_cons, not_or] at h
    unfold Lib.indexByte
    rw [if_neg (by simpa using fun e => h.1 e.symm), ih h.2]
    rfl
theorem idxB_hit (c : UInt8) : ∀ p q : List UInt8, c ∉ p → Lib.indexByte (p ++ c :: q) c = (p.length : Int) := by
  intro p
  induction p with
  | nil => intro q _; unfold Lib.indexByte; simp
  | cons b r ih =>
    intro q h
    rw [List.mem_cons, not_or] at h
    rw [List.cons_append]
    unfold Lib.indexByte
    rw [if_neg (by simpa using fun e => h.1 e.symm), ih q h.2, if_neg (by simp)]
    simp
theorem cut_none {l : List UInt8} {c : UInt8} (h : c ∉ l) : Lib.cut l [c] = (l, [], false) := by
  unfold Lib.cut
  rw [Lib.index_one, idxB_none c l h, if_neg (by decide)]
theorem cut_some {p q : List UInt8} {c : UInt8} (h : c ∉ p) : Lib.cut (p ++ c :: q) [c] = (p, q, true) := by
  unfold Lib.cut
  rw [Lib.index_one, idxB_hit c p q h, if_pos (by omega)]
  simp
theorem cutAt_none {l : List UInt8} {c : UInt8} (h : c ∉ l) : cutAt c l = [l] := by
  have := cut_piece c l [] h
  rw [List.append_nil] at this
  rw [this]
  simp [cutAt, glue]
theorem cutAt_some {p q : List UInt8} {c : UInt8} (h : c ∉ p) : cutAt c (p ++ c :: q) = p :: cutAt c q := by
  rw [cut_piece c p _ h, cut_hit]
  simp [glue]
end Tx
namespace Fn
/-- Where a reader stands: what is left of the text. -/
def pAt (s : List UInt8) (rest : List UInt8) (k at_ en : Nat) (r : RS) : FN × Int × Int := pGo s (Tx.cutAt 10 rest) k at_ en r
theorem pAt_none {s rest : List UInt8} {k at_ en : Nat} {r : RS} (h : (10 : UInt8) ∉ rest) (hn : ¬ (rest = [] ∧ r.part = 3)) : pAt s rest k at_ en r = (fnZ, (k : Int) + 1, 6) := by
  unfold pAt
  rw [Tx.cutAt_none h]
  unfold pGo
  rw [if_neg hn]
theorem pAt_end {s : List UInt8} {k at_ en : Nat} {r : RS} (h : r.part = 3) : pAt s [] k at_ en r = fin s k en r := by
  unfold pAt
  rw [Tx.cutAt_none (by simp)]
  unfold pGo
  rw [if_pos ⟨rfl, h⟩]
theorem pAt_bad {s p q : List UInt8} {k at_ en : Nat} {r : RS} (h : (10 : UInt8) ∉ p) (ht : take r (Tx.cutAt 32 p) = none) : pAt s (p ++ 10 :: q) k at_ en r = (fnZ, (k : Int) + 1, 6) := by
  unfold pAt
  rw [Tx.cutAt_some h]
  cases hc : Tx.cutAt 10 q with
  | nil => exact absurd hc (Tx.cutAt_ne 10 q)
  | cons a t => unfold pGo; rw [ht]
theorem pAt_good {s p q : List UInt8} {k at_ en : Nat} {r r' : RS} (h : (10 : UInt8) ∉ p) (ht : take r (Tx.cutAt 32 p) = some r') : pAt s (p ++ 10 :: q) k at_ en r = pAt s q (k + 1) (at_ + p.length + 1) at_ r' := by
  unfold pAt
  rw [Tx.cutAt_some h]
  cases hc : Tx.cutAt 10 q with
  | nil => exact absurd hc (Tx.cutAt_ne 10 q)
  | cons a t => conv => lhs; unfold pGo
                rw [ht]
theorem parse_at {s : ByteArray} (h : ¬ 16384 < s.size) : parse s = pAt s.data.toList s.data.toList 0 0 0 rs0 := by
  unfold parse pAt
  rw [if_neg h]
/-- What a reader holds after k lines. -/
structure RFit (r : RS) (k : Nat) : Prop where
  ws : r.f.ws.length ≤ k
  so : r.f.so.length ≤ k
  nm : r.f.nm.size ≤ 20000
  hs : ∀ x ∈ r.f.ws, x.nu.size ≤ 20000 ∧ x.de.size ≤ 20000
theorem RFit.zero : RFit rs0 0 := ⟨Nat.le_refl _, Nat.le_refl _, by decide, by intro x hx; cases hx⟩
theorem wd_cut_le (p : List UInt8) (j : Nat) : (wd (Tx.cutAt 32 p) j).length ≤ p.length := by
  unfold wd
  rw [List.getD_eq_getElem?_getD]
  cases hq : (Tx.cutAt 32 p)[j]? with
  | none => exact Nat.zero_le _
  | some q => exact Tx.pieceLen 32 p q (List.mem_of_getElem? hq)
theorem take_fit {r r' : RS} {p : List UInt8} {k : Nat} (hp : p.length ≤ 20000) (h : RFit r k) (ht : take r (Tx.cutAt 32 p) = some r') : RFit r' (k + 1) := by
  have hw := wd_cut_le p
  unfold take at ht
  split at ht
  · cases ht
    exact ⟨Nat.le_succ_of_le h.ws, Nat.le_succ_of_le h.so, by simp only [ba_size]; exact Nat.le_trans (hw 1) hp, h.hs⟩
  split at ht
  · split at ht
    · cases ht
    · rename_i x hx
      cases ht
      refine ⟨by simp only [List.length_append, List.length_cons, List.length_nil]; have := h.ws; omega, Nat.le_succ_of_le h.so, h.nm, fun y hy => ?_⟩
      rcases List.mem_append.1 hy with hy | hy
      · exact h.hs y hy
      · rw [List.mem_singleton] at hy
        subst hy
        unfold wagonB at hx
        split at hx
        · cases hx
        · split at hx
          · cases hx
          · cases hx
            simp only [ba_size]
            exact ⟨Nat.le_trans (hw 1) hp, Nat.le_trans (hw 8) hp⟩
  split at ht
  · split at ht
    · cases ht
    · cases ht
      exact ⟨Nat.le_succ_of_le h.ws, Nat.le_succ_of_le h.so, h.nm, h.hs⟩
  split at ht
  · split at ht
    · cases ht
    · cases ht
      exact ⟨Nat.le_succ_of_le h.ws, by simp only [List.length_append, List.length_cons, List.length_nil]; have := h.so; omega, h.nm, h.hs⟩
  split at ht
  · split at ht
    · cases ht
    · cases ht
      exact ⟨Nat.le_succ_of_le h.ws, Nat.le_succ_of_le h.so, h.nm, h.hs⟩
  cases ht
/-- The check number of the bytes ahead of a place. -/
theorem chk_take (s : List UInt8) (n : Nat) (h : n ≤ s.length) : chk (s.take n) = chkTo s n := by
  unfold chk
  rw [List.length_take, Nat.min_eq_left h]
  have : ∀ m, m ≤ n → chkTo (s.take n) m = chkTo s m := by
    intro m
    induction m with
    | zero => intro _; rfl
    | succ m ih =>
      intro hm
      unfold chkTo
      rw [ih (by omega)]
      congr 3
      simp [List.getD_eq_getElem?_getD, show m < n by omega]
  exact this n (Nat.le_refl n)
end Fn
end Go.Proofs.YtiegpkbollihgaaDoor
