/- append(z[:n:n], z[k:]...) as a step of a region that draws its order: the result reads as both parts; and the parts of the walk of 'DetectorExact' that need no walk. -/
import Derived.Test.YtjlfdkkaljlmjaaDetR7
import Derived.Test.YtjlfdkkaljlmjaaGenSpoilB
import Derived.Deep.RegionLawGrows
namespace Go.Proofs.Ytjlfdkkaljlmjaa
open Go.RowKit
theorem run_append_zero {P : Program} (w : World) (t ty e : TypeId) (i : TypeInfo) (ht : P.underlying t = some (.slice e)) (hi : P.info? e = some i) (A0 A : Option Addr) (n cap c : Nat) (hn : n ≤ cap) :
    (Builtin.append_ #[t, t] ty #[.slice A0 n cap, .slice A 0 c]).run P w = .ok (.slice A0 n cap) w := by
  cases A0 <;> cases A <;> simp [Builtin.append_, run_underlying ht, sizeOf, typeInfo, hi, Builtin.lenOf, hn, Builtin.firstCells, storeCells, loadCells, loadCellsFrom, Result.andThen]
theorem step_append_cut {P : Program} {t e : TypeId} {size bytes : Nat} (S : SlT P t e size bytes) {ops : Array Oper} {o : Oper} {a : Act} {w : World} {K : Act → World → Prop} {Q : Exit → Act → World → Prop} {E : Prop}
    (hg : o.guard = none) (s x : Operand) (hop : o.op = Op.call { callee := Callee.builtin Builtin.append, args := #[s, x], argTypes := #[t, t] })
    (A0 A : Option Addr) (n m c : Nat) (olds news : List Value) (hs : a.eval s = .slice A0 n n) (h0 : Reads w w.heap.size size A0 n olds)
    (hx : a.eval x = .slice A m c) (h1 : Reads w w.heap.size size A m news) (h1c : ∀ u ∈ news, u.oneCell' = true)
    (b1 : n + m ≤ maxLen) (b2 : (n + m) * bytes ≤ 140737488355328)
    (hK : ∀ A' cap' w', Reads w' w'.heap.size size A' (n + m) (olds ++ news) → w.grownBy w' none → K (a.put o.dst (.slice A' (n + m) cap')) w') :
    if Region.wanted o (yielded ops a.tmps) = true then Oper.wp P o a w K Q else E := by
  obtain ⟨i, z, h2, h3, h4, h5, h6⟩ := S.info
  rcases Nat.eq_zero_or_pos m with hm0 | hm0
  · subst hm0
    have hw : Region.wanted o (yielded ops a.tmps) = true := by simp [Region.wanted, hg]
    rw [if_pos hw]
    have hnil : news = [] := List.eq_nil_of_length_eq_zero (by simpa using h1.1)
    subst hnil
    have hrun := run_append_zero (P := P) w t o.type e i S.under h2 A0 A n n c (Nat.le_refl _)
    unfold Oper.wp
    simp only [execOp, hop, resolve, invoke, builtin, Sem.run_bind, Sem.run_pure, Result.andThen_ok, List.map_toArray, List.map_cons, List.map_nil, hs, hx, hrun]
    exact hK A0 n w (by simpa using h0) (World.grownBy.refl w none)
  · obtain ⟨ad, rfl, _, hc⟩ := h1.2 hm0
    refine step_append_grows hg s x t hop e i z size bytes S.under h2 h3 h4 h5 h6 S.pos A0 n n olds hs (fun h => ?_) h0.1 (fun b' hb' j u hu => ?_) ad m c news hx h1.1 hc h1c (by omega) b1 b2 ?_
    · rcases Nat.eq_zero_or_pos n with hn | hn
      · exact ⟨hn, hn⟩
      · obtain ⟨b, hb, _⟩ := h0.2 hn
        rw [h] at hb; cases hb
    · rcases Nat.eq_zero_or_pos n with hn | hn
      · subst hn
        have : olds = [] := List.eq_nil_of_length_eq_zero (by simpa using h0.1)
        subst this
        simp at hu
      · obtain ⟨b, hb, _, hcc⟩ := h0.2 hn
        rw [hb'] at hb
        obtain rfl := Option.some.inj hb
        exact hcc j u hu
    · intro v' w' hown hgr
      obtain ⟨g, cap, rfl, _, _⟩ := hown.form (by omega)
      exact hK _ cap w' (Reads.of_own hown) hgr
theorem Reads.take {w : World} {B size n g : Nat} {A : Option Addr} {xs : List Value} (h : Reads w B size A n xs) (hg : g ≤ n) : Reads w B size A g (xs.take (g * size)) := by
  have hle : g * size ≤ n * size := Nat.mul_le_mul_right _ hg
  refine ⟨by rw [List.length_take, h.1]; omega, fun hg0 => ?_⟩
  obtain ⟨ad, e, hb, hc⟩ := h.2 (by omega)
  refine ⟨ad, e, hb, fun j u hu => hc j u ?_⟩
  rw [List.getElem?_take] at hu
  split at hu
  · exact hu
  · cases hu
structure DxJ (w : World) (v5 : Value) (m : Nat) (L : List Int) (c : Nat) (W : World) : Prop where
  maker : Mk w.heap.size W w.heap.size c
  own : W.ownsRow w.heap.size 5 1 v5 m (L.map (Value.int .u8))
  bel : Below w.heap.size w W
section
variable {w W W' : World} {v5 : Value} {m c c' : Nat} {L : List Int}
theorem DxJ.call (h : DxJ w v5 m L c W) (hm : Mk w.heap.size W' w.heap.size c') (hg : W.grownBy W' (some w.heap.size)) : DxJ w v5 m L c' W' :=
  ⟨hm, h.own.kept hg (.inr (h.maker.ne h.own (by decide))), h.bel.trans (grown_below hg h.bel.size (Nat.le_refl _))⟩
theorem DxJ.below (h : DxJ w v5 m L c W) (hb : Below W.heap.size W W') : DxJ w v5 m L c W' := ⟨h.maker.below hb, own_below h.own hb, below_step h.bel hb⟩
theorem DxJ.grown (h : DxJ w v5 m L c W) {row : Option Nat} (hg : W.grownBy W' row) (hr : row ≠ some w.heap.size) (hB : ∀ b, row = some b → w.heap.size ≤ b) (ha : v5.ownBlock = none ∨ v5.ownBlock ≠ row) : DxJ w v5 m L c W' :=
  ⟨h.maker.grown hg hr hB, h.own.kept hg ha, h.bel.trans ((Below.refl _ _).grown hg h.bel.size hB)⟩
end
theorem DxJ.drew {w W : World} {v5 : Value} {m c : Nat} {L : List Int} (h : DxJ w v5 m L c W) : DxJ w v5 m L c W.drew := ⟨⟨h.maker.ge, h.maker.blk⟩, own_drew h.own, h.bel.trans (below_drew' (Below.refl _ _))⟩
def DxL (w : World) (v5 : Value) (m : Nat) (L : List Int) (c : Nat) (v : Value) (W : World) : Prop := ∃ j c', v = .int .i64 (j : Nat) ∧ j ≤ 3 ∧ c' ≤ c + 20 * j ∧ DxJ w v5 m L c' W
def DxN (w : World) (v5 : Value) (m : Nat) (L : List Int) (c : Nat) (vz : Value) (v : Value) (W : World) : Prop := ∃ (k c' : Nat) (B : List Int), v = .int .i64 (k : Nat) ∧ k ≤ 3 ∧ c' + 2 * k ≤ c ∧ DxJ w v5 m L c' W ∧ W.ownsRow w.heap.size 5 1 vz m (B.map (Value.int .u8)) ∧ ∀ x ∈ B, 0 ≤ x ∧ x < 256
end Go.Proofs.Ytjlfdkkaljlmjaa
