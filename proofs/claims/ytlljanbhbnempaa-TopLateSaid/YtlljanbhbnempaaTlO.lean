/- Own rows of naturals; a row filled up to a place. -/
import Derived.Test.YtlljanbhbnempaaLL
namespace Go.Proofs.Ytlljanbhbnempaa
open Go.RowKit
namespace Tl
def part (f : Nat → Nat) (n m : Nat) : List Nat := (List.range n).map fun y => if y < m then f y else 0
theorem part_zero (f : Nat → Nat) (n : Nat) : part f n 0 = List.replicate n 0 := by
  unfold part
  refine List.ext_getElem (by simp) fun i h1 h2 => by simp
theorem part_full (f : Nat → Nat) (n : Nat) : part f n n = (List.range n).map f := by
  unfold part
  refine List.map_congr_left fun y hy => ?_
  rw [if_pos (by simpa using hy)]
theorem part_set (f : Nat → Nat) (n m : Nat) : (part f n m).set m (f m) = part f n (m + 1) := by
  unfold part
  refine List.ext_getElem (by simp) fun i h1 h2 => ?_
  simp only [List.getElem_set, List.getElem_map, List.getElem_range]
  by_cases e : m = i
  · subst e; simp
  · rw [if_neg e]
    by_cases h : i < m
    · rw [if_pos h, if_pos (by omega)]
    · rw [if_neg h, if_neg (by omega)]
theorem part_len (f : Nat → Nat) (n m : Nat) : (part f n m).length = n := by simp [part]
end Tl
theorem ints64_zeros (n : Nat) : ints64 (List.replicate n 0) = List.replicate n (Value.int .i64 0) := by simp [ints64]
theorem ints64_set (l : List Nat) (i x : Nat) : (ints64 l).set i (.int .i64 (x : Int)) = ints64 (l.set i x) := by simp [ints64, List.map_set]
theorem ints64_at (l : List Nat) (i : Nat) (h : i < l.length) : (ints64 l)[i]? = some (.int .i64 ((l.getD i 0 : Nat) : Int)) := by
  rw [ints64, List.getElem?_map, List.getElem?_eq_getElem h, List.getD_eq_getElem?_getD, List.getElem?_eq_getElem h]
  rfl
/-- An own row of naturals: a cell. -/
theorem own64_cell {w : World} {B n g cap i : Nat} {e : TypeId} {l : List Nat} (h : w.ownsRow B e 1 (.slice (some ⟨g, 0, none⟩) n cap) n (ints64 l)) (hi : i < n) : w.cell? ⟨g, i, none⟩ = some (.int .i64 ((l.getD i 0 : Nat) : Int)) := by
  have hl : l.length = n := by have := h.1; simpa [ints64] using this
  rw [h.cellAt i (by omega), ints64_at l i (by omega)]
theorem own64_set {w : World} {B n g cap i : Nat} {e : TypeId} {l : List Nat} (h : w.ownsRow B e 1 (.slice (some ⟨g, 0, none⟩) n cap) n (ints64 l)) (x : Nat) : (w.setCell ⟨g, i, none⟩ (.int .i64 (x : Int))).ownsRow B e 1 (.slice (some ⟨g, 0, none⟩) n cap) n (ints64 (l.set i x)) := by
  have := (h.stored i (.int .i64 (x : Int))).1
  rwa [ints64_set] at this
theorem own64_len {w : World} {B n : Nat} {e : TypeId} {v : Value} {l : List Nat} (h : w.ownsRow B e 1 v n (ints64 l)) : l.length = n := by have := h.1; simpa [ints64] using this
theorem own64_IR {w : World} {B n c : Nat} {e : TypeId} {A : Option Addr} {l : List Nat} (h : w.ownsRow B e 1 (.slice A n c) n (ints64 l)) : IR .i64 w A n (l.map fun (x : Nat) => (x : Int)) := by
  rw [ints64_map] at h
  exact own_IR h
/-- An append of new memory as a step of a drawn region. -/
theorem step_pushb {P : Program} {w0 : World} {e' : TypeId} {cs : Array Value} {ops : Array Oper} {o : Oper} {a : Act} {K : Act → World → Prop} {Q : Exit → Act → World → Prop} {E : Prop} {t e : TypeId} {size bytes : Nat} (S : SlT P t e size bytes)
    (hgd : o.guard = none) (s x : Operand) (ho : o.op = .call { callee := .builtin .append, args := #[s, x], argTypes := #[t, t] })
    (B : Nat) (v : Value) (n : Nat) (xs : List Value) (hs : a.eval s = v) (hown : w0.ownsRow B e size v n xs)
    (m c : Nat) (bk : Nat) (hbk : bk = w0.heap.size) (hx : a.eval x = .slice (some ⟨bk, 0, none⟩) m c) (hl : cs.size = m * size) (h1 : cs.toList.all (·.oneCell') = true)
    (h63 : n + m ≤ maxLen) (hbytes : (n + m) * bytes ≤ 140737488355328) (hbase : B ≤ w0.heap.size)
    (h : ∀ v' w', w'.ownsRow B e size v' (n + m) (xs ++ cs.toList) → Grew w0 v v' w' → K (a.put o.dst v') w') : if Region.wanted o (yielded ops a.tmps) = true then Oper.wp P o a (w0.alloc (.cells cs e')) K Q else E := by
  subst hbk
  have hw : Region.wanted o (yielded ops a.tmps) = true := by simp [Region.wanted, hgd]
  rw [if_pos hw]
  obtain ⟨i, z, hi, hz, hsize, hby, hzs⟩ := S.info
  obtain ⟨v', w', hrun, h2, h3, _, h5⟩ := run_append_own_at (P := P) (w0.alloc (.cells cs e')) B t o.type e i z size bytes S.under hi hz hsize hby hzs S.pos v n xs (hown.alloc _) ⟨w0.heap.size, 0, none⟩ m c cs.toList (by simpa using hl)
    (cell_new_row w0 cs e') (fun u hu => List.all_eq_true.1 h1 u hu) h63 hbytes (by simp; omega)
  unfold Oper.wp execOp
  simp only [ho, resolve, invoke, builtin, Sem.run_bind, Sem.run_pure, Result.andThen_ok, List.map_toArray, List.map_cons, List.map_nil, hs, hx, hrun]
  refine h v' w' h2 ⟨(World.grownBy_alloc w0 _ v.ownBlock).trans h3, ?_⟩
  rcases h5 with h5 | h5
  · exact .inl h5
  · exact .inr ⟨_, h5, by simp⟩
/-- make([]T, n) as a step of a drawn region. -/
theorem step_mkn {P : Program} {w : World} {ops : Array Oper} {o : Oper} {a : Act} {K : Act → World → Prop} {Q : Exit → Act → World → Prop} {E : Prop} {t e : TypeId} {bytes : Nat} {z : Value} (S : P.underlying t = some (.slice e) ∧ ∃ i, P.info? e = some i ∧ i.zero = some z ∧ i.size = 1 ∧ i.bytes = bytes)
    (hz1 : z.cells = #[z]) (hgd : o.guard = none) (l c : Operand) (hop : o.op = Op.makeSlice t l c) (B : Nat) (kl kc : IntKind) (n : Nat) (hl : a.eval l = .int kl (n : Int)) (hc : a.eval c = .int kc (n : Int))
    (b2 : bytes * n ≤ 281474976710656) (b3 : n ≤ maxLen) (b4 : B ≤ w.heap.size)
    (hK : ∀ w', w'.ownsRow B e 1 (.slice (some ⟨w.heap.size, 0, none⟩) n n) n (List.replicate n z) → Below w.heap.size w w' → K (a.put o.dst (.slice (some ⟨w.heap.size, 0, none⟩) n n)) w') :
    if Region.wanted o (yielded ops a.tmps) = true then Oper.wp P o a w K Q else E := by
  have hw : Region.wanted o (yielded ops a.tmps) = true := by simp [Region.wanted, hgd]
  rw [if_pos hw]
  obtain ⟨hu, i, hi, hz, hsize, hby⟩ := S
  obtain ⟨w', hrun, r1, r2⟩ := run_make_full (P := P) w B t e i z 1 hu hi hz hsize kl kc n (by rw [hby]; exact b2) b3 b4
  rw [hz1, Nat.mul_one, toList_madeCells_one] at r1
  unfold Oper.wp
  simp [execOp, hop, hl, hc, hrun, Result.andThen]
  exact hK w' r1 ((Below.refl _ _).grown r2 (Nat.le_refl _) (by simp))
end Go.Proofs.Ytlljanbhbnempaa
