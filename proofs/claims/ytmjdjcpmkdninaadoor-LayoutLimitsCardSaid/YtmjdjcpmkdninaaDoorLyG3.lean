/- The walk of humpgen's Layout. -/
import Derived.Test.YtmjdjcpmkdninaaDoorLyG2
import Derived.Test.YtmjdjcpmkdninaaDoorQue
import Derived.Test.YtmjdjcpmkdninaaDoorLyMake
import Derived.Test.YtmjdjcpmkdninaaDoorLyP4
import Derived.Deep.DeepCutAuto
import Derived.Deep.CutBlock
namespace Go.Proofs.YtmjdjcpmkdninaaDoor
open Go.RowKit
/-- Places as cells. -/
def flatQ (l : List (Int × Int)) : List Value := l.flatMap fun q => [.int .i64 q.1, .int .i64 q.2]
theorem flatQ_len (l : List (Int × Int)) : (flatQ l).length = l.length * 2 := by
  induction l with
  | nil => rfl
  | cons p r ih =>
    have e : flatQ (p :: r) = [.int .i64 p.1, .int .i64 p.2] ++ flatQ r := rfl
    rw [e, List.length_append, ih, List.length_cons]; simp; omega
theorem flatQ_app (l m : List (Int × Int)) : flatQ (l ++ m) = flatQ l ++ flatQ m := by simp [flatQ]
theorem sl2q : SlT Tryd.prog 76 75 2 16 := slT_of (z := .agg #[.int .i64 0, .int .i64 0]) Tryd.underlying76 (by kernel_rfl) (by rfl) (by omega)
/-- The maker, the list, the open places. -/
structure YS (B : Nat) (w : World) (g : Nat) (lv : Value) (l : List LE) (q off cap : Nat) (O : List (Int × Int)) (c : Nat) (wr : World) : Prop where
  mkr : Mk B wr g c
  lo : wr.ownsRow w.heap.size 48 8 lv l.length (flat8 l)
  qr : QR wr w.heap.size 75 2 q off O.length cap (flatQ O)
  gr : w.grownBy wr (some g)
section
variable {B g c q off cap : Nat} {w wr w' : World} {lv lv' : Value} {l l' : List LE} {O O' : List (Int × Int)}
theorem QR.ne_mk (h : QR wr w.heap.size 75 2 q off O.length cap (flatQ O)) (m : Mk B wr g c) : q ≠ g := by
  obtain ⟨cur, hb, _⟩ := h.ty
  obtain ⟨A, n, cp, L, hk, _, _⟩ := m.blk
  rintro rfl
  exact Blk.ne_ (t := 75) hb hk (by decide) rfl
theorem own_ne_q (h : wr.ownsRow w.heap.size 48 8 lv l.length (flat8 l)) (k : QR wr w.heap.size 75 2 q off O.length cap (flatQ O)) : lv.ownBlock ≠ some q := by
  obtain ⟨cur, hb, _⟩ := k.ty
  exact own_blk_ne (t := 75) (cs := cur) h hb (by decide)
theorem YS.next (h : YS B w g lv l q off cap O c wr) {c' : Nat} (m : Mk B w' g c') (hg : wr.grownBy w' (some g)) : YS B w g lv l q off cap O c' w' :=
  ⟨m, h.lo.kept hg (.inr (h.mkr.ne h.lo (by decide))), h.qr.kept hg (fun e => h.qr.ne_mk h.mkr (Option.some.inj e)), h.gr.trans hg⟩
theorem grown_belowY {a w w' : World} {g : Nat} (h : a.grownBy w (some g)) (hb : Below w.heap.size w w') : a.grownBy w' (some g) :=
  grown_then h (row := none) ⟨hb.os, hb.tape, hb.output, hb.size, fun i hi _ => hb.block i hi⟩ (fun b e => by cases e)
theorem YS.below (h : YS B w g lv l q off cap O c wr) (hb : Below wr.heap.size wr w') : YS B w g lv l q off cap O c w' :=
  ⟨h.mkr.below hb, own_below h.lo hb, h.qr.below hb, grown_belowY h.gr hb⟩
theorem YS.alloc (h : YS B w g lv l q off cap O c wr) (o : Obj) : YS B w g lv l q off cap O c (wr.alloc o) := h.below ((Below.refl _ _).alloc (Nat.le_refl _) o)
theorem YS.pushL (h : YS B w g lv l q off cap O c wr) (hB : B ≤ w.heap.size) (hl : w'.ownsRow w.heap.size 48 8 lv' l'.length (flat8 l')) (hgr : Grew wr lv lv' w') : YS B w g lv' l' q off cap O c w' :=
  ⟨h.mkr.grown hgr.grown (h.mkr.ne h.lo (by decide)) (fun b e => by have := own_ge h.lo b e; omega), hl, h.qr.kept hgr.grown (fun e => own_ne_q h.lo h.qr e.symm), grown_then h.gr hgr.grown (fun b e => .inr (own_ge h.lo b e))⟩
theorem YS.setX (h : YS B w g lv l q off cap O c wr) (hgw : g < w.heap.size) (hB : B ≤ w.heap.size) {xb : Nat} {cs : Array Value} (hx : w.heap.size ≤ xb) (hb : Blk wr xb 75 cs) (hq : q ≠ xb) (j : Nat) (u : Value) : YS B w g lv l q off cap O c (wr.setCell ⟨xb, j, none⟩ u) := by
  have hg : wr.grownBy (wr.setCell ⟨xb, j, none⟩ u) (some xb) := ⟨rfl, rfl, rfl, by simp [World.setCell], fun j' _ hne => Below.heap_setCell wr ⟨xb, j, none⟩ u j' (fun e => hne (by rw [e]))⟩
  exact ⟨h.mkr.grown hg (fun e => by have := Option.some.inj e; omega) (fun b e => by have := Option.some.inj e; omega), own_set_other h.lo (own_blk_ne h.lo hb (by decide)) u, h.qr.kept hg (fun e => hq (Option.some.inj e)), grown_then h.gr hg (fun b e => .inr (by have := Option.some.inj e; omega))⟩
theorem YS.tail {a : Int × Int} (h : YS B w g lv l q off cap (a :: O) c wr) : YS B w g lv l q (if cap = 1 then off else off + 2) (cap - 1) O c wr :=
  ⟨h.mkr, h.lo, QR.tail (a := [.int .i64 a.1, .int .i64 a.2]) h.qr rfl, h.gr⟩
theorem YS.head {a : Int × Int} (h : YS B w g lv l q off cap (a :: O) c wr) : wr.cell? ⟨q, off, none⟩ = some (.int .i64 a.1) ∧ wr.cell? ⟨q, off + 1, none⟩ = some (.int .i64 a.2) :=
  ⟨by have := h.qr.at_ 0 (.int .i64 a.1) rfl; rw [Nat.add_zero] at this; exact this, h.qr.at_ 1 (.int .i64 a.2) rfl⟩
end
/-- Two places more, onto the queue. -/
theorem wpList_pushq {w : World} {cs : Array Value} {ops : Array Oper} {rest : List Oper} {o : Oper} {a : Act} {Q : Exit → Act → World → Prop} (hgd : o.guard = none) (s x : Operand) (ho : o.op = .call { callee := .builtin .append, args := #[s, x], argTypes := #[76, 76] })
    {B g off n cap : Nat} {xs : List Value} (hs : a.eval s = .slice (some ⟨g, off, none⟩) n cap) (h : QR w B 75 2 g off n cap xs)
    (m c bk : Nat) (hbk : bk = w.heap.size) (hx : a.eval x = .slice (some ⟨bk, 0, none⟩) m c) (hl : cs.size = m * 2) (h1 : cs.toList.all (·.oneCell') = true)
    (h63 : n + m ≤ maxLen) (hbytes : (n + m) * 16 ≤ 140737488355328) (hbase : B ≤ w.heap.size) (hm0 : 0 < n + m)
    (hK : ∀ g' off' cap' w', QR w' B 75 2 g' off' (n + m) cap' (xs ++ cs.toList) → w.grownBy w' (some g) → (g' = g ∨ w.heap.size ≤ g') → wpList Tryd.prog ops Q rest (a.put o.dst (.slice (some ⟨g', off', none⟩) (n + m) cap')) w') :
    wpList Tryd.prog ops Q (o :: rest) a (w.alloc (.cells cs 75)) := by
  subst hbk
  refine wpList_plain hgd fun K hK' => ?_
  obtain ⟨g', off', cap', w', hrun, h2, h3, h4⟩ := run_append_q (P := Tryd.prog) (ty := o.type) (w := w.alloc (.cells cs 75)) sl2q (h.alloc _) ⟨w.heap.size, 0, none⟩ m c cs.toList (by simpa using hl) (cell_new_row w cs _) (fun u hu => List.all_eq_true.1 h1 u hu) h63 hbytes (by simp; omega) hm0
  unfold Oper.wp execOp
  simp only [ho, resolve, invoke, builtin, Sem.run_bind, Sem.run_pure, Result.andThen_ok, List.map_toArray, List.map_cons, List.map_nil, hs, hx, hrun]
  exact hK' _ _ (hK g' off' cap' w' h2 ((World.grownBy_alloc w _ (some g)).trans h3) (by simp at h4; omega))
end Go.Proofs.YtmjdjcpmkdninaaDoor
