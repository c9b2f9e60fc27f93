/- What is kept while a plant is made. -/
import Derived.Test.YtkkpkekkaoccbaaDoorPlG1
import Derived.Test.YtkkpkekkaoccbaaDoorDel
import Derived.Test.YtkkpkekkaoccbaaDoorGen1
import Derived.Test.YtkkpkekkaoccbaaDoorReg2
namespace Go.Proofs.YtkkpkekkaoccbaaDoor
open Go.RowKit
/-- The maker, the list, the open nodes. -/
structure PS (B : Nat) (w : World) (g : Nat) (lv ov : Value) (l : List PE) (o : List Int) (c : Nat) (wr : World) : Prop where
  mkr : Mk B wr g c
  lo : wr.ownsRow w.heap.size 40 6 lv l.length (flat6 l)
  oo : wr.ownsRow w.heap.size 3 1 ov o.length (o.map (Value.int .i64))
  gr : w.grownBy wr (some g)
section
variable {B g c : Nat} {w wr w' : World} {lv ov lv' ov' : Value} {l l' : List PE} {o o' : List Int}
theorem PS.next (h : PS B w g lv ov l o c wr) {c' : Nat} (m : Mk B w' g c') (hg : wr.grownBy w' (some g)) : PS B w g lv ov l o c' w' :=
  ⟨m, h.lo.kept hg (.inr (h.mkr.ne h.lo (by decide))), h.oo.kept hg (.inr (h.mkr.ne h.oo (by decide))), h.gr.trans hg⟩
theorem grown_belowS {a w w' : World} {g : Nat} (h : a.grownBy w (some g)) (hb : Below w.heap.size w w') : a.grownBy w' (some g) :=
  grown_then h (row := none) ⟨hb.os, hb.tape, hb.output, hb.size, fun i hi _ => hb.block i hi⟩ (fun b e => by cases e)
theorem PS.below (h : PS B w g lv ov l o c wr) (hb : Below wr.heap.size wr w') : PS B w g lv ov l o c w' :=
  ⟨h.mkr.below hb, own_below h.lo hb, own_below h.oo hb, grown_belowS h.gr hb⟩
theorem PS.pushO (h : PS B w g lv ov l o c wr) (hB : B ≤ w.heap.size) (ho : w'.ownsRow w.heap.size 3 1 ov' o'.length (o'.map (Value.int .i64))) (hgr : Grew wr ov ov' w') : PS B w g lv ov' l o' c w' :=
  ⟨h.mkr.grown hgr.grown (h.mkr.ne h.oo (by decide)) (fun b e => by have := own_ge h.oo b e; omega), hgr.keep h.lo (own_ne_type h.lo h.oo (by decide)), ho, grown_then h.gr hgr.grown (fun b e => .inr (own_ge h.oo b e))⟩
theorem PS.pushL (h : PS B w g lv ov l o c wr) (hB : B ≤ w.heap.size) (hl : w'.ownsRow w.heap.size 40 6 lv' l'.length (flat6 l')) (hgr : Grew wr lv lv' w') : PS B w g lv' ov l' o c w' :=
  ⟨h.mkr.grown hgr.grown (h.mkr.ne h.lo (by decide)) (fun b e => by have := own_ge h.lo b e; omega), hl, hgr.keep h.oo (own_ne_type h.oo h.lo (by decide)), grown_then h.gr hgr.grown (fun b e => .inr (own_ge h.lo b e))⟩
theorem PS.set (h : PS B w g lv ov l o c wr) (hB : B ≤ w.heap.size) (hgw : g < w.heap.size) {xb : Nat} {cs : Array Value} (hx : w.heap.size ≤ xb) (hb : Blk wr xb 40 cs) (hl : lv.ownBlock ≠ some xb) (j : Nat) (u : Value) : PS B w g lv ov l o c (wr.setCell ⟨xb, j, none⟩ u) := by
  have hg := Go.Proofs.YtkkpkekkaoccbaaDoor.World.grownBy_set wr xb j u
  exact ⟨h.mkr.grown hg (fun e => by have := Option.some.inj e; omega) (fun b e => by have := Option.some.inj e; omega), own_set_other h.lo hl u, own_set_other h.oo (own_blk_ne h.oo hb (by decide)) u, grown_then h.gr hg (fun b e => .inr (by have := Option.some.inj e; omega))⟩
theorem PS.del {b n cap : Nat} (h : PS B w g lv (.slice (some ⟨b, 0, none⟩) n cap) l o c wr) (hB : B ≤ w.heap.size) (hn : o.length = n) {i : Nat} (hi : i < n) : PS B w g lv (.slice (some ⟨b, 0, none⟩) (i + (n - (i + 1))) cap) l (o.take i ++ o.drop (i + 1)) c (wr.setCells b i ((o.drop (i + 1)).map (Value.int .i64))) := by
  subst hn
  have hgr := setCells_grown ((o.drop (i + 1)).map (Value.int .i64)) wr b i
  have hge := own_ge h.oo b rfl
  have hlen : (o.take i ++ o.drop (i + 1)).length = i + (o.length - (i + 1)) := by simp; omega
  refine ⟨h.mkr.grown hgr (fun e => (h.mkr.ne h.oo (by decide)) (by rw [← e]; rfl)) (fun k e => by have := Option.some.inj e; omega), h.lo.kept hgr (.inr ?_), ?_, grown_then h.gr hgr (fun k e => .inr (by have := Option.some.inj e; omega))⟩
  · rcases own_ne_type h.lo h.oo (by decide) with ha | ha
    · rw [ha]; simp
    · exact ha
  · rw [hlen]
    exact own_del h.oo hi
theorem PS.init {A : Option Addr} {n cap : Nat} {y : Int} (h : PS B w g lv (.slice A (n + 1) cap) l (o ++ [y]) c wr) (hn : o.length = n) : PS B w g lv (.slice A n cap) l o c wr := by
  refine ⟨h.mkr, h.lo, ?_, h.gr⟩
  have := h.oo
  rw [List.map_append, List.length_append, hn] at this
  rw [hn]
  exact own_init this (by simp [hn])
end
end Go.Proofs.YtkkpkekkaoccbaaDoor
