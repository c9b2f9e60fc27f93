/- The walk of 'made' of the statements of a sheet. -/
import Derived.Test.YtiegpkbollihgaaDoorFnG4
import Derived.Test.YtiegpkbollihgaaDoorFnTake
import Derived.Test.YtiegpkbollihgaaDoorRow
import Derived.Deep.RegionLaw
namespace Go.Proofs.YtiegpkbollihgaaDoor
open Go.RowKit
/-- What a made sheet keeps. -/
structure FnOk (n : Nat) (f : FN) : Prop where
  err : Fn.fErr f = 0
  ws : f.ws.length ≤ n
  so : f.so.length ≤ 4
theorem fn_ok {nm : ByteArray} {ws : List WG} {l : List Int} {so : List SO} {n : Nat} (h1 : Pl.nameOk nm = true) (h2 : ∀ j x, ws[j]? = some x → WagMade j x) (h3 : ws.length ≤ n) (h4 : ws.length ≤ 96) (h5 : ∀ z ∈ l, 0 ≤ z ∧ z ≤ 1000000) (h6 : ∀ x ∈ so, ∀ z ∈ Fn.soL x, 0 ≤ z ∧ z ≤ 1000000) (h7 : so.length ≤ 4) : FnOk n ⟨nm, ws, l, so⟩ := by
  refine ⟨?_, h3, h7⟩
  unfold Fn.fErr
  have hall : (Fn.nums ⟨nm, ws, l, so⟩).all Fn.inside = true := by
    rw [List.all_eq_true]
    intro z hz
    have hz2 : 0 ≤ z ∧ z ≤ 1000000 := by
      unfold Fn.nums at hz
      rcases List.mem_append.1 hz with hz | hz
      · exact h5 z hz
      · obtain ⟨x, hx, hz⟩ := List.mem_flatMap.1 hz
        exact h6 x hx z hz
    unfold Fn.inside
    rw [decide_eq_true hz2.1, decide_eq_true hz2.2]
    rfl
  rw [if_neg (by rw [h1]; decide), if_neg (by rw [Fn.wsErr_made h4 h2]; decide), if_neg (by simp only; omega), if_neg (by rw [hall]; decide)]
def FMadeR (B : Nat) (w : World) (g c n : Nat) (e : Ending) (w' : World) : Prop := ∃ (A : Option Addr) (m cp : Nat) (Bs : Option Addr) (k d : Nat) (f : FN) (b0 b1 b2 b3 b4 b5 b6 : Int) (c' : Nat), e = .returned (fnV A m cp Bs k d f.nm b0 b1 b2 b3 b4 b5 b6) ∧ Hid (FnOk n f) ∧ Hid (f.bk = [b0, b1, b2, b3, b4, b5, b6]) ∧ w'.ownsRow w.heap.size 34 8 (.slice A m cp) m (flatW f.ws) ∧ w'.ownsRow w.heap.size 39 3 (.slice Bs k d) k (flatS f.so) ∧ c' ≤ c + 40 + 17 * n ∧ Mk B w' g c' ∧ w.grownBy w' (some g)
/-- The maker and the result's block. -/
structure FM (B : Nat) (w : World) (g c : Nat) (W : World) : Prop where
  mkr : Mk B W g c
  res : Blk W w.heap.size 28 #[.string ⟨#[]⟩, .slice none 0 0, .int .i64 0, .int .i64 0, .int .i64 0, .int .i64 0, .int .i64 0, .int .i64 0, .int .i64 0, .slice none 0 0]
  gr : w.grownBy W (some g)
section
variable {B : Nat} {w W W' : World} {g c c' : Nat}
theorem FM.step (h : FM B w g c W) (hgw : g < w.heap.size) (m : Mk B W' g c') (hg : W.grownBy W' (some g)) : FM B w g c' W' := ⟨m, h.res.grown hg (fun e => by have := Option.some.inj e; omega), h.gr.trans hg⟩
theorem FM.alloc (h : FM B w g c W) (o : Obj) : FM B w g c (W.alloc o) := ⟨h.mkr.alloc o, h.res.alloc o, h.gr.trans (World.grownBy_alloc W o (some g))⟩
theorem FM.drew (h : FM B w g c W) : FM B w g c W.drew := ⟨⟨h.mkr.ge, h.mkr.blk⟩, h.res, ⟨h.gr.os, h.gr.tape, h.gr.output, h.gr.size, h.gr.block⟩⟩
theorem FM.far (h : FM B w g c W) (hgw : g < w.heap.size) {b : Nat} (hb : w.heap.size < b) (hg : W.grownBy W' (some b)) : FM B w g c W' := by
  have h1 := h.mkr.ge
  exact ⟨h.mkr.grown hg (fun e => by have := Option.some.inj e; omega) (fun k e => by have := Option.some.inj e; omega), h.res.grown hg (fun e => by have := Option.some.inj e; omega), grown_then' h.gr hg (fun k e => .inr (by have := Option.some.inj e; omega))⟩
end
def FMadeI (B : Nat) (w : World) (g c xb q : Nat) (nm : ByteArray) (vW : Value) (ws : List WG) (b0 b1 b2 b3 b4 b5 b6 : Int) (vi : Value) (wr : World) : Prop := ∃ (so : List SO) (vS : Value) (i c' : Nat), i + so.length = q ∧ vi = .int .i64 (i : Int) ∧ Blk wr xb 28 #[.string nm, vW, .int .i64 b0, .int .i64 b1, .int .i64 b2, .int .i64 b3, .int .i64 b4, .int .i64 b5, .int .i64 b6, vS] ∧ wr.ownsRow w.heap.size 34 8 vW ws.length (flatW ws) ∧ wr.ownsRow w.heap.size 39 3 vS so.length (flatS so) ∧ Hid (∀ x ∈ so, ∀ z ∈ Fn.soL x, 0 ≤ z ∧ z ≤ 1000000) ∧ c' ≤ c + 2 * so.length ∧ FM B w g c' wr
set_option maxRecDepth 100000 in
set_option maxHeartbeats 8000000 in
theorem fmade_c (B g c n : Nat) (w : World) (h : Mk B w g c) (hc : c ≤ 1152921504606000000) (hn : n ≤ 96) (hB : B ≤ w.heap.size) :
    Calls Tryd.prog 8 #[.pointer (some ⟨g, 0, none⟩), .int .i64 (n : Int)] w (FMadeR B w g c n) := by
  have hgw := h.lt
  have H0 : FM B w g c (w.alloc (.cells #[.string ⟨#[]⟩, .slice none 0 0, .int .i64 0, .int .i64 0, .int .i64 0, .int .i64 0, .int .i64 0, .int .i64 0, .int .i64 0, .slice none 0 0] 28)) := ⟨h.alloc _, Blk.new w _ _, World.grownBy_alloc w _ (some g)⟩
  go_enter Tryd.func8, Tryd.ntmps8
  go_wp2_with fail
  refine (gname_c B g c _ H0.mkr (by omega)).mono ?_
  rintro e W1 ⟨⟨nm, rfl, hnm⟩, m1, hg1⟩
  have H1 := H0.step hgw m1 hg1
  have Hnm := Lib.hid hnm
  clear m1 hg1 H0 hnm
  go_wp2_with fail
  refine (gwagons_c B g (c + 1) n W1 H1.mkr (by omega) hn (by have := H1.gr.size; omega)).mono ?_
  rintro e W2 ⟨ws, vW, c2, rfl, oW, hwl, HW, hc2, m2, hg2⟩
  have H2 := H1.step hgw m2 hg2
  have oW2 := own_more (B' := w.heap.size) oW H1.gr.size
  clear m2 hg2 oW
  obtain ⟨Aw, cw, rfl, hcw1, hcw2⟩ := own_form oW2
  obtain ⟨xb, hxb⟩ : ∃ xb, W2.heap.size = xb := ⟨_, rfl⟩
  obtain ⟨W3, hW3⟩ : ∃ W3, W2.alloc (.cells #[.string ⟨#[]⟩, .slice none 0 0, .int .i64 0, .int .i64 0, .int .i64 0, .int .i64 0, .int .i64 0, .int .i64 0, .int .i64 0, .slice none 0 0] 28) = W3 := ⟨_, rfl⟩
  have H3 : FM B w g c2 W3 := by rw [← hW3]; exact H2.alloc _
  have oW3 : W3.ownsRow w.heap.size 34 8 (.slice Aw ws.length cw) ws.length (flatW ws) := by rw [← hW3]; exact oW2.alloc _
  have hX3 : Blk W3 xb 28 #[.string ⟨#[]⟩, .slice none 0 0, .int .i64 0, .int .i64 0, .int .i64 0, .int .i64 0, .int .i64 0, .int .i64 0, .int .i64 0, .slice none 0 0] := by rw [← hW3, ← hxb]; exact Blk.new W2 _ _
  have hwxb : w.heap.size < xb := by rw [← hxb]; exact H2.res.lt
  have hgxb : g ≠ xb := by omega
  have hgs : (some xb : Option Nat) ≠ some g := fun e => hgxb (Option.some.inj e).symm
  clear H1 H2 oW2
  go_wp2_with (with_reducible refine at_st 28 (.tmp 5) (.tmp 12) ?_; go_must (refine wpList_stB rfl 28 (.tmp 5) (.tmp 12) rfl xb 0 [.string nm, .slice Aw ws.length cw, .int .i64 0, .int .i64 0, .int .i64 0, .int .i64 0, .int .i64 0, .int .i64 0, .int .i64 0, .slice none 0 0] rfl rfl hX3 #[.string nm, .slice Aw ws.length cw, .int .i64 0, .int .i64 0, .int .i64 0, .int .i64 0, .int .i64 0, .int .i64 0, .int .i64 0, .slice none 0 0] rfl rfl (by kernel_rfl) rfl ?_; intro W4 hX4 hg4))
  have H4 := H3.far hgw hwxb hg4
  have oW4 := oW3.kept hg4 (.inr (own_blk_ne oW3 hX3 (by decide)))
  clear H3 oW3 hX3 hg4
  have hngd : W4.heap.size ≠ g := by have := H4.mkr.lt; omega
  have hxb4 := hX4.lt
  go_wp2_with fail
  refine (pick_c B g c2 W4.heap.size 3 _ [0, 999, 1000000] _ (H4.alloc _).mkr hngd (by omega) (by omega) (by omega) (IR.new _ 3 rfl rfl (by decide))).mono ?_
  rintro e W5 ⟨b0, hb0, rfl, m0, hg0⟩
  have H5 := (H4.alloc (.cells #[.int .i64 0, .int .i64 999, .int .i64 1000000] 3)).step hgw m0 hg0
  have hX5 := (hX4.alloc (.cells #[.int .i64 0, .int .i64 999, .int .i64 1000000] 3)).grown hg0 hgs
  have hgo : ∀ {W : World} {v : Value} {n : Nat} {xs : List Value} {e s : Nat}, W.ownsRow w.heap.size e s v n xs → v.ownBlock ≠ some g := fun h e => by have := own_ge h _ e; omega
  have oW5 := (oW4.alloc (.cells #[.int .i64 0, .int .i64 999, .int .i64 1000000] 3)).kept hg0 (.inr (hgo (oW4.alloc (.cells #[.int .i64 0, .int .i64 999, .int .i64 1000000] 3))))
  clear m0 hg0 H4 hX4 oW4 hngd hxb4
  go_wp2_with fail
  refine (next_c B g (c2 + 1) 400 _ H5.mkr (by omega) (by omega) (by omega)).mono ?_
  rintro e W6 ⟨b1, hb1a, hb1b, rfl, m0, hg0⟩
  have H6 := H5.step hgw m0 hg0
  have hX6 := hX5.grown hg0 hgs
  have oW6 := oW5.kept hg0 (.inr (hgo oW5))
  clear m0 hg0 H5 hX5 oW5
  go_wp2_with fail
  refine (next_c B g (c2 + 2) 90000 _ H6.mkr (by omega) (by omega) (by omega)).mono ?_
  rintro e W7 ⟨b2, hb2a, hb2b, rfl, m0, hg0⟩
  have H7 := H6.step hgw m0 hg0
  have hX7 := hX6.grown hg0 hgs
  have oW7 := oW6.kept hg0 (.inr (hgo oW6))
  clear m0 hg0 H6 hX6 oW6
  go_wp2_with fail
  refine (next_c B g (c2 + 3) 90000 _ H7.mkr (by omega) (by omega) (by omega)).mono ?_
  rintro e W8 ⟨b3, hb3a, hb3b, rfl, m0, hg0⟩
  have H8 := H7.step hgw m0 hg0
  have hX8 := hX7.grown hg0 hgs
  have oW8 := oW7.kept hg0 (.inr (hgo oW7))
  clear m0 hg0 H7 hX7 oW7
  go_wp2_with fail
  refine (next_c B g (c2 + 4) 120 _ H8.mkr (by omega) (by omega) (by omega)).mono ?_
  rintro e W9 ⟨b4, hb4a, hb4b, rfl, m0, hg0⟩
  have H9 := H8.step hgw m0 hg0
  have hX9 := hX8.grown hg0 hgs
  have oW9 := oW8.kept hg0 (.inr (hgo oW8))
  clear m0 hg0 H8 hX8 oW8
  go_wp2_with fail
  refine (next_c B g (c2 + 5) 90 _ H9.mkr (by omega) (by omega) (by omega)).mono ?_
  rintro e W10 ⟨b5, hb5a, hb5b, rfl, m0, hg0⟩
  have H10 := H9.step hgw m0 hg0
  have hX10 := hX9.grown hg0 hgs
  have oW10 := oW9.kept hg0 (.inr (hgo oW9))
  clear m0 hg0 H9 hX9 oW9
  have hngd : W10.heap.size ≠ g := by have := H10.mkr.lt; omega
  go_wp2_with fail
  refine (pick_c B g (c2 + 6) W10.heap.size 3 _ [0, 1, 1000000] _ (H10.alloc _).mkr hngd (by omega) (by omega) (by omega) (IR.new _ 3 rfl rfl (by decide))).mono ?_
  rintro e W11 ⟨b6, hb6, rfl, m0, hg0⟩
  have H11 := (H10.alloc (.cells #[.int .i64 0, .int .i64 1, .int .i64 1000000] 3)).step hgw m0 hg0
  have hX11 := (hX10.alloc (.cells #[.int .i64 0, .int .i64 1, .int .i64 1000000] 3)).grown hg0 hgs
  have oW11 := (oW10.alloc (.cells #[.int .i64 0, .int .i64 1, .int .i64 1000000] 3)).kept hg0 (.inr (hgo (oW10.alloc (.cells #[.int .i64 0, .int .i64 1, .int .i64 1000000] 3))))
  clear m0 hg0 H10 hX10 oW10 hngd
  have Hbk : Hid (∀ z ∈ [b0, b1, b2, b3, b4, b5, b6], 0 ≤ z ∧ z ≤ 1000000) := Lib.hid (by
    intro z hz
    simp only [List.mem_cons, List.not_mem_nil, or_false] at hz hb0 hb6
    rcases hz with rfl | rfl | rfl | rfl | rfl | rfl | rfl <;> omega)
  clear hb0 hb6 hb1a hb1b hb2a hb2b hb3a hb3b hb4a hb4b hb5a hb5b
  go_wp2_with (with_reducible refine at_st 25 (.tmp 30) (.tmp 29) ?_; go_must (refine wpList_stB rfl 25 (.tmp 30) (.tmp 29) rfl xb 2 [.int .i64 b0, .int .i64 b1, .int .i64 b2, .int .i64 b3, .int .i64 b4, .int .i64 b5, .int .i64 b6] rfl rfl hX11 #[.string nm, .slice Aw ws.length cw, .int .i64 b0, .int .i64 b1, .int .i64 b2, .int .i64 b3, .int .i64 b4, .int .i64 b5, .int .i64 b6, .slice none 0 0] rfl rfl (by kernel_rfl) rfl ?_; intro W12 hX12 hg12))
  have H12 := H11.far hgw hwxb hg12
  have oW12 := oW11.kept hg12 (.inr (own_blk_ne oW11 hX11 (by decide)))
  clear H11 oW11 hX11 hg12
  refine (next_c B g (c2 + 7) 5 _ H12.mkr (by omega) (by omega) (by omega)).mono ?_
  rintro e W13 ⟨y, hy0, hy1, rfl, m0, hg0⟩
  have H13 := H12.step hgw m0 hg0
  have hX13 := hX12.grown hg0 hgs
  have oW13 := oW12.kept hg0 (.inr (hgo oW12))
  clear m0 hg0 H12 hX12 oW12
  obtain ⟨q, rfl⟩ := Int.eq_ofNat_of_zero_le hy0
  have hq4 : q ≤ 4 := by omega
  clear hy0 hy1
  go_wp2_with fail
  go_loopw [6] (fun vi wr => FMadeI B w g (c2 + 8) xb q nm (.slice Aw ws.length cw) ws b0 b1 b2 b3 b4 b5 b6 vi wr) (fun vi _ => (intOf vi).toNat)
  case atStart => exact (show FMadeI _ _ _ _ _ _ _ _ _ _ _ _ _ _ _ _ _ _ from ⟨[], .slice none 0 0, q, c2 + 8, by simp, rfl, hX13, oW13, World.ownsRow_nil _ _ _ _, Lib.hid (fun x hx => by cases hx), by omega, H13⟩)
  case round =>
    obtain ⟨so, vS, i, c', hil, rfl, hX, oW, oS, HS, hc', H⟩ := hrel
    clear H13 hX13 oW13
    obtain ⟨As, cs, rfl, hcs1, hcs2⟩ := own_form oS
    by_cases hi0 : 0 < i
    · have d0 : decide ((0 : Int) < (i : Int)) = true := decide_eq_true (by omega)
      have d0' : decide (0 < i) = true := decide_eq_true hi0
      have hXd : Blk wr.drew xb 28 #[.string nm, .slice Aw ws.length cw, .int .i64 b0, .int .i64 b1, .int .i64 b2, .int .i64 b3, .int .i64 b4, .int .i64 b5, .int .i64 b6, .slice As so.length cs] := hX
      have Hd := H.drew
      have oWd := own_drew oW
      have oSd := own_drew oS
      have y9 : wr.cell? ⟨xb, 9, none⟩ = some (.slice As so.length cs) := hX.cell 9
      have h63 : so.length + 1 ≤ maxLen := by unfold maxLen; omega
      have h24 : (so.length + 1) * 24 ≤ 140737488355328 := by omega
      clear H oW oS
      go_wp2_with fail
      go_region_law (first
                    | (refine step_callC rfl Tryd.func9 (by kernel_rfl) (by kernel_rfl) (Operand.func 9) rfl #[.tmp 42, .const (.int .i64 30)] #[29, 3] rfl #[.pointer (some ⟨g, 0, none⟩), .int .i64 30] rfl (next_c B g c' 30 _ Hd.mkr (by omega) (by omega) (by omega)) ?_
                       rintro e w5 ⟨y1, hy1a, hy1b, rfl, m0y1, hg0y1⟩
                       refine ⟨_, rfl, ?_⟩
                       have H5 := Hd.step hgw m0y1 hg0y1
                       have hX5 := hXd.grown hg0y1 hgs
                       have yw5 : w5.cell? ⟨xb, 9, none⟩ = some (.slice As so.length cs) := hX5.cell 9
                       have oWw5 := oWd.kept hg0y1 (.inr (hgo oWd))
                       have oSw5 := oSd.kept hg0y1 (.inr (hgo oSd)))
                    | (refine step_callC rfl Tryd.func9 (by kernel_rfl) (by kernel_rfl) (Operand.func 9) rfl #[.tmp 44, .const (.int .i64 4)] #[29, 3] rfl #[.pointer (some ⟨g, 0, none⟩), .int .i64 4] rfl (next_c B g (c' + 1) 4 _ H5.mkr (by omega) (by omega) (by omega)) ?_
                       rintro e w6 ⟨y2, hy2a, hy2b, rfl, m0y2, hg0y2⟩
                       refine ⟨_, rfl, ?_⟩
                       have H6 := H5.step hgw m0y2 hg0y2
                       have hX6 := hX5.grown hg0y2 hgs
                       have yw6 : w6.cell? ⟨xb, 9, none⟩ = some (.slice As so.length cs) := hX6.cell 9
                       have ya6 := fun o : Obj => cell_alloc yw6 o
                       have oWw6 := oWw5.kept hg0y2 (.inr (hgo oWw5))
                       have oSw6 := oSw5.kept hg0y2 (.inr (hgo oSw5)))
                    | (refine step_pushb sl24 (by rfl) (.tmp 38) (.tmp 47) (by rfl) w.heap.size (.slice As so.length cs) so.length (flatS so) (by rfl) oSw6 1 1 w6.heap.size rfl (by rfl) (by rfl) (by rfl) h63 h24 H6.gr.size ?_
                       intro v' w9 own9 hgr
                       obtain ⟨A9, c9, rfl, _, _⟩ := own_form own9
                       have hX9 := hX6.grown hgr.grown (fun e => own_blk_ne oSw6 hX6 (by decide) e.symm)
                       have z9 : w9.cell? ⟨xb, 9, none⟩ = some (.slice As so.length cs) := hX9.cell 9
                       have f9 : w9.frozen? ⟨xb, 9, none⟩ = false := hX9.frozen 9))
      all_goals
        have oW9 := hgr.keep oWw6 (own_ne_type oWw6 oSw6 (by decide))
        have hge := own_ge oSw6
        have H9 : FM B w g (c' + 1 + 1) w9 := ⟨H6.mkr.grown hgr.grown (hgo oSw6) (fun b e => by have := hge b e; omega), H6.res.grown hgr.grown (fun e => own_blk_ne oSw6 H6.res (by decide) e.symm), grown_then' H6.gr hgr.grown (fun b e => .inr (hge b e))⟩
        have H10 := H9.far hgw hwxb (grown_setc w9 xb 9 (.slice A9 (so.length + 1) c9))
        have oW10 := own_farB (j := 9) oW9 hX9 (by decide) (.slice A9 (so.length + 1) c9)
        have oS10 := own_farB (j := 9) own9 hX9 (by decide) (.slice A9 (so.length + 1) c9)
        have hX10 : Blk (w9.setCell ⟨xb, 9, none⟩ (.slice A9 (so.length + 1) c9)) xb 28 #[.string nm, .slice Aw ws.length cw, .int .i64 b0, .int .i64 b1, .int .i64 b2, .int .i64 b3, .int .i64 b4, .int .i64 b5, .int .i64 b6, .slice A9 (so.length + 1) c9] := hX9.set_ 9 _
        have HS2 : Hid (∀ x ∈ so ++ [(⟨(so.length : Int), y1, y2⟩ : SO)], ∀ z ∈ Fn.soL x, 0 ≤ z ∧ z ≤ 1000000) := Lib.hid (by
          intro x hx z hz
          rcases List.mem_append.1 hx with hx | hx
          · exact HS.out x hx z hz
          · rw [List.mem_singleton] at hx
            subst hx
            simp only [Fn.soL, List.mem_cons, List.not_mem_nil, or_false] at hz
            rcases hz with rfl | rfl | rfl <;> omega)
        clear H9 oW9 own9 hX9 H6 H5 hX5 hX6 oWw6 oSw6 oWw5 oSw5 yw5 yw6 ya6 z9 f9 Hd hXd oWd oSd y9
        go_wp2_with fail
        go_roundw
        case rel => exact (show FMadeI _ _ _ _ _ _ _ _ _ _ _ _ _ _ _ _ _ _ from ⟨so ++ [⟨(so.length : Int), y1, y2⟩], _, i - 1, c' + 1 + 1, by simp; omega, by go_num, hX10, oW10, by rw [List.length_append, flatS_snoc]; exact oS10, HS2, by simp; omega, H10⟩)
        case measure => simp [intOf]; omega
    · have d0 : decide ((0 : Int) < (i : Int)) = false := decide_eq_false (by omega)
      have d0' : decide (0 < i) = false := decide_eq_false hi0
      have hR := H.res
      have HK : Hid (FnOk n ⟨nm, ws, [b0, b1, b2, b3, b4, b5, b6], so⟩) := Lib.hid (fn_ok Hnm.out HW.out hwl (by omega) Hbk.out HS.out (by omega))
      have hne : xb ≠ w.heap.size := by omega
      go_wp2_with (first
                    | (with_reducible refine at_ld 28 (.tmp 5) ?_; go_must (refine wpList_ldB rfl 28 (.tmp 5) rfl xb 0 rfl hX [.string nm, .slice Aw ws.length cw, .int .i64 b0, .int .i64 b1, .int .i64 b2, .int .i64 b3, .int .i64 b4, .int .i64 b5, .int .i64 b6, .slice As so.length cs] rfl _ Tryd.underlying28 rfl (by kernel_rfl) ?_))
                    | (with_reducible refine at_st 28 (.tmp 4) (.tmp 50) ?_; go_must (refine wpList_stB rfl 28 (.tmp 4) (.tmp 50) rfl w.heap.size 0 [.string nm, .slice Aw ws.length cw, .int .i64 b0, .int .i64 b1, .int .i64 b2, .int .i64 b3, .int .i64 b4, .int .i64 b5, .int .i64 b6, .slice As so.length cs] rfl rfl hR #[.string nm, .slice Aw ws.length cw, .int .i64 b0, .int .i64 b1, .int .i64 b2, .int .i64 b3, .int .i64 b4, .int .i64 b5, .int .i64 b6, .slice As so.length cs] rfl rfl (by kernel_rfl) rfl ?_; intro WR hRR hgR)))
      (try simp only [Exit.inBlock, Exit.then])
      refine bodyPost_ret (results_cell_row rfl _ _ w.heap.size 28 _ (0, 0) _ (by rfl) hRR Tryd.underlying28 rfl (by kernel_rfl)) rfl ?_
      have hbl := H.mkr.ge
      exact (show FMadeR _ _ _ _ _ _ _ from ⟨Aw, ws.length, cw, As, so.length, cs, ⟨nm, ws, [b0, b1, b2, b3, b4, b5, b6], so⟩, b0, b1, b2, b3, b4, b5, b6, c', rfl, HK, Lib.hid rfl, oW.kept hgR (.inr (own_blk_ne oW hR (by decide))), oS.kept hgR (.inr (own_blk_ne oS hR (by decide))), by omega, H.mkr.grown hgR (fun e => by have := Option.some.inj e; omega) (fun b e => by have := Option.some.inj e; omega), grown_then' H.gr hgR (fun b e => .inr (by have := Option.some.inj e; omega))⟩)
end Go.Proofs.YtiegpkbollihgaaDoor
