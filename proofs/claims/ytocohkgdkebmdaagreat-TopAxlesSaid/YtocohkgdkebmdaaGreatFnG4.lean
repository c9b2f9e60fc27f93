/- The walk of humpgen's Wagons. -/
import Derived.Test.YtocohkgdkebmdaaGreatFnG2
import Derived.Test.YtocohkgdkebmdaaGreatFnWag
import Derived.Test.YtocohkgdkebmdaaGreatReg3
import Derived.Test.YtocohkgdkebmdaaGreatMem
import Derived.Maps.OwnSet
import Derived.Lib.Hide
import Derived.StringKeys
import Derived.Test.YtocohkgdkebmdaaGreatWG
import Derived.Deep.RegionWith
import Derived.BigRegion
namespace Go.Proofs.YtocohkgdkebmdaaGreat
open Go.RowKit
/-- The maker, and the result's block as it was made. -/
structure EW (B : Nat) (w : World) (g c : Nat) (W : World) : Prop where
  mkr : Mk B W g c
  blk : Blk W w.heap.size 45 #[.string ⟨#[]⟩, .int .i64 0, .int .i64 0, .int .i64 0, .int .i64 0, .int .i64 0, .bool false, .string ⟨#[]⟩]
  gr : w.grownBy W (some g)
section
variable {B : Nat} {w W W' : World} {g c c' : Nat}
theorem EW.step (h : EW B w g c W) (hgw : g < w.heap.size) (m : Mk B W' g c') (hg : W.grownBy W' (some g)) : EW B w g c' W' := ⟨m, h.blk.grown hg (fun e => by have := Option.some.inj e; omega), h.gr.trans hg⟩
theorem EW.alloc (h : EW B w g c W) (o : Obj) : EW B w g c (W.alloc o) := ⟨h.mkr.alloc o, h.blk.alloc o, h.gr.trans (World.grownBy_alloc W o (some g))⟩
theorem EW.drew (h : EW B w g c W) : EW B w g c W.drew := ⟨⟨h.mkr.ge, h.mkr.blk⟩, h.blk, ⟨h.gr.os, h.gr.tape, h.gr.output, h.gr.size, h.gr.block⟩⟩
theorem EW.setX (h : EW B w g c W) {b : Nat} (hb : w.heap.size < b) (hgw : g < w.heap.size) (j : Nat) (u : Value) : EW B w g c (W.setCell ⟨b, j, none⟩ u) := by
  have hg := World.grownBy_set W b j u
  have h1 := h.mkr.ge
  exact ⟨h.mkr.grown hg (fun e => by have := Option.some.inj e; omega) (fun k e => by have := Option.some.inj e; omega), h.blk.grown hg (fun e => by have := Option.some.inj e; omega), grown_then' h.gr hg (fun k e => .inr (by have := Option.some.inj e; omega))⟩
end
def WagMade (i : Nat) (x : WG) : Prop := Fn.wErr x = 0 ∧ Fn.NumMade i x.nu
def GWagR (B : Nat) (w : World) (g c i : Nat) (e : Ending) (w' : World) : Prop := ∃ x c', e = .returned (wgV x) ∧ WagMade i x ∧ c' ≤ c + 17 ∧ Mk B w' g c' ∧ w.grownBy w' (some g)
theorem gwag_end {B : Nat} {w W : World} {g c c0 i : Nat} (h : EW B w g c W) (hgw : g < w.heap.size) (x : WG) (hx : WagMade i x) (hc : c ≤ c0 + 17) :
    Blk (storeW W w.heap.size x) w.heap.size 45 #[.string x.nu, .int .i64 x.len, .int .i64 x.ax, .int .i64 x.ms, .int .i64 x.br, .int .i64 x.gd, .bool x.gt, .string x.de] ∧ GWagR B w g c0 i (.returned (wgV x)) (storeW W w.heap.size x) := by
  have hb := storeW_blk x h.blk
  have hg := storeW_grown W w.heap.size x
  refine ⟨hb, x, c, rfl, hx, hc, h.mkr.grown hg (fun e => by have := Option.some.inj e; omega) (fun b e => ?_), grown_then' h.gr hg (fun b e => .inr (by have := Option.some.inj e; omega))⟩
  have h1 := h.mkr.ge
  have h2 := Option.some.inj e
  omega
set_option maxRecDepth 100000 in
set_option maxHeartbeats 16000000 in
theorem gwagon_c (B g c i : Nat) (w : World) (h : Mk B w g c) (hc : c ≤ 1152921504606840000) (hi : i < 1000) :
    Calls Tryz.prog 17 #[.pointer (some ⟨g, 0, none⟩), .int .i64 (i : Int)] w (GWagR B w g c i) := by
  have hgw := h.lt
  have H0 : EW B w g c (w.alloc (.cells #[.string ⟨#[]⟩, .int .i64 0, .int .i64 0, .int .i64 0, .int .i64 0, .int .i64 0, .bool false, .string ⟨#[]⟩] 45)) := ⟨h.alloc _, Blk.new w _ _, World.grownBy_alloc w _ (some g)⟩
  obtain ⟨W0, hW0⟩ : ∃ W0, w.alloc (.cells #[.string ⟨#[]⟩, .int .i64 0, .int .i64 0, .int .i64 0, .int .i64 0, .int .i64 0, .bool false, .string ⟨#[]⟩] 45) = W0 := ⟨_, rfl⟩
  rw [hW0] at H0
  go_enter Tryz.func17, Tryz.ntmps17
  go_wp2_with fail
  refine (gnumber_c B g c i W0 H0.mkr (by omega) hi).mono ?_
  rintro e W1 ⟨⟨s, rfl, hnum⟩, m1, hg1⟩
  have H1 := H0.step hgw m1 hg1
  have HNu := Lib.hid hnum
  have hs12 := (kErr_size hnum.1).1
  clear hnum m1 hg1 hW0
  go_wp2_with fail
  have hnlen : W1.heap.size ≠ g := by have := H1.mkr.lt; omega
  refine (pick_c B g (c + 11) W1.heap.size 6 _ [80, 120, 142, 199, 262, 400] _ (H1.alloc _).mkr hnlen (by omega) (by omega) (by omega) (IR.new [80, 120, 142, 199, 262, 400] 6 rfl rfl (by decide))).mono ?_
  rintro e W2 ⟨len, hlen, rfl, mlen, hglen⟩
  have H2 := (H1.alloc (.cells #[.int .i64 80, .int .i64 120, .int .i64 142, .int .i64 199, .int .i64 262, .int .i64 400] 3)).step hgw mlen hglen
  clear mlen hglen hnlen
  go_wp2_with fail
  have hnms : W2.heap.size ≠ g := by have := H2.mkr.lt; omega
  refine (pick_c B g (c + 12) W2.heap.size 5 _ [50, 120, 400, 800, 2000] _ (H2.alloc _).mkr hnms (by omega) (by omega) (by omega) (IR.new [50, 120, 400, 800, 2000] 5 rfl rfl (by decide))).mono ?_
  rintro e W3 ⟨ms, hms, rfl, mms, hgms⟩
  have H3 := (H2.alloc (.cells #[.int .i64 50, .int .i64 120, .int .i64 400, .int .i64 800, .int .i64 2000] 3)).step hgw mms hgms
  clear mms hgms hnms
  go_wp2_with fail
  have hngd : W3.heap.size ≠ g := by have := H3.mkr.lt; omega
  refine (pick_c B g (c + 13) W3.heap.size 6 _ [0, 0, 0, 1, 3, 9] _ (H3.alloc _).mkr hngd (by omega) (by omega) (by omega) (IR.new [0, 0, 0, 1, 3, 9] 6 rfl rfl (by decide))).mono ?_
  rintro e W4 ⟨gd, hgd, rfl, mgd, hggd⟩
  have H4 := (H3.alloc (.cells #[.int .i64 0, .int .i64 0, .int .i64 0, .int .i64 1, .int .i64 3, .int .i64 9] 3)).step hgw mgd hggd
  clear mgd hggd hngd
  go_wp2_with fail
  refine (next_c B g (c + 14) 5 _ H4.mkr (by omega) (by omega) (by omega)).mono ?_
  rintro e W5 ⟨y5, hy0, hy1, rfl, m5, hg5⟩
  have H5 := H4.step hgw m5 hg5
  obtain ⟨gt, hgt⟩ : ∃ gt, (y5 == 0) = gt := ⟨_, rfl⟩
  clear m5 hg5
  go_wp2_with fail
  refine (gname_c B g (c + 15) _ H5.mkr (by omega)).mono ?_
  rintro e W7 ⟨⟨q, rfl, hqn⟩, m7, hg7⟩
  have H7 := H5.step hgw m7 hg7
  have Hq := Lib.hid hqn
  have hlen2 : 80 ≤ len ∧ len ≤ 400 := by simp at hlen; omega
  have hms2 : 50 ≤ ms ∧ ms ≤ 2000 := by simp at hms; omega
  have hgd2 : 0 ≤ gd ∧ gd ≤ 9 := by simp at hgd; omega
  clear m7 hg7 hqn hlen hms hgd
  obtain ⟨xb, hxb⟩ : ∃ xb, W7.heap.size = xb := ⟨_, rfl⟩
  obtain ⟨W8, hW8⟩ : ∃ W8, W7.alloc (.cells #[.string s, .int .i64 len, .int .i64 4, .int .i64 ms, .int .i64 0, .int .i64 gd, .bool gt, .string q] 45) = W8 := ⟨_, rfl⟩
  have H8 : EW B w g (c + 16) W8 := by rw [← hW8]; exact H7.alloc _
  have hX8 : Blk W8 xb 45 #[.string s, .int .i64 len, .int .i64 4, .int .i64 ms, .int .i64 0, .int .i64 gd, .bool gt, .string q] := by rw [← hW8, ← hxb]; exact Blk.new W7 _ _
  have hwxb : w.heap.size < xb := by rw [← hxb]; exact H7.blk.lt
  have hgxb : g ≠ xb := by omega
  have k0 : W8.cell? ⟨xb, 0, none⟩ = some (.string s) := hX8.cell 0
  have k1 : W8.cell? ⟨xb, 1, none⟩ = some (.int .i64 len) := hX8.cell 1
  have k2 : W8.cell? ⟨xb, 2, none⟩ = some (.int .i64 4) := hX8.cell 2
  have f1 : W8.frozen? ⟨xb, 1, none⟩ = false := hX8.frozen 1
  have f2 : W8.frozen? ⟨xb, 2, none⟩ = false := hX8.frozen 2
  have hs4 : 4 < s.size := by omega
  have hs4i : (4 : Int) < (s.size : Int) := by omega
  have Hc4 := Lib.hid (c4_eq hs4)
  obtain ⟨cc, hcc⟩ : ∃ cc, s[4].toNat = cc := ⟨_, rfl⟩
  rw [hcc] at Hc4
  have Hk : Hid (Fn.kindN s = Fn.kindC cc) := Lib.hid (by rw [Fn.kindN, Hc4.out])
  clear H7 H5 H4 H3 H2 H1 H0
  go_upto_block 0 with fail
  go_cut [5] from 6 (fun a W => a = .pointer (some ⟨xb, 0, none⟩) ∧ ∃ L' ax' : Int, Blk W xb 45 #[.string s, .int .i64 L', .int .i64 ax', .int .i64 ms, .int .i64 0, .int .i64 gd, .bool gt, .string q] ∧ EW B w g (c + 16) W ∧ ax' = Fn.axK (Fn.kindN s) ∧ Fn.leastK (Fn.kindN s) ≤ L' ∧ L' ≤ 400)
  case first =>
    by_cases h50 : cc = 50
    · have e50 : ((cc : Int) == 50) = true := by simp; omega
      have hK : Hid (Fn.kindN s = 2) := Lib.hid (by rw [Hk.out, h50]; rfl)
      clear h50
      go_wp2_with fail
      go_meet
      exact ⟨rfl, len, 2, hX8.set_ 2 _, H8.setX hwxb hgw 2 _, by rw [hK.out]; rfl, by rw [hK.out]; show (80 : Int) ≤ len; omega, by omega⟩
    have e50 : ((cc : Int) == 50) = false := by simp; omega
    by_cases h52 : cc = 52
    · have e52 : ((cc : Int) == 52) = true := by simp; omega
      have hK : Hid (Fn.kindN s = 2) := Lib.hid (by rw [Hk.out, h52]; rfl)
      clear h50 h52
      go_wp2_with fail
      go_meet
      exact ⟨rfl, len, 2, hX8.set_ 2 _, H8.setX hwxb hgw 2 _, by rw [hK.out]; rfl, by rw [hK.out]; show (80 : Int) ≤ len; omega, by omega⟩
    have e52 : ((cc : Int) == 52) = false := by simp; omega
    by_cases h57 : cc = 57
    · have e57 : ((cc : Int) == 57) = true := by simp; omega
      have hK : Hid (Fn.kindN s = 3) := Lib.hid (by rw [Hk.out, h57]; rfl)
      obtain ⟨W9, hW9⟩ : ∃ W9, W8.setCell ⟨xb, 2, none⟩ (.int .i64 6) = W9 := ⟨_, rfl⟩
      have hX9 : Blk W9 xb 45 #[.string s, .int .i64 len, .int .i64 6, .int .i64 ms, .int .i64 0, .int .i64 gd, .bool gt, .string q] := by rw [← hW9]; exact hX8.set_ 2 _
      have H9 : EW B w g (c + 16) W9 := by rw [← hW9]; exact H8.setX hwxb hgw 2 _
      have k1' : W9.cell? ⟨xb, 1, none⟩ = some (.int .i64 len) := hX9.cell 1
      have f1' : W9.frozen? ⟨xb, 1, none⟩ = false := hX9.frozen 1
      obtain ⟨L', hL'⟩ : ∃ L', max len 120 = L' := ⟨_, rfl⟩
      have hLb : 120 ≤ L' ∧ L' ≤ 400 := by omega
      clear h50 h52 h57
      go_wp2_with fail
      all_goals
        go_meet
        first
          | exact ⟨rfl, L', 6, hX9.set_ 1 (.int .i64 L'), H9.setX hwxb hgw 1 (.int .i64 L'), by rw [hK.out]; rfl, by rw [hK.out]; show (120 : Int) ≤ L'; omega, by omega⟩
          | exact ⟨rfl, 120, 6, hX9.set_ 1 (.int .i64 120), H9.setX hwxb hgw 1 (.int .i64 120), by rw [hK.out]; rfl, by rw [hK.out]; show (120 : Int) ≤ 120; omega, by omega⟩
          | exact ⟨rfl, len, 6, hX9.set_ 1 (.int .i64 len), H9.setX hwxb hgw 1 (.int .i64 len), by rw [hK.out]; rfl, by rw [hK.out]; show (120 : Int) ≤ len; omega, by omega⟩
    · have e57 : ((cc : Int) == 57) = false := by simp; omega
      have hK : Hid (Fn.axK (Fn.kindN s) = 4 ∧ Fn.leastK (Fn.kindN s) = 80) := Lib.hid (by
        have hk : Fn.kindC cc = 1 ∨ Fn.kindC cc = 0 := by
          unfold Fn.kindC
          by_cases h55 : cc = 55 ∨ cc = 56
          · left; rw [if_pos h55]
          · right; rw [if_neg h55, if_neg (by omega), if_neg (by omega)]
        rcases hk with e | e <;> rw [Hk.out, e] <;> exact ⟨rfl, rfl⟩)
      clear h50 h52 h57
      go_wp2_with fail
      go_meet
      exact ⟨rfl, len, 4, hX8, H8, hK.out.1.symm, by rw [hK.out.2]; omega, by omega⟩
  case rest =>
    obtain ⟨rfl, L', ax', hX, hE, hax, hL1, hL2⟩ := hcut
    clear k0 k1 k2 f1 f2 hX8 H8 hW8
    have k3 : wc.cell? ⟨xb, 3, none⟩ = some (.int .i64 ms) := hX.cell 3
    have hEd := hE.drew
    have hXd : Blk wc.drew xb 45 #[.string s, .int .i64 L', .int .i64 ax', .int .i64 ms, .int .i64 0, .int .i64 gd, .bool gt, .string q] := hX
    have hgs : (some xb : Option Nat) ≠ some g := fun e => hgxb (Option.some.inj e).symm
    have Hax := Lib.hid hax
    have HLs := Lib.hid (And.intro hL1 hL2)
    clear hax hL1 hL2
    go_wp2_with fail
    go_region_with (go_at_call 16
                    with_reducible refine (next_c B g (c + 16) 5 _ hEd.mkr (by omega) (by omega) (by omega)).mono ?_
                    rintro e w9 ⟨y, hyy0, hyy1, rfl, m9, hg9⟩
                    have hX9 := hXd.grown hg9 hgs
                    have k3' := hX9.cell 3
                    have k4' := hX9.cell 4
                    have f4' := hX9.frozen 4
                    simp only [List.getElem?_toArray, List.getElem?_cons_zero, List.getElem?_cons_succ] at k3' k4'
                    have hmul : 0 ≤ ms * y ∧ ms * y ≤ ms * 4 := ⟨Int.mul_nonneg (by omega) hyy0, Int.mul_le_mul_of_nonneg_left (by omega) (by omega)⟩
                    have hwm : IntKind.i64.wrap (ms * y) = ms * y := IntWalk.i64_in _ ⟨by omega, by omega⟩
                    obtain ⟨br, hbr⟩ : ∃ br, (ms * y).tdiv 4 = br := ⟨_, rfl⟩
                    have hbr2 : 0 ≤ br ∧ br ≤ ms := by rw [← hbr, Int.tdiv_eq_ediv_of_nonneg hmul.1]; omega
                    have hwb : IntKind.i64.wrap br = br := IntWalk.i64_in _ ⟨by omega, by omega⟩)
    all_goals
      have HQ0 : WagMade i ⟨s, L', ax', ms, br, gd, gt, q⟩ := ⟨by
        rw [Fn.wErr_end (x := ⟨s, L', ax', ms, br, gd, gt, q⟩) HNu.out.1 Hax.out ⟨HLs.out.1, HLs.out.2, by simp only; omega, by simp only; omega, by simp only; omega, by simp only; omega, by simp only; omega, by simp only; omega⟩, if_neg (by simp only; rw [Hq.out]; decide)], HNu.out⟩
      have hE9 := (hEd.step hgw m9 hg9).setX hwxb hgw 4 (.int .i64 br)
      have hXf : Blk (w9.setCell ⟨xb, 4, none⟩ (.int .i64 br)) xb 45 #[.string s, .int .i64 L', .int .i64 ax', .int .i64 ms, .int .i64 br, .int .i64 gd, .bool gt, .string q] := hX9.set_ 4 _
      obtain ⟨W10, hW10⟩ : ∃ W10, w9.setCell ⟨xb, 4, none⟩ (.int .i64 br) = W10 := ⟨_, rfl⟩
      rw [hW10] at hE9 hXf ⊢
      have HQ := Lib.hid (gwag_end (i := i) (c0 := c) hE9 hgw ⟨s, L', ax', ms, br, gd, gt, q⟩ HQ0 (by omega))
      have hR := hE9.blk
      have y0 : W10.cell? ⟨xb, 0, none⟩ = some (.string s) := hXf.cell 0
      have y1 : W10.cell? ⟨xb, 1, none⟩ = some (.int .i64 L') := hXf.cell 1
      have y2 : W10.cell? ⟨xb, 2, none⟩ = some (.int .i64 ax') := hXf.cell 2
      have y3 : W10.cell? ⟨xb, 3, none⟩ = some (.int .i64 ms) := hXf.cell 3
      have y4 : W10.cell? ⟨xb, 4, none⟩ = some (.int .i64 br) := hXf.cell 4
      have y5 : W10.cell? ⟨xb, 5, none⟩ = some (.int .i64 gd) := hXf.cell 5
      have y6 : W10.cell? ⟨xb, 6, none⟩ = some (.bool gt) := hXf.cell 6
      have y7 : W10.cell? ⟨xb, 7, none⟩ = some (.string q) := hXf.cell 7
      have r0 : W10.cell? ⟨w.heap.size, 0, none⟩ = some (.string ⟨#[]⟩) := hR.cell 0
      have z0 : W10.frozen? ⟨w.heap.size, 0, none⟩ = false := hR.frozen 0
      have r1 : W10.cell? ⟨w.heap.size, 1, none⟩ = some (.int .i64 0) := hR.cell 1
      have z1 : W10.frozen? ⟨w.heap.size, 1, none⟩ = false := hR.frozen 1
      have r2 : W10.cell? ⟨w.heap.size, 2, none⟩ = some (.int .i64 0) := hR.cell 2
      have z2 : W10.frozen? ⟨w.heap.size, 2, none⟩ = false := hR.frozen 2
      have r3 : W10.cell? ⟨w.heap.size, 3, none⟩ = some (.int .i64 0) := hR.cell 3
      have z3 : W10.frozen? ⟨w.heap.size, 3, none⟩ = false := hR.frozen 3
      have r4 : W10.cell? ⟨w.heap.size, 4, none⟩ = some (.int .i64 0) := hR.cell 4
      have z4 : W10.frozen? ⟨w.heap.size, 4, none⟩ = false := hR.frozen 4
      have r5 : W10.cell? ⟨w.heap.size, 5, none⟩ = some (.int .i64 0) := hR.cell 5
      have z5 : W10.frozen? ⟨w.heap.size, 5, none⟩ = false := hR.frozen 5
      have r6 : W10.cell? ⟨w.heap.size, 6, none⟩ = some (.bool false) := hR.cell 6
      have z6 : W10.frozen? ⟨w.heap.size, 6, none⟩ = false := hR.frozen 6
      have r7 : W10.cell? ⟨w.heap.size, 7, none⟩ = some (.string ⟨#[]⟩) := hR.cell 7
      have z7 : W10.frozen? ⟨w.heap.size, 7, none⟩ = false := hR.frozen 7
      clear hX9 hXd hX hE hEd hE9 m9 hg9 k3 k3' k4' f4' hXf hR HQ0 hW10
      go_wp2_with fail
      obtain ⟨hB, hEE⟩ := HQ.out
      change bodyPost _ _ _ _ _ (storeW W10 w.heap.size ⟨s, L', ax', ms, br, gd, gt, q⟩)
      generalize storeW W10 w.heap.size ⟨s, L', ax', ms, br, gd, gt, q⟩ = WW at hB hEE ⊢
      have q0 : WW.cell? ⟨w.heap.size, 0, none⟩ = some (.string s) := hB.cell 0
      have q1 : WW.cell? ⟨w.heap.size, 1, none⟩ = some (.int .i64 L') := hB.cell 1
      have q2 : WW.cell? ⟨w.heap.size, 2, none⟩ = some (.int .i64 ax') := hB.cell 2
      have q3 : WW.cell? ⟨w.heap.size, 3, none⟩ = some (.int .i64 ms) := hB.cell 3
      have q4 : WW.cell? ⟨w.heap.size, 4, none⟩ = some (.int .i64 br) := hB.cell 4
      have q5 : WW.cell? ⟨w.heap.size, 5, none⟩ = some (.int .i64 gd) := hB.cell 5
      have q6 : WW.cell? ⟨w.heap.size, 6, none⟩ = some (.bool gt) := hB.cell 6
      have q7 : WW.cell? ⟨w.heap.size, 7, none⟩ = some (.string q) := hB.cell 7
      exact bodyPost_ret (v := wgV ⟨s, L', ax', ms, br, gd, gt, q⟩) (by simp [results, wgV, Tryz.results17, go_sem, q0, q1, q2, q3, q4, q5, q6, q7]) rfl hEE
end Go.Proofs.YtocohkgdkebmdaaGreat
namespace Go.Proofs.YtocohkgdkebmdaaGreat
open Go.RowKit
namespace Fn
end Fn
theorem sl80 : SlT Tryz.prog 25 45 8 80 := slT_of (z := .agg #[.string ⟨#[]⟩, .int .i64 0, .int .i64 0, .int .i64 0, .int .i64 0, .int .i64 0, .bool false, .string ⟨#[]⟩]) Tryz.underlying25 (by kernel_rfl) (by rfl) (by omega)
def GWsI (B : Nat) (w : World) (g c q : Nat) (vl vi : Value) (wr : World) : Prop := ∃ (l : List WG) (i c' : Nat), i + l.length = q ∧ vi = .int .i64 (i : Int) ∧ wr.ownsRow w.heap.size 45 8 vl l.length (flatW l) ∧ Hid (∀ j x, l[j]? = some x → WagMade j x) ∧ c' ≤ c + 1 + 17 * l.length ∧ Mk B wr g c' ∧ w.grownBy wr (some g)
def GWagsR (B : Nat) (w : World) (g c n : Nat) (e : Ending) (w' : World) : Prop := ∃ (l : List WG) (v : Value) (c' : Nat), e = .returned v ∧ w'.ownsRow w.heap.size 45 8 v l.length (flatW l) ∧ l.length ≤ n ∧ Hid (∀ j x, l[j]? = some x → WagMade j x) ∧ c' ≤ c + 1 + 17 * n ∧ Mk B w' g c' ∧ w.grownBy w' (some g)
set_option maxRecDepth 100000 in
set_option maxHeartbeats 8000000 in
theorem gwagons_c (B g c n : Nat) (w : World) (h : Mk B w g c) (hc : c ≤ 1152921504606800000) (hn : n ≤ 96) (hB : B ≤ w.heap.size) :
    Calls Tryz.prog 5 #[.pointer (some ⟨g, 0, none⟩), .int .i64 (n : Int)] w (GWagsR B w g c n) := by
  have hgw := h.lt
  go_enter Tryz.func5, Tryz.ntmps5
  go_wp2_with fail
  refine (next_c B g c ((n : Int) + 1) w h (by omega) (by omega) (by omega)).mono ?_
  rintro e w1 ⟨y, hy0, hy1, rfl, hm1, hg1⟩
  obtain ⟨q, rfl⟩ := Int.eq_ofNat_of_zero_le hy0
  have hqn : q ≤ n := by omega
  clear hy0 hy1
  go_wp2_with fail
  go_loopw [5, 6] (fun vl vi wr => GWsI B w g c q vl vi wr) (fun _ vi _ => (intOf vi).toNat)
  case atStart => exact (show GWsI _ _ _ _ _ _ _ _ from ⟨[], q, c + 1, by simp, rfl, World.ownsRow_nil _ _ _ _, Lib.hid (fun j x hx => by simp at hx), by omega, hm1, hg1⟩)
  case round =>
    obtain ⟨l, i, c', hil, rfl, own, HL, hc', hmk, hgr⟩ := hrel
    clear hm1 hg1
    obtain ⟨Al, cl, rfl, hcl1, hcl2⟩ := own_form own
    by_cases hi0 : 0 < i
    · have d0 : decide ((0 : Int) < (i : Int)) = true := decide_eq_true (by omega)
      have d0' : decide (0 < i) = true := decide_eq_true hi0
      have hgl := hmk.lt
      have hle := hgr.size
      go_wp2_with fail
      refine (gwagon_c B g c' l.length wr hmk (by omega) (by omega)).mono ?_
      rintro e w2 ⟨x, c2, rfl, hx, hc2, hm2, hg2⟩
      have hge := own_ge own
      have hnb : (Value.slice Al l.length cl).ownBlock ≠ some g := fun e => by have := hge _ e; omega
      have own2 := own.kept hg2 (.inr hnb)
      have hgr2 := hgr.trans hg2
      have hle2 := hgr2.size
      have hl80 : (l.length + 1) * 80 ≤ 140737488355328 := by omega
      have HL2 : Hid (∀ j y, (l ++ [x])[j]? = some y → WagMade j y) := Lib.hid (fun j y hy => by
        rcases Nat.lt_or_ge j l.length with h' | h'
        · rw [List.getElem?_append_left h'] at hy
          exact HL.out j y hy
        · rw [List.getElem?_append_right h'] at hy
          have hj : j - l.length = 0 := by have := (List.getElem?_eq_some_iff.1 hy).1; simp at this; omega
          rw [hj] at hy
          obtain rfl := Option.some.inj hy
          obtain rfl : j = l.length := by omega
          exact hx)
      clear hx hmk hgr
      unfold wgV
      go_wp2_with (at_builtin
                   go_must (
                   refine wpList_push sl80 rfl (.tmp 15) (.tmp 20) rfl w.heap.size _ _ _ rfl own2 1 1 rfl rfl rfl (by simp only [maxLen]; omega) hl80 hle2 ?_
                   intro v' w5 own5 hgw5
                   have hm5 := hm2.grown hgw5.grown hnb (fun b e => by have := hge b e; omega)
                   have hg5 := grown_then' hgr2 hgw5.grown (fun b e => .inr (hge b e))))
      go_roundw
      case rel => exact (show GWsI _ _ _ _ _ _ _ _ from ⟨l ++ [x], i - 1, c2, by simp; omega, by go_num, by rw [List.length_append, flatW_snoc]; exact own5, HL2, by simp; omega, hm5, hg5⟩)
      case measure => simp [intOf]; omega
    · have d0 : decide ((0 : Int) < (i : Int)) = false := decide_eq_false (by omega)
      have d0' : decide (0 < i) = false := decide_eq_false hi0
      go_wp2_with fail
      go_ret
      exact (show GWagsR _ _ _ _ _ _ _ from ⟨l, _, c', rfl, own, by omega, HL, by omega, hmk, hgr⟩)
end Go.Proofs.YtocohkgdkebmdaaGreat
