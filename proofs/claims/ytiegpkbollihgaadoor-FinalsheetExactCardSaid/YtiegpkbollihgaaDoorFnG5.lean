/- The walk of humpgen's SpoilWagon. -/
import Derived.Test.YtiegpkbollihgaaDoorFnG3
namespace Go.Proofs.YtiegpkbollihgaaDoor
open Go.RowKit
/-- The maker, the wagon's box, the result's block as it was made. -/
structure SW (B : Nat) (w : World) (g c : Nat) (x : WG) (W : World) : Prop where
  mkr : Mk B W g c
  box : Blk W w.heap.size 34 #[.string x.nu, .int .i64 x.len, .int .i64 x.ax, .int .i64 x.ms, .int .i64 x.br, .int .i64 x.gd, .bool x.gt, .string x.de]
  res : Blk W (w.heap.size + 1) 34 #[.string ⟨#[]⟩, .int .i64 0, .int .i64 0, .int .i64 0, .int .i64 0, .int .i64 0, .bool false, .string ⟨#[]⟩]
  gr : w.grownBy W (some g)
section
variable {B : Nat} {w W W' : World} {g c c' : Nat} {x : WG}
theorem SW.step (h : SW B w g c x W) (hgw : g < w.heap.size) (m : Mk B W' g c') (hg : W.grownBy W' (some g)) : SW B w g c' x W' := ⟨m, h.box.grown hg (fun e => by have := Option.some.inj e; omega), h.res.grown hg (fun e => by have := Option.some.inj e; omega), h.gr.trans hg⟩
theorem SW.alloc (h : SW B w g c x W) (o : Obj) : SW B w g c x (W.alloc o) := ⟨h.mkr.alloc o, h.box.alloc o, h.res.alloc o, h.gr.trans (World.grownBy_alloc W o (some g))⟩
end
def SpWR (B : Nat) (w : World) (g c : Nat) (x : WG) (e : Ending) (w' : World) : Prop := ∃ y c', e = .returned (wgV y) ∧ (y.nu.size ≤ x.nu.size + 1 ∧ y.de.size ≤ x.de.size + 13) ∧ c' ≤ c + 5 ∧ Mk B w' g c' ∧ w.grownBy w' (some g)
theorem spw_end {B : Nat} {w W : World} {g c c0 : Nat} {x : WG} (m : Mk B W g c) (hr : Blk W (w.heap.size + 1) 34 #[.string ⟨#[]⟩, .int .i64 0, .int .i64 0, .int .i64 0, .int .i64 0, .int .i64 0, .bool false, .string ⟨#[]⟩]) (hgr : w.grownBy W (some g)) (hgw : g < w.heap.size) (y : WG) (hy : y.nu.size ≤ x.nu.size + 1 ∧ y.de.size ≤ x.de.size + 13) (hc : c ≤ c0 + 5) :
    Blk (storeW W (w.heap.size + 1) y) (w.heap.size + 1) 34 #[.string y.nu, .int .i64 y.len, .int .i64 y.ax, .int .i64 y.ms, .int .i64 y.br, .int .i64 y.gd, .bool y.gt, .string y.de] ∧ SpWR B w g c0 x (.returned (wgV y)) (storeW W (w.heap.size + 1) y) := by
  have hb := storeW_blk y hr
  have hg := storeW_grown W (w.heap.size + 1) y
  refine ⟨hb, y, c, rfl, hy, hc, m.grown hg (fun e => by have := Option.some.inj e; omega) (fun b e => ?_), grown_then' hgr hg (fun b e => .inr (by have := Option.some.inj e; omega))⟩
  have h1 := m.ge
  have h2 := Option.some.inj e
  omega
theorem five_cell {W : World} {b : Nat} {e : TypeId} (h : Blk W b e #[.string ⟨#[]⟩, .string ⟨#[65]⟩, .string ⟨#[97, 32, 98]⟩, .string ⟨#[97, 98, 99, 100, 101, 102, 103, 104, 105, 106, 107, 108, 109]⟩, .string ⟨#[45]⟩]) {y : Nat} (hy : y < 5) : ∃ q : ByteArray, q.size ≤ 13 ∧ W.cell? ⟨b, y, none⟩ = some (.string q) := by
  have hh : y = 0 ∨ y = 1 ∨ y = 2 ∨ y = 3 ∨ y = 4 := by omega
  rcases hh with rfl | rfl | rfl | rfl | rfl
  · exact ⟨_, by decide, h.cell 0⟩
  · exact ⟨_, by decide, h.cell 1⟩
  · exact ⟨_, by decide, h.cell 2⟩
  · exact ⟨_, by decide, h.cell 3⟩
  · exact ⟨_, by decide, h.cell 4⟩
set_option maxRecDepth 100000 in
set_option maxHeartbeats 16000000 in
theorem gspoilw_c (B g c : Nat) (x : WG) (w : World) (h : Mk B w g c) (hc : c ≤ 1152921504606840000) (hx : x.nu.size ≤ 1000) (hms : -1000000 ≤ x.ms ∧ x.ms ≤ 1000000) :
    Calls Tryd.prog 10 #[.pointer (some ⟨g, 0, none⟩), wgV x] w (SpWR B w g c x) := by
  have hgw := h.lt
  have H0 : SW B w g c x ((w.alloc (.cells #[.string x.nu, .int .i64 x.len, .int .i64 x.ax, .int .i64 x.ms, .int .i64 x.br, .int .i64 x.gd, .bool x.gt, .string x.de] 34)).alloc (.cells #[.string ⟨#[]⟩, .int .i64 0, .int .i64 0, .int .i64 0, .int .i64 0, .int .i64 0, .bool false, .string ⟨#[]⟩] 34)) := ⟨(h.alloc _).alloc _, (Blk.new w _ _).alloc _, by
    have := Blk.new (w.alloc (.cells #[.string x.nu, .int .i64 x.len, .int .i64 x.ax, .int .i64 x.ms, .int .i64 x.br, .int .i64 x.gd, .bool x.gt, .string x.de] 34)) 34 #[.string ⟨#[]⟩, .int .i64 0, .int .i64 0, .int .i64 0, .int .i64 0, .int .i64 0, .bool false, .string ⟨#[]⟩]
    rwa [show (w.alloc (.cells #[.string x.nu, .int .i64 x.len, .int .i64 x.ax, .int .i64 x.ms, .int .i64 x.br, .int .i64 x.gd, .bool x.gt, .string x.de] 34)).heap.size = w.heap.size + 1 by simp] at this, (World.grownBy_alloc w _ (some g)).trans (World.grownBy_alloc _ _ (some g))⟩
  obtain ⟨W0, hW0⟩ : ∃ W0, (w.alloc (.cells #[.string x.nu, .int .i64 x.len, .int .i64 x.ax, .int .i64 x.ms, .int .i64 x.br, .int .i64 x.gd, .bool x.gt, .string x.de] 34)).alloc (.cells #[.string ⟨#[]⟩, .int .i64 0, .int .i64 0, .int .i64 0, .int .i64 0, .int .i64 0, .bool false, .string ⟨#[]⟩] 34) = W0 := ⟨_, rfl⟩
  rw [hW0] at H0
  go_enter Tryd.func10, Tryd.ntmps10
  unfold wgV
  go_wp2_with fail
  refine (next_c B g c 8 W0 H0.mkr (by omega) (by omega) (by omega)).mono ?_
  rintro e W1 ⟨y, hy0, hy1, rfl, m1, hg1⟩
  have H1 := H0.step hgw m1 hg1
  have hgb : g ≠ w.heap.size := by omega
  clear m1 hg1 H0 hW0
  have b0 : W1.cell? ⟨w.heap.size, 0, none⟩ = some (.string x.nu) := H1.box.cell 0
  have b3 : W1.cell? ⟨w.heap.size, 3, none⟩ = some (.int .i64 x.ms) := H1.box.cell 3
  have hyy : y = 0 ∨ y = 1 ∨ y = 2 ∨ y = 3 ∨ y = 4 ∨ y = 5 ∨ y = 6 ∨ y = 7 := by omega
  rcases hyy with rfl | rfl | rfl | rfl | rfl | rfl | rfl | rfl
  · go_wp2_with fail
    refine (spoil_c B g (c + 1) x.nu W1 H1.mkr (by omega) (by omega)).mono ?_
    rintro e W2 ⟨s, c', rfl, hsz, hcc, m2, hg2⟩
    have H2 := H1.step hgw m2 hg2
    clear m2 hg2
    have ff : W2.frozen? ⟨w.heap.size, 0, none⟩ = false := H2.box.frozen 0
    have yy : W2.cell? ⟨w.heap.size, 0, none⟩ = some (.string x.nu) := H2.box.cell 0
    obtain ⟨W9, hW9⟩ : ∃ W9, W2.setCell ⟨w.heap.size, 0, none⟩ (.string s) = W9 := ⟨_, rfl⟩
    have hgs := World.grownBy_set W2 w.heap.size 0 (.string s)
    have hbx : Blk W9 w.heap.size 34 #[.string s, .int .i64 x.len, .int .i64 x.ax, .int .i64 x.ms, .int .i64 x.br, .int .i64 x.gd, .bool x.gt, .string x.de] := by rw [← hW9]; exact H2.box.set_ 0 _
    have hrs : Blk W9 (w.heap.size + 1) 34 #[.string ⟨#[]⟩, .int .i64 0, .int .i64 0, .int .i64 0, .int .i64 0, .int .i64 0, .bool false, .string ⟨#[]⟩] := by rw [← hW9]; exact H2.res.grown hgs (fun e => by have := Option.some.inj e; omega)
    have hmk := H2.mkr.grown hgs (fun e => by have := Option.some.inj e; omega) (fun b e => by have := Option.some.inj e; have := H2.mkr.ge; omega)
    have hgr := grown_then' H2.gr hgs (fun b e => .inr (by have := Option.some.inj e; omega))
    rw [hW9] at hmk hgr
    clear H2 H1
    have HQ := Lib.hid (spw_end (x := x) (c0 := c) hmk hrs hgr hgw ⟨s, x.len, x.ax, x.ms, x.br, x.gd, x.gt, x.de⟩ (⟨by simp only; omega, by simp only; omega⟩) (by omega))
    have y0 : W9.cell? ⟨w.heap.size, 0, none⟩ = some (.string s) := hbx.cell 0
    have y1 : W9.cell? ⟨w.heap.size, 1, none⟩ = some (.int .i64 x.len) := hbx.cell 1
    have y2 : W9.cell? ⟨w.heap.size, 2, none⟩ = some (.int .i64 x.ax) := hbx.cell 2
    have y3 : W9.cell? ⟨w.heap.size, 3, none⟩ = some (.int .i64 x.ms) := hbx.cell 3
    have y4 : W9.cell? ⟨w.heap.size, 4, none⟩ = some (.int .i64 x.br) := hbx.cell 4
    have y5 : W9.cell? ⟨w.heap.size, 5, none⟩ = some (.int .i64 x.gd) := hbx.cell 5
    have y6 : W9.cell? ⟨w.heap.size, 6, none⟩ = some (.bool x.gt) := hbx.cell 6
    have y7 : W9.cell? ⟨w.heap.size, 7, none⟩ = some (.string x.de) := hbx.cell 7
    have r0 : W9.cell? ⟨w.heap.size + 1, 0, none⟩ = some (.string ⟨#[]⟩) := hrs.cell 0
    have z0 : W9.frozen? ⟨w.heap.size + 1, 0, none⟩ = false := hrs.frozen 0
    have r1 : W9.cell? ⟨w.heap.size + 1, 1, none⟩ = some (.int .i64 0) := hrs.cell 1
    have z1 : W9.frozen? ⟨w.heap.size + 1, 1, none⟩ = false := hrs.frozen 1
    have r2 : W9.cell? ⟨w.heap.size + 1, 2, none⟩ = some (.int .i64 0) := hrs.cell 2
    have z2 : W9.frozen? ⟨w.heap.size + 1, 2, none⟩ = false := hrs.frozen 2
    have r3 : W9.cell? ⟨w.heap.size + 1, 3, none⟩ = some (.int .i64 0) := hrs.cell 3
    have z3 : W9.frozen? ⟨w.heap.size + 1, 3, none⟩ = false := hrs.frozen 3
    have r4 : W9.cell? ⟨w.heap.size + 1, 4, none⟩ = some (.int .i64 0) := hrs.cell 4
    have z4 : W9.frozen? ⟨w.heap.size + 1, 4, none⟩ = false := hrs.frozen 4
    have r5 : W9.cell? ⟨w.heap.size + 1, 5, none⟩ = some (.int .i64 0) := hrs.cell 5
    have z5 : W9.frozen? ⟨w.heap.size + 1, 5, none⟩ = false := hrs.frozen 5
    have r6 : W9.cell? ⟨w.heap.size + 1, 6, none⟩ = some (.bool false) := hrs.cell 6
    have z6 : W9.frozen? ⟨w.heap.size + 1, 6, none⟩ = false := hrs.frozen 6
    have r7 : W9.cell? ⟨w.heap.size + 1, 7, none⟩ = some (.string ⟨#[]⟩) := hrs.cell 7
    have z7 : W9.frozen? ⟨w.heap.size + 1, 7, none⟩ = false := hrs.frozen 7
    clear hmk hrs hgr hbx
    go_wp2_with fail
    obtain ⟨hB, hE⟩ := HQ.out
    change bodyPost _ _ _ _ _ (storeW W9 (w.heap.size + 1) ⟨s, x.len, x.ax, x.ms, x.br, x.gd, x.gt, x.de⟩)
    generalize storeW W9 (w.heap.size + 1) ⟨s, x.len, x.ax, x.ms, x.br, x.gd, x.gt, x.de⟩ = WW at hB hE ⊢
    have q0 : WW.cell? ⟨w.heap.size + 1, 0, none⟩ = some (.string s) := hB.cell 0
    have q1 : WW.cell? ⟨w.heap.size + 1, 1, none⟩ = some (.int .i64 x.len) := hB.cell 1
    have q2 : WW.cell? ⟨w.heap.size + 1, 2, none⟩ = some (.int .i64 x.ax) := hB.cell 2
    have q3 : WW.cell? ⟨w.heap.size + 1, 3, none⟩ = some (.int .i64 x.ms) := hB.cell 3
    have q4 : WW.cell? ⟨w.heap.size + 1, 4, none⟩ = some (.int .i64 x.br) := hB.cell 4
    have q5 : WW.cell? ⟨w.heap.size + 1, 5, none⟩ = some (.int .i64 x.gd) := hB.cell 5
    have q6 : WW.cell? ⟨w.heap.size + 1, 6, none⟩ = some (.bool x.gt) := hB.cell 6
    have q7 : WW.cell? ⟨w.heap.size + 1, 7, none⟩ = some (.string x.de) := hB.cell 7
    exact bodyPost_ret (v := wgV ⟨s, x.len, x.ax, x.ms, x.br, x.gd, x.gt, x.de⟩) (by simp [results, wgV, Tryd.results10, go_sem, q0, q1, q2, q3, q4, q5, q6, q7]) rfl hE
  · have hn : W1.heap.size ≠ g := by have := H1.mkr.lt; omega
    go_wp2_with fail
    refine (pick_c B g (c + 1) W1.heap.size 6 _ [0, 2, 4, 6, 8, -1] _ (H1.alloc _).mkr hn (by omega) (by omega) (by omega) (IR.new [0, 2, 4, 6, 8, -1] 6 rfl rfl (by decide))).mono ?_
    rintro e W2 ⟨v, _, rfl, m2, hg2⟩
    have H2 := (H1.alloc (.cells #[.int .i64 0, .int .i64 2, .int .i64 4, .int .i64 6, .int .i64 8, .int .i64 (-1)] 3)).step hgw m2 hg2
    clear m2 hg2
    have ff : W2.frozen? ⟨w.heap.size, 2, none⟩ = false := H2.box.frozen 2
    have yy : W2.cell? ⟨w.heap.size, 2, none⟩ = some (.int .i64 x.ax) := H2.box.cell 2
    obtain ⟨W9, hW9⟩ : ∃ W9, W2.setCell ⟨w.heap.size, 2, none⟩ (.int .i64 v) = W9 := ⟨_, rfl⟩
    have hgs := World.grownBy_set W2 w.heap.size 2 (.int .i64 v)
    have hbx : Blk W9 w.heap.size 34 #[.string x.nu, .int .i64 x.len, .int .i64 v, .int .i64 x.ms, .int .i64 x.br, .int .i64 x.gd, .bool x.gt, .string x.de] := by rw [← hW9]; exact H2.box.set_ 2 _
    have hrs : Blk W9 (w.heap.size + 1) 34 #[.string ⟨#[]⟩, .int .i64 0, .int .i64 0, .int .i64 0, .int .i64 0, .int .i64 0, .bool false, .string ⟨#[]⟩] := by rw [← hW9]; exact H2.res.grown hgs (fun e => by have := Option.some.inj e; omega)
    have hmk := H2.mkr.grown hgs (fun e => by have := Option.some.inj e; omega) (fun b e => by have := Option.some.inj e; have := H2.mkr.ge; omega)
    have hgr := grown_then' H2.gr hgs (fun b e => .inr (by have := Option.some.inj e; omega))
    rw [hW9] at hmk hgr
    clear H2 H1
    have HQ := Lib.hid (spw_end (x := x) (c0 := c) hmk hrs hgr hgw ⟨x.nu, x.len, v, x.ms, x.br, x.gd, x.gt, x.de⟩ (⟨by simp only; omega, by simp only; omega⟩) (by omega))
    have y0 : W9.cell? ⟨w.heap.size, 0, none⟩ = some (.string x.nu) := hbx.cell 0
    have y1 : W9.cell? ⟨w.heap.size, 1, none⟩ = some (.int .i64 x.len) := hbx.cell 1
    have y2 : W9.cell? ⟨w.heap.size, 2, none⟩ = some (.int .i64 v) := hbx.cell 2
    have y3 : W9.cell? ⟨w.heap.size, 3, none⟩ = some (.int .i64 x.ms) := hbx.cell 3
    have y4 : W9.cell? ⟨w.heap.size, 4, none⟩ = some (.int .i64 x.br) := hbx.cell 4
    have y5 : W9.cell? ⟨w.heap.size, 5, none⟩ = some (.int .i64 x.gd) := hbx.cell 5
    have y6 : W9.cell? ⟨w.heap.size, 6, none⟩ = some (.bool x.gt) := hbx.cell 6
    have y7 : W9.cell? ⟨w.heap.size, 7, none⟩ = some (.string x.de) := hbx.cell 7
    have r0 : W9.cell? ⟨w.heap.size + 1, 0, none⟩ = some (.string ⟨#[]⟩) := hrs.cell 0
    have z0 : W9.frozen? ⟨w.heap.size + 1, 0, none⟩ = false := hrs.frozen 0
    have r1 : W9.cell? ⟨w.heap.size + 1, 1, none⟩ = some (.int .i64 0) := hrs.cell 1
    have z1 : W9.frozen? ⟨w.heap.size + 1, 1, none⟩ = false := hrs.frozen 1
    have r2 : W9.cell? ⟨w.heap.size + 1, 2, none⟩ = some (.int .i64 0) := hrs.cell 2
    have z2 : W9.frozen? ⟨w.heap.size + 1, 2, none⟩ = false := hrs.frozen 2
    have r3 : W9.cell? ⟨w.heap.size + 1, 3, none⟩ = some (.int .i64 0) := hrs.cell 3
    have z3 : W9.frozen? ⟨w.heap.size + 1, 3, none⟩ = false := hrs.frozen 3
    have r4 : W9.cell? ⟨w.heap.size + 1, 4, none⟩ = some (.int .i64 0) := hrs.cell 4
    have z4 : W9.frozen? ⟨w.heap.size + 1, 4, none⟩ = false := hrs.frozen 4
    have r5 : W9.cell? ⟨w.heap.size + 1, 5, none⟩ = some (.int .i64 0) := hrs.cell 5
    have z5 : W9.frozen? ⟨w.heap.size + 1, 5, none⟩ = false := hrs.frozen 5
    have r6 : W9.cell? ⟨w.heap.size + 1, 6, none⟩ = some (.bool false) := hrs.cell 6
    have z6 : W9.frozen? ⟨w.heap.size + 1, 6, none⟩ = false := hrs.frozen 6
    have r7 : W9.cell? ⟨w.heap.size + 1, 7, none⟩ = some (.string ⟨#[]⟩) := hrs.cell 7
    have z7 : W9.frozen? ⟨w.heap.size + 1, 7, none⟩ = false := hrs.frozen 7
    clear hmk hrs hgr hbx
    go_wp2_with fail
    obtain ⟨hB, hE⟩ := HQ.out
    change bodyPost _ _ _ _ _ (storeW W9 (w.heap.size + 1) ⟨x.nu, x.len, v, x.ms, x.br, x.gd, x.gt, x.de⟩)
    generalize storeW W9 (w.heap.size + 1) ⟨x.nu, x.len, v, x.ms, x.br, x.gd, x.gt, x.de⟩ = WW at hB hE ⊢
    have q0 : WW.cell? ⟨w.heap.size + 1, 0, none⟩ = some (.string x.nu) := hB.cell 0
    have q1 : WW.cell? ⟨w.heap.size + 1, 1, none⟩ = some (.int .i64 x.len) := hB.cell 1
    have q2 : WW.cell? ⟨w.heap.size + 1, 2, none⟩ = some (.int .i64 v) := hB.cell 2
    have q3 : WW.cell? ⟨w.heap.size + 1, 3, none⟩ = some (.int .i64 x.ms) := hB.cell 3
    have q4 : WW.cell? ⟨w.heap.size + 1, 4, none⟩ = some (.int .i64 x.br) := hB.cell 4
    have q5 : WW.cell? ⟨w.heap.size + 1, 5, none⟩ = some (.int .i64 x.gd) := hB.cell 5
    have q6 : WW.cell? ⟨w.heap.size + 1, 6, none⟩ = some (.bool x.gt) := hB.cell 6
    have q7 : WW.cell? ⟨w.heap.size + 1, 7, none⟩ = some (.string x.de) := hB.cell 7
    exact bodyPost_ret (v := wgV ⟨x.nu, x.len, v, x.ms, x.br, x.gd, x.gt, x.de⟩) (by simp [results, wgV, Tryd.results10, go_sem, q0, q1, q2, q3, q4, q5, q6, q7]) rfl hE
  · have hn : W1.heap.size ≠ g := by have := H1.mkr.lt; omega
    go_wp2_with fail
    refine (pick_c B g (c + 1) W1.heap.size 6 _ [79, 80, 119, 401, 0, -5] _ (H1.alloc _).mkr hn (by omega) (by omega) (by omega) (IR.new [79, 80, 119, 401, 0, -5] 6 rfl rfl (by decide))).mono ?_
    rintro e W2 ⟨v, _, rfl, m2, hg2⟩
    have H2 := (H1.alloc (.cells #[.int .i64 79, .int .i64 80, .int .i64 119, .int .i64 401, .int .i64 0, .int .i64 (-5)] 3)).step hgw m2 hg2
    clear m2 hg2
    have ff : W2.frozen? ⟨w.heap.size, 1, none⟩ = false := H2.box.frozen 1
    have yy : W2.cell? ⟨w.heap.size, 1, none⟩ = some (.int .i64 x.len) := H2.box.cell 1
    obtain ⟨W9, hW9⟩ : ∃ W9, W2.setCell ⟨w.heap.size, 1, none⟩ (.int .i64 v) = W9 := ⟨_, rfl⟩
    have hgs := World.grownBy_set W2 w.heap.size 1 (.int .i64 v)
    have hbx : Blk W9 w.heap.size 34 #[.string x.nu, .int .i64 v, .int .i64 x.ax, .int .i64 x.ms, .int .i64 x.br, .int .i64 x.gd, .bool x.gt, .string x.de] := by rw [← hW9]; exact H2.box.set_ 1 _
    have hrs : Blk W9 (w.heap.size + 1) 34 #[.string ⟨#[]⟩, .int .i64 0, .int .i64 0, .int .i64 0, .int .i64 0, .int .i64 0, .bool false, .string ⟨#[]⟩] := by rw [← hW9]; exact H2.res.grown hgs (fun e => by have := Option.some.inj e; omega)
    have hmk := H2.mkr.grown hgs (fun e => by have := Option.some.inj e; omega) (fun b e => by have := Option.some.inj e; have := H2.mkr.ge; omega)
    have hgr := grown_then' H2.gr hgs (fun b e => .inr (by have := Option.some.inj e; omega))
    rw [hW9] at hmk hgr
    clear H2 H1
    have HQ := Lib.hid (spw_end (x := x) (c0 := c) hmk hrs hgr hgw ⟨x.nu, v, x.ax, x.ms, x.br, x.gd, x.gt, x.de⟩ (⟨by simp only; omega, by simp only; omega⟩) (by omega))
    have y0 : W9.cell? ⟨w.heap.size, 0, none⟩ = some (.string x.nu) := hbx.cell 0
    have y1 : W9.cell? ⟨w.heap.size, 1, none⟩ = some (.int .i64 v) := hbx.cell 1
    have y2 : W9.cell? ⟨w.heap.size, 2, none⟩ = some (.int .i64 x.ax) := hbx.cell 2
    have y3 : W9.cell? ⟨w.heap.size, 3, none⟩ = some (.int .i64 x.ms) := hbx.cell 3
    have y4 : W9.cell? ⟨w.heap.size, 4, none⟩ = some (.int .i64 x.br) := hbx.cell 4
    have y5 : W9.cell? ⟨w.heap.size, 5, none⟩ = some (.int .i64 x.gd) := hbx.cell 5
    have y6 : W9.cell? ⟨w.heap.size, 6, none⟩ = some (.bool x.gt) := hbx.cell 6
    have y7 : W9.cell? ⟨w.heap.size, 7, none⟩ = some (.string x.de) := hbx.cell 7
    have r0 : W9.cell? ⟨w.heap.size + 1, 0, none⟩ = some (.string ⟨#[]⟩) := hrs.cell 0
    have z0 : W9.frozen? ⟨w.heap.size + 1, 0, none⟩ = false := hrs.frozen 0
    have r1 : W9.cell? ⟨w.heap.size + 1, 1, none⟩ = some (.int .i64 0) := hrs.cell 1
    have z1 : W9.frozen? ⟨w.heap.size + 1, 1, none⟩ = false := hrs.frozen 1
    have r2 : W9.cell? ⟨w.heap.size + 1, 2, none⟩ = some (.int .i64 0) := hrs.cell 2
    have z2 : W9.frozen? ⟨w.heap.size + 1, 2, none⟩ = false := hrs.frozen 2
    have r3 : W9.cell? ⟨w.heap.size + 1, 3, none⟩ = some (.int .i64 0) := hrs.cell 3
    have z3 : W9.frozen? ⟨w.heap.size + 1, 3, none⟩ = false := hrs.frozen 3
    have r4 : W9.cell? ⟨w.heap.size + 1, 4, none⟩ = some (.int .i64 0) := hrs.cell 4
    have z4 : W9.frozen? ⟨w.heap.size + 1, 4, none⟩ = false := hrs.frozen 4
    have r5 : W9.cell? ⟨w.heap.size + 1, 5, none⟩ = some (.int .i64 0) := hrs.cell 5
    have z5 : W9.frozen? ⟨w.heap.size + 1, 5, none⟩ = false := hrs.frozen 5
    have r6 : W9.cell? ⟨w.heap.size + 1, 6, none⟩ = some (.bool false) := hrs.cell 6
    have z6 : W9.frozen? ⟨w.heap.size + 1, 6, none⟩ = false := hrs.frozen 6
    have r7 : W9.cell? ⟨w.heap.size + 1, 7, none⟩ = some (.string ⟨#[]⟩) := hrs.cell 7
    have z7 : W9.frozen? ⟨w.heap.size + 1, 7, none⟩ = false := hrs.frozen 7
    clear hmk hrs hgr hbx
    go_wp2_with fail
    obtain ⟨hB, hE⟩ := HQ.out
    change bodyPost _ _ _ _ _ (storeW W9 (w.heap.size + 1) ⟨x.nu, v, x.ax, x.ms, x.br, x.gd, x.gt, x.de⟩)
    generalize storeW W9 (w.heap.size + 1) ⟨x.nu, v, x.ax, x.ms, x.br, x.gd, x.gt, x.de⟩ = WW at hB hE ⊢
    have q0 : WW.cell? ⟨w.heap.size + 1, 0, none⟩ = some (.string x.nu) := hB.cell 0
    have q1 : WW.cell? ⟨w.heap.size + 1, 1, none⟩ = some (.int .i64 v) := hB.cell 1
    have q2 : WW.cell? ⟨w.heap.size + 1, 2, none⟩ = some (.int .i64 x.ax) := hB.cell 2
    have q3 : WW.cell? ⟨w.heap.size + 1, 3, none⟩ = some (.int .i64 x.ms) := hB.cell 3
    have q4 : WW.cell? ⟨w.heap.size + 1, 4, none⟩ = some (.int .i64 x.br) := hB.cell 4
    have q5 : WW.cell? ⟨w.heap.size + 1, 5, none⟩ = some (.int .i64 x.gd) := hB.cell 5
    have q6 : WW.cell? ⟨w.heap.size + 1, 6, none⟩ = some (.bool x.gt) := hB.cell 6
    have q7 : WW.cell? ⟨w.heap.size + 1, 7, none⟩ = some (.string x.de) := hB.cell 7
    exact bodyPost_ret (v := wgV ⟨x.nu, v, x.ax, x.ms, x.br, x.gd, x.gt, x.de⟩) (by simp [results, wgV, Tryd.results10, go_sem, q0, q1, q2, q3, q4, q5, q6, q7]) rfl hE
  · have hn : W1.heap.size ≠ g := by have := H1.mkr.lt; omega
    go_wp2_with fail
    refine (pick_c B g (c + 1) W1.heap.size 4 _ [49, 50, 2001, -1] _ (H1.alloc _).mkr hn (by omega) (by omega) (by omega) (IR.new [49, 50, 2001, -1] 4 rfl rfl (by decide))).mono ?_
    rintro e W2 ⟨v, _, rfl, m2, hg2⟩
    have H2 := (H1.alloc (.cells #[.int .i64 49, .int .i64 50, .int .i64 2001, .int .i64 (-1)] 3)).step hgw m2 hg2
    clear m2 hg2
    have ff : W2.frozen? ⟨w.heap.size, 3, none⟩ = false := H2.box.frozen 3
    have yy : W2.cell? ⟨w.heap.size, 3, none⟩ = some (.int .i64 x.ms) := H2.box.cell 3
    obtain ⟨W9, hW9⟩ : ∃ W9, W2.setCell ⟨w.heap.size, 3, none⟩ (.int .i64 v) = W9 := ⟨_, rfl⟩
    have hgs := World.grownBy_set W2 w.heap.size 3 (.int .i64 v)
    have hbx : Blk W9 w.heap.size 34 #[.string x.nu, .int .i64 x.len, .int .i64 x.ax, .int .i64 v, .int .i64 x.br, .int .i64 x.gd, .bool x.gt, .string x.de] := by rw [← hW9]; exact H2.box.set_ 3 _
    have hrs : Blk W9 (w.heap.size + 1) 34 #[.string ⟨#[]⟩, .int .i64 0, .int .i64 0, .int .i64 0, .int .i64 0, .int .i64 0, .bool false, .string ⟨#[]⟩] := by rw [← hW9]; exact H2.res.grown hgs (fun e => by have := Option.some.inj e; omega)
    have hmk := H2.mkr.grown hgs (fun e => by have := Option.some.inj e; omega) (fun b e => by have := Option.some.inj e; have := H2.mkr.ge; omega)
    have hgr := grown_then' H2.gr hgs (fun b e => .inr (by have := Option.some.inj e; omega))
    rw [hW9] at hmk hgr
    clear H2 H1
    have HQ := Lib.hid (spw_end (x := x) (c0 := c) hmk hrs hgr hgw ⟨x.nu, x.len, x.ax, v, x.br, x.gd, x.gt, x.de⟩ (⟨by simp only; omega, by simp only; omega⟩) (by omega))
    have y0 : W9.cell? ⟨w.heap.size, 0, none⟩ = some (.string x.nu) := hbx.cell 0
    have y1 : W9.cell? ⟨w.heap.size, 1, none⟩ = some (.int .i64 x.len) := hbx.cell 1
    have y2 : W9.cell? ⟨w.heap.size, 2, none⟩ = some (.int .i64 x.ax) := hbx.cell 2
    have y3 : W9.cell? ⟨w.heap.size, 3, none⟩ = some (.int .i64 v) := hbx.cell 3
    have y4 : W9.cell? ⟨w.heap.size, 4, none⟩ = some (.int .i64 x.br) := hbx.cell 4
    have y5 : W9.cell? ⟨w.heap.size, 5, none⟩ = some (.int .i64 x.gd) := hbx.cell 5
    have y6 : W9.cell? ⟨w.heap.size, 6, none⟩ = some (.bool x.gt) := hbx.cell 6
    have y7 : W9.cell? ⟨w.heap.size, 7, none⟩ = some (.string x.de) := hbx.cell 7
    have r0 : W9.cell? ⟨w.heap.size + 1, 0, none⟩ = some (.string ⟨#[]⟩) := hrs.cell 0
    have z0 : W9.frozen? ⟨w.heap.size + 1, 0, none⟩ = false := hrs.frozen 0
    have r1 : W9.cell? ⟨w.heap.size + 1, 1, none⟩ = some (.int .i64 0) := hrs.cell 1
    have z1 : W9.frozen? ⟨w.heap.size + 1, 1, none⟩ = false := hrs.frozen 1
    have r2 : W9.cell? ⟨w.heap.size + 1, 2, none⟩ = some (.int .i64 0) := hrs.cell 2
    have z2 : W9.frozen? ⟨w.heap.size + 1, 2, none⟩ = false := hrs.frozen 2
    have r3 : W9.cell? ⟨w.heap.size + 1, 3, none⟩ = some (.int .i64 0) := hrs.cell 3
    have z3 : W9.frozen? ⟨w.heap.size + 1, 3, none⟩ = false := hrs.frozen 3
    have r4 : W9.cell? ⟨w.heap.size + 1, 4, none⟩ = some (.int .i64 0) := hrs.cell 4
    have z4 : W9.frozen? ⟨w.heap.size + 1, 4, none⟩ = false := hrs.frozen 4
    have r5 : W9.cell? ⟨w.heap.size + 1, 5, none⟩ = some (.int .i64 0) := hrs.cell 5
    have z5 : W9.frozen? ⟨w.heap.size + 1, 5, none⟩ = false := hrs.frozen 5
    have r6 : W9.cell? ⟨w.heap.size + 1, 6, none⟩ = some (.bool false) := hrs.cell 6
    have z6 : W9.frozen? ⟨w.heap.size + 1, 6, none⟩ = false := hrs.frozen 6
    have r7 : W9.cell? ⟨w.heap.size + 1, 7, none⟩ = some (.string ⟨#[]⟩) := hrs.cell 7
    have z7 : W9.frozen? ⟨w.heap.size + 1, 7, none⟩ = false := hrs.frozen 7
    clear hmk hrs hgr hbx
    go_wp2_with fail
    obtain ⟨hB, hE⟩ := HQ.out
    change bodyPost _ _ _ _ _ (storeW W9 (w.heap.size + 1) ⟨x.nu, x.len, x.ax, v, x.br, x.gd, x.gt, x.de⟩)
    generalize storeW W9 (w.heap.size + 1) ⟨x.nu, x.len, x.ax, v, x.br, x.gd, x.gt, x.de⟩ = WW at hB hE ⊢
    have q0 : WW.cell? ⟨w.heap.size + 1, 0, none⟩ = some (.string x.nu) := hB.cell 0
    have q1 : WW.cell? ⟨w.heap.size + 1, 1, none⟩ = some (.int .i64 x.len) := hB.cell 1
    have q2 : WW.cell? ⟨w.heap.size + 1, 2, none⟩ = some (.int .i64 x.ax) := hB.cell 2
    have q3 : WW.cell? ⟨w.heap.size + 1, 3, none⟩ = some (.int .i64 v) := hB.cell 3
    have q4 : WW.cell? ⟨w.heap.size + 1, 4, none⟩ = some (.int .i64 x.br) := hB.cell 4
    have q5 : WW.cell? ⟨w.heap.size + 1, 5, none⟩ = some (.int .i64 x.gd) := hB.cell 5
    have q6 : WW.cell? ⟨w.heap.size + 1, 6, none⟩ = some (.bool x.gt) := hB.cell 6
    have q7 : WW.cell? ⟨w.heap.size + 1, 7, none⟩ = some (.string x.de) := hB.cell 7
    exact bodyPost_ret (v := wgV ⟨x.nu, x.len, x.ax, v, x.br, x.gd, x.gt, x.de⟩) (by simp [results, wgV, Tryd.results10, go_sem, q0, q1, q2, q3, q4, q5, q6, q7]) rfl hE
  · have hn : W1.heap.size ≠ g := by have := H1.mkr.lt; omega
    go_wp2_with fail
    refine (pick_c B g (c + 1) W1.heap.size 3 _ [-1, x.ms, x.ms + 1] _ (H1.alloc _).mkr hn (by omega) (by omega) (by omega) (IR.new [-1, x.ms, x.ms + 1] 3 rfl rfl (by decide))).mono ?_
    rintro e W2 ⟨v, _, rfl, m2, hg2⟩
    have H2 := (H1.alloc (.cells #[.int .i64 (-1), .int .i64 x.ms, .int .i64 (x.ms + 1)] 3)).step hgw m2 hg2
    clear m2 hg2
    have ff : W2.frozen? ⟨w.heap.size, 4, none⟩ = false := H2.box.frozen 4
    have yy : W2.cell? ⟨w.heap.size, 4, none⟩ = some (.int .i64 x.br) := H2.box.cell 4
    obtain ⟨W9, hW9⟩ : ∃ W9, W2.setCell ⟨w.heap.size, 4, none⟩ (.int .i64 v) = W9 := ⟨_, rfl⟩
    have hgs := World.grownBy_set W2 w.heap.size 4 (.int .i64 v)
    have hbx : Blk W9 w.heap.size 34 #[.string x.nu, .int .i64 x.len, .int .i64 x.ax, .int .i64 x.ms, .int .i64 v, .int .i64 x.gd, .bool x.gt, .string x.de] := by rw [← hW9]; exact H2.box.set_ 4 _
    have hrs : Blk W9 (w.heap.size + 1) 34 #[.string ⟨#[]⟩, .int .i64 0, .int .i64 0, .int .i64 0, .int .i64 0, .int .i64 0, .bool false, .string ⟨#[]⟩] := by rw [← hW9]; exact H2.res.grown hgs (fun e => by have := Option.some.inj e; omega)
    have hmk := H2.mkr.grown hgs (fun e => by have := Option.some.inj e; omega) (fun b e => by have := Option.some.inj e; have := H2.mkr.ge; omega)
    have hgr := grown_then' H2.gr hgs (fun b e => .inr (by have := Option.some.inj e; omega))
    rw [hW9] at hmk hgr
    clear H2 H1
    have HQ := Lib.hid (spw_end (x := x) (c0 := c) hmk hrs hgr hgw ⟨x.nu, x.len, x.ax, x.ms, v, x.gd, x.gt, x.de⟩ (⟨by simp only; omega, by simp only; omega⟩) (by omega))
    have y0 : W9.cell? ⟨w.heap.size, 0, none⟩ = some (.string x.nu) := hbx.cell 0
    have y1 : W9.cell? ⟨w.heap.size, 1, none⟩ = some (.int .i64 x.len) := hbx.cell 1
    have y2 : W9.cell? ⟨w.heap.size, 2, none⟩ = some (.int .i64 x.ax) := hbx.cell 2
    have y3 : W9.cell? ⟨w.heap.size, 3, none⟩ = some (.int .i64 x.ms) := hbx.cell 3
    have y4 : W9.cell? ⟨w.heap.size, 4, none⟩ = some (.int .i64 v) := hbx.cell 4
    have y5 : W9.cell? ⟨w.heap.size, 5, none⟩ = some (.int .i64 x.gd) := hbx.cell 5
    have y6 : W9.cell? ⟨w.heap.size, 6, none⟩ = some (.bool x.gt) := hbx.cell 6
    have y7 : W9.cell? ⟨w.heap.size, 7, none⟩ = some (.string x.de) := hbx.cell 7
    have r0 : W9.cell? ⟨w.heap.size + 1, 0, none⟩ = some (.string ⟨#[]⟩) := hrs.cell 0
    have z0 : W9.frozen? ⟨w.heap.size + 1, 0, none⟩ = false := hrs.frozen 0
    have r1 : W9.cell? ⟨w.heap.size + 1, 1, none⟩ = some (.int .i64 0) := hrs.cell 1
    have z1 : W9.frozen? ⟨w.heap.size + 1, 1, none⟩ = false := hrs.frozen 1
    have r2 : W9.cell? ⟨w.heap.size + 1, 2, none⟩ = some (.int .i64 0) := hrs.cell 2
    have z2 : W9.frozen? ⟨w.heap.size + 1, 2, none⟩ = false := hrs.frozen 2
    have r3 : W9.cell? ⟨w.heap.size + 1, 3, none⟩ = some (.int .i64 0) := hrs.cell 3
    have z3 : W9.frozen? ⟨w.heap.size + 1, 3, none⟩ = false := hrs.frozen 3
    have r4 : W9.cell? ⟨w.heap.size + 1, 4, none⟩ = some (.int .i64 0) := hrs.cell 4
    have z4 : W9.frozen? ⟨w.heap.size + 1, 4, none⟩ = false := hrs.frozen 4
    have r5 : W9.cell? ⟨w.heap.size + 1, 5, none⟩ = some (.int .i64 0) := hrs.cell 5
    have z5 : W9.frozen? ⟨w.heap.size + 1, 5, none⟩ = false := hrs.frozen 5
    have r6 : W9.cell? ⟨w.heap.size + 1, 6, none⟩ = some (.bool false) := hrs.cell 6
    have z6 : W9.frozen? ⟨w.heap.size + 1, 6, none⟩ = false := hrs.frozen 6
    have r7 : W9.cell? ⟨w.heap.size + 1, 7, none⟩ = some (.string ⟨#[]⟩) := hrs.cell 7
    have z7 : W9.frozen? ⟨w.heap.size + 1, 7, none⟩ = false := hrs.frozen 7
    clear hmk hrs hgr hbx
    go_wp2_with fail
    obtain ⟨hB, hE⟩ := HQ.out
    change bodyPost _ _ _ _ _ (storeW W9 (w.heap.size + 1) ⟨x.nu, x.len, x.ax, x.ms, v, x.gd, x.gt, x.de⟩)
    generalize storeW W9 (w.heap.size + 1) ⟨x.nu, x.len, x.ax, x.ms, v, x.gd, x.gt, x.de⟩ = WW at hB hE ⊢
    have q0 : WW.cell? ⟨w.heap.size + 1, 0, none⟩ = some (.string x.nu) := hB.cell 0
    have q1 : WW.cell? ⟨w.heap.size + 1, 1, none⟩ = some (.int .i64 x.len) := hB.cell 1
    have q2 : WW.cell? ⟨w.heap.size + 1, 2, none⟩ = some (.int .i64 x.ax) := hB.cell 2
    have q3 : WW.cell? ⟨w.heap.size + 1, 3, none⟩ = some (.int .i64 x.ms) := hB.cell 3
    have q4 : WW.cell? ⟨w.heap.size + 1, 4, none⟩ = some (.int .i64 v) := hB.cell 4
    have q5 : WW.cell? ⟨w.heap.size + 1, 5, none⟩ = some (.int .i64 x.gd) := hB.cell 5
    have q6 : WW.cell? ⟨w.heap.size + 1, 6, none⟩ = some (.bool x.gt) := hB.cell 6
    have q7 : WW.cell? ⟨w.heap.size + 1, 7, none⟩ = some (.string x.de) := hB.cell 7
    exact bodyPost_ret (v := wgV ⟨x.nu, x.len, x.ax, x.ms, v, x.gd, x.gt, x.de⟩) (by simp [results, wgV, Tryd.results10, go_sem, q0, q1, q2, q3, q4, q5, q6, q7]) rfl hE
  · have hn : W1.heap.size ≠ g := by have := H1.mkr.lt; omega
    go_wp2_with fail
    refine (pick_c B g (c + 1) W1.heap.size 3 _ [-1, 9, 10] _ (H1.alloc _).mkr hn (by omega) (by omega) (by omega) (IR.new [-1, 9, 10] 3 rfl rfl (by decide))).mono ?_
    rintro e W2 ⟨v, _, rfl, m2, hg2⟩
    have H2 := (H1.alloc (.cells #[.int .i64 (-1), .int .i64 9, .int .i64 10] 3)).step hgw m2 hg2
    clear m2 hg2
    have ff : W2.frozen? ⟨w.heap.size, 5, none⟩ = false := H2.box.frozen 5
    have yy : W2.cell? ⟨w.heap.size, 5, none⟩ = some (.int .i64 x.gd) := H2.box.cell 5
    obtain ⟨W9, hW9⟩ : ∃ W9, W2.setCell ⟨w.heap.size, 5, none⟩ (.int .i64 v) = W9 := ⟨_, rfl⟩
    have hgs := World.grownBy_set W2 w.heap.size 5 (.int .i64 v)
    have hbx : Blk W9 w.heap.size 34 #[.string x.nu, .int .i64 x.len, .int .i64 x.ax, .int .i64 x.ms, .int .i64 x.br, .int .i64 v, .bool x.gt, .string x.de] := by rw [← hW9]; exact H2.box.set_ 5 _
    have hrs : Blk W9 (w.heap.size + 1) 34 #[.string ⟨#[]⟩, .int .i64 0, .int .i64 0, .int .i64 0, .int .i64 0, .int .i64 0, .bool false, .string ⟨#[]⟩] := by rw [← hW9]; exact H2.res.grown hgs (fun e => by have := Option.some.inj e; omega)
    have hmk := H2.mkr.grown hgs (fun e => by have := Option.some.inj e; omega) (fun b e => by have := Option.some.inj e; have := H2.mkr.ge; omega)
    have hgr := grown_then' H2.gr hgs (fun b e => .inr (by have := Option.some.inj e; omega))
    rw [hW9] at hmk hgr
    clear H2 H1
    have HQ := Lib.hid (spw_end (x := x) (c0 := c) hmk hrs hgr hgw ⟨x.nu, x.len, x.ax, x.ms, x.br, v, x.gt, x.de⟩ (⟨by simp only; omega, by simp only; omega⟩) (by omega))
    have y0 : W9.cell? ⟨w.heap.size, 0, none⟩ = some (.string x.nu) := hbx.cell 0
    have y1 : W9.cell? ⟨w.heap.size, 1, none⟩ = some (.int .i64 x.len) := hbx.cell 1
    have y2 : W9.cell? ⟨w.heap.size, 2, none⟩ = some (.int .i64 x.ax) := hbx.cell 2
    have y3 : W9.cell? ⟨w.heap.size, 3, none⟩ = some (.int .i64 x.ms) := hbx.cell 3
    have y4 : W9.cell? ⟨w.heap.size, 4, none⟩ = some (.int .i64 x.br) := hbx.cell 4
    have y5 : W9.cell? ⟨w.heap.size, 5, none⟩ = some (.int .i64 v) := hbx.cell 5
    have y6 : W9.cell? ⟨w.heap.size, 6, none⟩ = some (.bool x.gt) := hbx.cell 6
    have y7 : W9.cell? ⟨w.heap.size, 7, none⟩ = some (.string x.de) := hbx.cell 7
    have r0 : W9.cell? ⟨w.heap.size + 1, 0, none⟩ = some (.string ⟨#[]⟩) := hrs.cell 0
    have z0 : W9.frozen? ⟨w.heap.size + 1, 0, none⟩ = false := hrs.frozen 0
    have r1 : W9.cell? ⟨w.heap.size + 1, 1, none⟩ = some (.int .i64 0) := hrs.cell 1
    have z1 : W9.frozen? ⟨w.heap.size + 1, 1, none⟩ = false := hrs.frozen 1
    have r2 : W9.cell? ⟨w.heap.size + 1, 2, none⟩ = some (.int .i64 0) := hrs.cell 2
    have z2 : W9.frozen? ⟨w.heap.size + 1, 2, none⟩ = false := hrs.frozen 2
    have r3 : W9.cell? ⟨w.heap.size + 1, 3, none⟩ = some (.int .i64 0) := hrs.cell 3
    have z3 : W9.frozen? ⟨w.heap.size + 1, 3, none⟩ = false := hrs.frozen 3
    have r4 : W9.cell? ⟨w.heap.size + 1, 4, none⟩ = some (.int .i64 0) := hrs.cell 4
    have z4 : W9.frozen? ⟨w.heap.size + 1, 4, none⟩ = false := hrs.frozen 4
    have r5 : W9.cell? ⟨w.heap.size + 1, 5, none⟩ = some (.int .i64 0) := hrs.cell 5
    have z5 : W9.frozen? ⟨w.heap.size + 1, 5, none⟩ = false := hrs.frozen 5
    have r6 : W9.cell? ⟨w.heap.size + 1, 6, none⟩ = some (.bool false) := hrs.cell 6
    have z6 : W9.frozen? ⟨w.heap.size + 1, 6, none⟩ = false := hrs.frozen 6
    have r7 : W9.cell? ⟨w.heap.size + 1, 7, none⟩ = some (.string ⟨#[]⟩) := hrs.cell 7
    have z7 : W9.frozen? ⟨w.heap.size + 1, 7, none⟩ = false := hrs.frozen 7
    clear hmk hrs hgr hbx
    go_wp2_with fail
    obtain ⟨hB, hE⟩ := HQ.out
    change bodyPost _ _ _ _ _ (storeW W9 (w.heap.size + 1) ⟨x.nu, x.len, x.ax, x.ms, x.br, v, x.gt, x.de⟩)
    generalize storeW W9 (w.heap.size + 1) ⟨x.nu, x.len, x.ax, x.ms, x.br, v, x.gt, x.de⟩ = WW at hB hE ⊢
    have q0 : WW.cell? ⟨w.heap.size + 1, 0, none⟩ = some (.string x.nu) := hB.cell 0
    have q1 : WW.cell? ⟨w.heap.size + 1, 1, none⟩ = some (.int .i64 x.len) := hB.cell 1
    have q2 : WW.cell? ⟨w.heap.size + 1, 2, none⟩ = some (.int .i64 x.ax) := hB.cell 2
    have q3 : WW.cell? ⟨w.heap.size + 1, 3, none⟩ = some (.int .i64 x.ms) := hB.cell 3
    have q4 : WW.cell? ⟨w.heap.size + 1, 4, none⟩ = some (.int .i64 x.br) := hB.cell 4
    have q5 : WW.cell? ⟨w.heap.size + 1, 5, none⟩ = some (.int .i64 v) := hB.cell 5
    have q6 : WW.cell? ⟨w.heap.size + 1, 6, none⟩ = some (.bool x.gt) := hB.cell 6
    have q7 : WW.cell? ⟨w.heap.size + 1, 7, none⟩ = some (.string x.de) := hB.cell 7
    exact bodyPost_ret (v := wgV ⟨x.nu, x.len, x.ax, x.ms, x.br, v, x.gt, x.de⟩) (by simp [results, wgV, Tryd.results10, go_sem, q0, q1, q2, q3, q4, q5, q6, q7]) rfl hE
  · have hbl := Blk.new W1 9 #[.string ⟨#[]⟩, .string ⟨#[65]⟩, .string ⟨#[97, 32, 98]⟩, .string ⟨#[97, 98, 99, 100, 101, 102, 103, 104, 105, 106, 107, 108, 109]⟩, .string ⟨#[45]⟩]
    have hgl := H1.mkr.lt
    go_wp2_with fail
    refine (next_c B g (c + 1) 5 _ (H1.alloc _).mkr (by omega) (by omega) (by omega)).mono ?_
    rintro e W2 ⟨y, hy0', hy1', rfl, m2, hg2⟩
    obtain ⟨t, rfl⟩ := Int.eq_ofNat_of_zero_le hy0'
    obtain ⟨q, hqz, hqc⟩ := five_cell (hbl.grown hg2 (fun e => by have := Option.some.inj e; omega)) (y := t) (by omega)
    have H2 := (H1.alloc (.cells #[.string ⟨#[]⟩, .string ⟨#[65]⟩, .string ⟨#[97, 32, 98]⟩, .string ⟨#[97, 98, 99, 100, 101, 102, 103, 104, 105, 106, 107, 108, 109]⟩, .string ⟨#[45]⟩] 9)).step hgw m2 hg2
    clear m2 hg2 hbl
    have ff : W2.frozen? ⟨w.heap.size, 7, none⟩ = false := H2.box.frozen 7
    have yy : W2.cell? ⟨w.heap.size, 7, none⟩ = some (.string x.de) := H2.box.cell 7
    obtain ⟨W9, hW9⟩ : ∃ W9, W2.setCell ⟨w.heap.size, 7, none⟩ (.string q) = W9 := ⟨_, rfl⟩
    have hgs := World.grownBy_set W2 w.heap.size 7 (.string q)
    have hbx : Blk W9 w.heap.size 34 #[.string x.nu, .int .i64 x.len, .int .i64 x.ax, .int .i64 x.ms, .int .i64 x.br, .int .i64 x.gd, .bool x.gt, .string q] := by rw [← hW9]; exact H2.box.set_ 7 _
    have hrs : Blk W9 (w.heap.size + 1) 34 #[.string ⟨#[]⟩, .int .i64 0, .int .i64 0, .int .i64 0, .int .i64 0, .int .i64 0, .bool false, .string ⟨#[]⟩] := by rw [← hW9]; exact H2.res.grown hgs (fun e => by have := Option.some.inj e; omega)
    have hmk := H2.mkr.grown hgs (fun e => by have := Option.some.inj e; omega) (fun b e => by have := Option.some.inj e; have := H2.mkr.ge; omega)
    have hgr := grown_then' H2.gr hgs (fun b e => .inr (by have := Option.some.inj e; omega))
    rw [hW9] at hmk hgr
    clear H2 H1
    have HQ := Lib.hid (spw_end (x := x) (c0 := c) hmk hrs hgr hgw ⟨x.nu, x.len, x.ax, x.ms, x.br, x.gd, x.gt, q⟩ (⟨by simp only; omega, by simp only; omega⟩) (by omega))
    have y0 : W9.cell? ⟨w.heap.size, 0, none⟩ = some (.string x.nu) := hbx.cell 0
    have y1 : W9.cell? ⟨w.heap.size, 1, none⟩ = some (.int .i64 x.len) := hbx.cell 1
    have y2 : W9.cell? ⟨w.heap.size, 2, none⟩ = some (.int .i64 x.ax) := hbx.cell 2
    have y3 : W9.cell? ⟨w.heap.size, 3, none⟩ = some (.int .i64 x.ms) := hbx.cell 3
    have y4 : W9.cell? ⟨w.heap.size, 4, none⟩ = some (.int .i64 x.br) := hbx.cell 4
    have y5 : W9.cell? ⟨w.heap.size, 5, none⟩ = some (.int .i64 x.gd) := hbx.cell 5
    have y6 : W9.cell? ⟨w.heap.size, 6, none⟩ = some (.bool x.gt) := hbx.cell 6
    have y7 : W9.cell? ⟨w.heap.size, 7, none⟩ = some (.string q) := hbx.cell 7
    have r0 : W9.cell? ⟨w.heap.size + 1, 0, none⟩ = some (.string ⟨#[]⟩) := hrs.cell 0
    have z0 : W9.frozen? ⟨w.heap.size + 1, 0, none⟩ = false := hrs.frozen 0
    have r1 : W9.cell? ⟨w.heap.size + 1, 1, none⟩ = some (.int .i64 0) := hrs.cell 1
    have z1 : W9.frozen? ⟨w.heap.size + 1, 1, none⟩ = false := hrs.frozen 1
    have r2 : W9.cell? ⟨w.heap.size + 1, 2, none⟩ = some (.int .i64 0) := hrs.cell 2
    have z2 : W9.frozen? ⟨w.heap.size + 1, 2, none⟩ = false := hrs.frozen 2
    have r3 : W9.cell? ⟨w.heap.size + 1, 3, none⟩ = some (.int .i64 0) := hrs.cell 3
    have z3 : W9.frozen? ⟨w.heap.size + 1, 3, none⟩ = false := hrs.frozen 3
    have r4 : W9.cell? ⟨w.heap.size + 1, 4, none⟩ = some (.int .i64 0) := hrs.cell 4
    have z4 : W9.frozen? ⟨w.heap.size + 1, 4, none⟩ = false := hrs.frozen 4
    have r5 : W9.cell? ⟨w.heap.size + 1, 5, none⟩ = some (.int .i64 0) := hrs.cell 5
    have z5 : W9.frozen? ⟨w.heap.size + 1, 5, none⟩ = false := hrs.frozen 5
    have r6 : W9.cell? ⟨w.heap.size + 1, 6, none⟩ = some (.bool false) := hrs.cell 6
    have z6 : W9.frozen? ⟨w.heap.size + 1, 6, none⟩ = false := hrs.frozen 6
    have r7 : W9.cell? ⟨w.heap.size + 1, 7, none⟩ = some (.string ⟨#[]⟩) := hrs.cell 7
    have z7 : W9.frozen? ⟨w.heap.size + 1, 7, none⟩ = false := hrs.frozen 7
    clear hmk hrs hgr hbx
    go_wp2_with fail
    obtain ⟨hB, hE⟩ := HQ.out
    change bodyPost _ _ _ _ _ (storeW W9 (w.heap.size + 1) ⟨x.nu, x.len, x.ax, x.ms, x.br, x.gd, x.gt, q⟩)
    generalize storeW W9 (w.heap.size + 1) ⟨x.nu, x.len, x.ax, x.ms, x.br, x.gd, x.gt, q⟩ = WW at hB hE ⊢
    have q0 : WW.cell? ⟨w.heap.size + 1, 0, none⟩ = some (.string x.nu) := hB.cell 0
    have q1 : WW.cell? ⟨w.heap.size + 1, 1, none⟩ = some (.int .i64 x.len) := hB.cell 1
    have q2 : WW.cell? ⟨w.heap.size + 1, 2, none⟩ = some (.int .i64 x.ax) := hB.cell 2
    have q3 : WW.cell? ⟨w.heap.size + 1, 3, none⟩ = some (.int .i64 x.ms) := hB.cell 3
    have q4 : WW.cell? ⟨w.heap.size + 1, 4, none⟩ = some (.int .i64 x.br) := hB.cell 4
    have q5 : WW.cell? ⟨w.heap.size + 1, 5, none⟩ = some (.int .i64 x.gd) := hB.cell 5
    have q6 : WW.cell? ⟨w.heap.size + 1, 6, none⟩ = some (.bool x.gt) := hB.cell 6
    have q7 : WW.cell? ⟨w.heap.size + 1, 7, none⟩ = some (.string q) := hB.cell 7
    exact bodyPost_ret (v := wgV ⟨x.nu, x.len, x.ax, x.ms, x.br, x.gd, x.gt, q⟩) (by simp [results, wgV, Tryd.results10, go_sem, q0, q1, q2, q3, q4, q5, q6, q7]) rfl hE
  · have hbx := H1.box
    have hrs := H1.res
    have hmk := H1.mkr
    have hgr := H1.gr
    clear H1
    have HQ := Lib.hid (spw_end (x := x) (c0 := c) hmk hrs hgr hgw ⟨x.nu, x.len, x.ax, x.ms, x.br, x.gd, x.gt, x.de⟩ (⟨by simp only; omega, by simp only; omega⟩) (by omega))
    have y0 : W1.cell? ⟨w.heap.size, 0, none⟩ = some (.string x.nu) := hbx.cell 0
    have y1 : W1.cell? ⟨w.heap.size, 1, none⟩ = some (.int .i64 x.len) := hbx.cell 1
    have y2 : W1.cell? ⟨w.heap.size, 2, none⟩ = some (.int .i64 x.ax) := hbx.cell 2
    have y3 : W1.cell? ⟨w.heap.size, 3, none⟩ = some (.int .i64 x.ms) := hbx.cell 3
    have y4 : W1.cell? ⟨w.heap.size, 4, none⟩ = some (.int .i64 x.br) := hbx.cell 4
    have y5 : W1.cell? ⟨w.heap.size, 5, none⟩ = some (.int .i64 x.gd) := hbx.cell 5
    have y6 : W1.cell? ⟨w.heap.size, 6, none⟩ = some (.bool x.gt) := hbx.cell 6
    have y7 : W1.cell? ⟨w.heap.size, 7, none⟩ = some (.string x.de) := hbx.cell 7
    have r0 : W1.cell? ⟨w.heap.size + 1, 0, none⟩ = some (.string ⟨#[]⟩) := hrs.cell 0
    have z0 : W1.frozen? ⟨w.heap.size + 1, 0, none⟩ = false := hrs.frozen 0
    have r1 : W1.cell? ⟨w.heap.size + 1, 1, none⟩ = some (.int .i64 0) := hrs.cell 1
    have z1 : W1.frozen? ⟨w.heap.size + 1, 1, none⟩ = false := hrs.frozen 1
    have r2 : W1.cell? ⟨w.heap.size + 1, 2, none⟩ = some (.int .i64 0) := hrs.cell 2
    have z2 : W1.frozen? ⟨w.heap.size + 1, 2, none⟩ = false := hrs.frozen 2
    have r3 : W1.cell? ⟨w.heap.size + 1, 3, none⟩ = some (.int .i64 0) := hrs.cell 3
    have z3 : W1.frozen? ⟨w.heap.size + 1, 3, none⟩ = false := hrs.frozen 3
    have r4 : W1.cell? ⟨w.heap.size + 1, 4, none⟩ = some (.int .i64 0) := hrs.cell 4
    have z4 : W1.frozen? ⟨w.heap.size + 1, 4, none⟩ = false := hrs.frozen 4
    have r5 : W1.cell? ⟨w.heap.size + 1, 5, none⟩ = some (.int .i64 0) := hrs.cell 5
    have z5 : W1.frozen? ⟨w.heap.size + 1, 5, none⟩ = false := hrs.frozen 5
    have r6 : W1.cell? ⟨w.heap.size + 1, 6, none⟩ = some (.bool false) := hrs.cell 6
    have z6 : W1.frozen? ⟨w.heap.size + 1, 6, none⟩ = false := hrs.frozen 6
    have r7 : W1.cell? ⟨w.heap.size + 1, 7, none⟩ = some (.string ⟨#[]⟩) := hrs.cell 7
    have z7 : W1.frozen? ⟨w.heap.size + 1, 7, none⟩ = false := hrs.frozen 7
    clear hmk hrs hgr hbx
    go_wp2_with fail
    obtain ⟨hB, hE⟩ := HQ.out
    change bodyPost _ _ _ _ _ (storeW W1 (w.heap.size + 1) ⟨x.nu, x.len, x.ax, x.ms, x.br, x.gd, x.gt, x.de⟩)
    generalize storeW W1 (w.heap.size + 1) ⟨x.nu, x.len, x.ax, x.ms, x.br, x.gd, x.gt, x.de⟩ = WW at hB hE ⊢
    have q0 : WW.cell? ⟨w.heap.size + 1, 0, none⟩ = some (.string x.nu) := hB.cell 0
    have q1 : WW.cell? ⟨w.heap.size + 1, 1, none⟩ = some (.int .i64 x.len) := hB.cell 1
    have q2 : WW.cell? ⟨w.heap.size + 1, 2, none⟩ = some (.int .i64 x.ax) := hB.cell 2
    have q3 : WW.cell? ⟨w.heap.size + 1, 3, none⟩ = some (.int .i64 x.ms) := hB.cell 3
    have q4 : WW.cell? ⟨w.heap.size + 1, 4, none⟩ = some (.int .i64 x.br) := hB.cell 4
    have q5 : WW.cell? ⟨w.heap.size + 1, 5, none⟩ = some (.int .i64 x.gd) := hB.cell 5
    have q6 : WW.cell? ⟨w.heap.size + 1, 6, none⟩ = some (.bool x.gt) := hB.cell 6
    have q7 : WW.cell? ⟨w.heap.size + 1, 7, none⟩ = some (.string x.de) := hB.cell 7
    exact bodyPost_ret (v := wgV ⟨x.nu, x.len, x.ax, x.ms, x.br, x.gd, x.gt, x.de⟩) (by simp [results, wgV, Tryd.results10, go_sem, q0, q1, q2, q3, q4, q5, q6, q7]) rfl hE
end Go.Proofs.YtiegpkbollihgaaDoor
