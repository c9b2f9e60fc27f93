/- The walk of humpgen's element. -/
import Derived.Test.YtmjdjcpmkdninaaDoorLyG1
import Derived.Test.YtmjdjcpmkdninaaDoorLyW2
namespace Go.Proofs.YtmjdjcpmkdninaaDoor
open Go.RowKit
/-- A made element. -/
def ElemR (B : Nat) (w : World) (g c i : Nat) (kd p sd : Int) (e : Ending) (w' : World) : Prop := ∃ (x : LE) (c' : Nat), e = .returned (leV x) ∧ x.k = kd ∧ x.nm = Ly.ename i ∧ x.p = p ∧ x.sd = sd ∧ Ly.sound x = true ∧ c' ≤ c + 5 ∧ Mk B w' g c' ∧ w.grownBy w' (some g)
theorem elem_sound {x : LE} (hn : Pl.nameOk x.nm = true) (hk : 1 ≤ x.k ∧ x.k ≤ 4) (h : (1 ≤ x.len ∧ x.len ≤ 1000000) ∧ (-10000 ≤ x.g ∧ x.g ≤ 10000) ∧ (0 ≤ x.c ∧ x.c ≤ 5000) ∧ (0 ≤ x.sd ∧ x.sd ≤ 2) ∧ ((x.k = 2 ∧ 1 ≤ x.pw ∧ x.pw ≤ 1000000000) ∨ (x.k ≠ 2 ∧ x.pw = 0))) : Ly.sound x = true := by
  rw [snd_rest hn (by omega)]
  exact rest_true ⟨hk, h⟩
structure ES (B : Nat) (w : World) (g c : Nat) (W : World) : Prop where
  mkr : Mk B W g c
  blk : Blk W w.heap.size 48 #[.int .i64 0, .string ⟨#[]⟩, .int .i64 0, .int .i64 0, .int .i64 0, .int .i64 0, .int .i64 0, .int .i64 0]
  gr : w.grownBy W (some g)
theorem ES.next {B : Nat} {w W W' : World} {g c c' : Nat} (h : ES B w g c W) (hgw : g < w.heap.size) (o : Obj) (m : Mk B W' g c') (hg : (W.alloc o).grownBy W' (some g)) : ES B w g c' W' :=
  ⟨m, (h.blk.below ((Below.refl _ _).alloc (Nat.le_refl _) o) h.blk.lt).grown hg (fun e => by have := Option.some.inj e; omega), (h.gr.trans (World.grownBy_alloc W o (some g))).trans hg⟩
theorem below_grown_g {w w' : World} (h : Below w.heap.size w w') (row : Option Nat) : w.grownBy w' row := ⟨h.os, h.tape, h.output, h.size, fun i hi _ => h.block i hi⟩
/-- An element is stored, field by field. -/
def store8 (W : World) (b : Nat) (x : LE) : World := (((((((W.setCell ⟨b, 0, none⟩ (.int .i64 x.k)).setCell ⟨b, 1, none⟩ (.string x.nm)).setCell ⟨b, 2, none⟩ (.int .i64 x.p)).setCell ⟨b, 3, none⟩ (.int .i64 x.sd)).setCell ⟨b, 4, none⟩ (.int .i64 x.len)).setCell ⟨b, 5, none⟩ (.int .i64 x.g)).setCell ⟨b, 6, none⟩ (.int .i64 x.c)).setCell ⟨b, 7, none⟩ (.int .i64 x.pw)
theorem store8_blk {W : World} {b : Nat} {t : TypeId} (x : LE) (h : Blk W b t #[.int .i64 0, .string ⟨#[]⟩, .int .i64 0, .int .i64 0, .int .i64 0, .int .i64 0, .int .i64 0, .int .i64 0]) : Blk (store8 W b x) b t #[.int .i64 x.k, .string x.nm, .int .i64 x.p, .int .i64 x.sd, .int .i64 x.len, .int .i64 x.g, .int .i64 x.c, .int .i64 x.pw] := by
  have h0 : Blk (W.setCell ⟨b, 0, none⟩ (.int .i64 x.k)) b t #[.int .i64 x.k, .string ⟨#[]⟩, .int .i64 0, .int .i64 0, .int .i64 0, .int .i64 0, .int .i64 0, .int .i64 0] := h.set_ 0 _
  have h1 : Blk ((W.setCell ⟨b, 0, none⟩ (.int .i64 x.k)).setCell ⟨b, 1, none⟩ (.string x.nm)) b t #[.int .i64 x.k, .string x.nm, .int .i64 0, .int .i64 0, .int .i64 0, .int .i64 0, .int .i64 0, .int .i64 0] := h0.set_ 1 _
  have h2 : Blk (((W.setCell ⟨b, 0, none⟩ (.int .i64 x.k)).setCell ⟨b, 1, none⟩ (.string x.nm)).setCell ⟨b, 2, none⟩ (.int .i64 x.p)) b t #[.int .i64 x.k, .string x.nm, .int .i64 x.p, .int .i64 0, .int .i64 0, .int .i64 0, .int .i64 0, .int .i64 0] := h1.set_ 2 _
  have h3 : Blk ((((W.setCell ⟨b, 0, none⟩ (.int .i64 x.k)).setCell ⟨b, 1, none⟩ (.string x.nm)).setCell ⟨b, 2, none⟩ (.int .i64 x.p)).setCell ⟨b, 3, none⟩ (.int .i64 x.sd)) b t #[.int .i64 x.k, .string x.nm, .int .i64 x.p, .int .i64 x.sd, .int .i64 0, .int .i64 0, .int .i64 0, .int .i64 0] := h2.set_ 3 _
  have h4 : Blk (((((W.setCell ⟨b, 0, none⟩ (.int .i64 x.k)).setCell ⟨b, 1, none⟩ (.string x.nm)).setCell ⟨b, 2, none⟩ (.int .i64 x.p)).setCell ⟨b, 3, none⟩ (.int .i64 x.sd)).setCell ⟨b, 4, none⟩ (.int .i64 x.len)) b t #[.int .i64 x.k, .string x.nm, .int .i64 x.p, .int .i64 x.sd, .int .i64 x.len, .int .i64 0, .int .i64 0, .int .i64 0] := h3.set_ 4 _
  have h5 : Blk ((((((W.setCell ⟨b, 0, none⟩ (.int .i64 x.k)).setCell ⟨b, 1, none⟩ (.string x.nm)).setCell ⟨b, 2, none⟩ (.int .i64 x.p)).setCell ⟨b, 3, none⟩ (.int .i64 x.sd)).setCell ⟨b, 4, none⟩ (.int .i64 x.len)).setCell ⟨b, 5, none⟩ (.int .i64 x.g)) b t #[.int .i64 x.k, .string x.nm, .int .i64 x.p, .int .i64 x.sd, .int .i64 x.len, .int .i64 x.g, .int .i64 0, .int .i64 0] := h4.set_ 5 _
  have h6 : Blk (((((((W.setCell ⟨b, 0, none⟩ (.int .i64 x.k)).setCell ⟨b, 1, none⟩ (.string x.nm)).setCell ⟨b, 2, none⟩ (.int .i64 x.p)).setCell ⟨b, 3, none⟩ (.int .i64 x.sd)).setCell ⟨b, 4, none⟩ (.int .i64 x.len)).setCell ⟨b, 5, none⟩ (.int .i64 x.g)).setCell ⟨b, 6, none⟩ (.int .i64 x.c)) b t #[.int .i64 x.k, .string x.nm, .int .i64 x.p, .int .i64 x.sd, .int .i64 x.len, .int .i64 x.g, .int .i64 x.c, .int .i64 0] := h5.set_ 6 _
  have h7 : Blk ((((((((W.setCell ⟨b, 0, none⟩ (.int .i64 x.k)).setCell ⟨b, 1, none⟩ (.string x.nm)).setCell ⟨b, 2, none⟩ (.int .i64 x.p)).setCell ⟨b, 3, none⟩ (.int .i64 x.sd)).setCell ⟨b, 4, none⟩ (.int .i64 x.len)).setCell ⟨b, 5, none⟩ (.int .i64 x.g)).setCell ⟨b, 6, none⟩ (.int .i64 x.c)).setCell ⟨b, 7, none⟩ (.int .i64 x.pw)) b t #[.int .i64 x.k, .string x.nm, .int .i64 x.p, .int .i64 x.sd, .int .i64 x.len, .int .i64 x.g, .int .i64 x.c, .int .i64 x.pw] := h6.set_ 7 _
  exact h7
theorem store8_grown (W : World) (b : Nat) (x : LE) : W.grownBy (store8 W b x) (some b) := by
  have g : ∀ (W : World) (j : Nat) (u : Value), W.grownBy (W.setCell ⟨b, j, none⟩ u) (some b) := fun W j u => ⟨rfl, rfl, rfl, by simp [World.setCell], fun j' _ hne => Below.heap_setCell W ⟨b, j, none⟩ u j' (fun e => hne (by rw [e]))⟩
  exact (((((((g _ _ _).trans (g _ _ _)).trans (g _ _ _)).trans (g _ _ _)).trans (g _ _ _)).trans (g _ _ _)).trans (g _ _ _)).trans (g _ _ _)
/-- What is at hand when a made element is returned. -/
theorem elem_end {B : Nat} {w W : World} {g c c0 i : Nat} {kd p sd : Int} (h : ES B w g c W) (hgw : g < w.heap.size) (o : Obj) (x : LE) (hk : x.k = kd) (hn : x.nm = Ly.ename i) (hp : x.p = p) (hs : x.sd = sd) (hx : Ly.sound x = true) (hc : c ≤ c0 + 5) :
    Blk (store8 (W.alloc o) w.heap.size x) w.heap.size 48 #[.int .i64 x.k, .string x.nm, .int .i64 x.p, .int .i64 x.sd, .int .i64 x.len, .int .i64 x.g, .int .i64 x.c, .int .i64 x.pw] ∧ ElemR B w g c0 i kd p sd (.returned (leV x)) (store8 (W.alloc o) w.heap.size x) := by
  have hb := store8_blk x (h.blk.below ((Below.refl _ _).alloc (Nat.le_refl _) o) h.blk.lt)
  have hg := store8_grown (W.alloc o) w.heap.size x
  refine ⟨hb, x, c, rfl, hk, hn, hp, hs, hx, hc, (h.mkr.alloc o).grown hg (fun e => by have := Option.some.inj e; omega) (fun b e => ?_), grown_then (h.gr.trans (World.grownBy_alloc W o (some g))) hg (fun b e => .inr (by have := Option.some.inj e; omega))⟩
  have h1 := h.mkr.ge
  have h2 := Option.some.inj e
  omega
theorem elem_end2 {B : Nat} {w W : World} {g c c0 i : Nat} {kd p sd : Int} (h : ES B w g c W) (hgw : g < w.heap.size) (x : LE) (hk : x.k = kd) (hn : x.nm = Ly.ename i) (hp : x.p = p) (hs : x.sd = sd) (hx : Ly.sound x = true) (hc : c ≤ c0 + 5) :
    Blk (store8 W w.heap.size x) w.heap.size 48 #[.int .i64 x.k, .string x.nm, .int .i64 x.p, .int .i64 x.sd, .int .i64 x.len, .int .i64 x.g, .int .i64 x.c, .int .i64 x.pw] ∧ ElemR B w g c0 i kd p sd (.returned (leV x)) (store8 W w.heap.size x) := by
  have hb := store8_blk x h.blk
  have hg := store8_grown W w.heap.size x
  refine ⟨hb, x, c, rfl, hk, hn, hp, hs, hx, hc, h.mkr.grown hg (fun e => by have := Option.some.inj e; omega) (fun b e => ?_), grown_then h.gr hg (fun b e => .inr (by have := Option.some.inj e; omega))⟩
  have h1 := h.mkr.ge
  have h2 := Option.some.inj e
  omega
theorem ES.setX {B : Nat} {w W : World} {g c b j : Nat} {u : Value} (h : ES B w g c W) (hb : w.heap.size < b) (hgw : g < w.heap.size) : ES B w g c (W.setCell ⟨b, j, none⟩ u) := by
  have hg : W.grownBy (W.setCell ⟨b, j, none⟩ u) (some b) := ⟨rfl, rfl, rfl, by simp [World.setCell], fun j' _ hne => Below.heap_setCell W ⟨b, j, none⟩ u j' (fun e => hne (by rw [e]))⟩
  have h1 := h.mkr.ge
  exact ⟨h.mkr.grown hg (fun e => by have := Option.some.inj e; omega) (fun k e => by have := Option.some.inj e; omega), h.blk.grown hg (fun e => by have := Option.some.inj e; omega), grown_then h.gr hg (fun k e => .inr (by have := Option.some.inj e; omega))⟩
set_option maxRecDepth 100000 in
set_option maxHeartbeats 4000000 in
theorem elem_c (B g c i : Nat) (kd p sd : Int) (w : World) (h : Mk B w g c) (hc : c ≤ 2305843009213693952) (hi : i ≤ 1000) (hk : 1 ≤ kd ∧ kd ≤ 4) (hsd : 0 ≤ sd ∧ sd ≤ 2) :
    Calls Tryd.prog 38 #[.pointer (some ⟨g, 0, none⟩), .int .i64 kd, .int .i64 (i : Int), .int .i64 p, .int .i64 sd] w (ElemR B w g c i kd p sd) := by
  have hgw := h.lt
  have hne0 : w.heap.size ≠ g := by omega
  go_enter Tryd.func38, Tryd.ntmps38
  go_wp2_with fail
  refine (ename_c i _ hi).mono ?_
  rintro e w1 ⟨rfl, hb1⟩
  have hw1 : ES B w g c w1 := ⟨(h.alloc _).below hb1, (Blk.new w _ _).below hb1 (by simp), (World.grownBy_alloc w _ (some g)).trans (below_grown_g hb1 _)⟩
  clear hb1
  go_wp2_with fail
  refine (pick_c B g c w1.heap.size 6 _ [1000, 5000, 9000, 12000, 30000, 100000] _ (hw1.mkr.alloc _) (by have := hw1.mkr.lt; omega) (by omega) (by omega) (by omega) (IR.new _ 6 rfl rfl (by decide))).mono ?_
  rintro e w2 ⟨xl, xm, rfl, m, hg⟩
  have hw2 := hw1.next hgw _ m hg
  clear m hg
  go_wp2_with fail
  refine (pick_c B g (c + 1) w2.heap.size 7 _ [0, 100, -150, 400, 1000, 3500, 5000] _ (hw2.mkr.alloc _) (by have := hw2.mkr.lt; omega) (by omega) (by omega) (by omega) (IR.new _ 7 rfl rfl (by decide))).mono ?_
  rintro e w3 ⟨xg, xn, rfl, m, hg⟩
  have hw3 := hw2.next hgw _ m hg
  clear m hg
  go_wp2_with fail
  refine (pick_c B g (c + 1 + 1) w3.heap.size 4 _ [0, 0, 20, 150] _ (hw3.mkr.alloc _) (by have := hw3.mkr.lt; omega) (by omega) (by omega) (by omega) (IR.new _ 4 rfl rfl (by decide))).mono ?_
  rintro e w4 ⟨xc, xo, rfl, m, hg⟩
  have hw4 := hw3.next hgw _ m hg
  clear m hg
  have hl1 : 1 ≤ xl ∧ xl ≤ 1000000 := by simp at xm; omega
  have hg1 : -10000 ≤ xg ∧ xg ≤ 10000 := by simp at xn; omega
  have hc1 : 0 ≤ xc ∧ xc ≤ 5000 := by simp at xo; omega
  clear xm xn xo hw1 hw2 hw3
  have Hw4 := Lib.hid hw4
  have rb := fun o : Obj => hw4.blk.below ((Below.refl _ _).alloc (Nat.le_refl _) o) hw4.blk.lt
  have r0 : ∀ o : Obj, (w4.alloc o).cell? ⟨w.heap.size, 0, none⟩ = some (.int .i64 0) := fun o => (rb o).cell 0
  have z0 : ∀ o : Obj, (w4.alloc o).frozen? ⟨w.heap.size, 0, none⟩ = false := fun o => (rb o).frozen 0
  have r1 : ∀ o : Obj, (w4.alloc o).cell? ⟨w.heap.size, 1, none⟩ = some (.string ⟨#[]⟩) := fun o => (rb o).cell 1
  have z1 : ∀ o : Obj, (w4.alloc o).frozen? ⟨w.heap.size, 1, none⟩ = false := fun o => (rb o).frozen 1
  have r2 : ∀ o : Obj, (w4.alloc o).cell? ⟨w.heap.size, 2, none⟩ = some (.int .i64 0) := fun o => (rb o).cell 2
  have z2 : ∀ o : Obj, (w4.alloc o).frozen? ⟨w.heap.size, 2, none⟩ = false := fun o => (rb o).frozen 2
  have r3 : ∀ o : Obj, (w4.alloc o).cell? ⟨w.heap.size, 3, none⟩ = some (.int .i64 0) := fun o => (rb o).cell 3
  have z3 : ∀ o : Obj, (w4.alloc o).frozen? ⟨w.heap.size, 3, none⟩ = false := fun o => (rb o).frozen 3
  have r4 : ∀ o : Obj, (w4.alloc o).cell? ⟨w.heap.size, 4, none⟩ = some (.int .i64 0) := fun o => (rb o).cell 4
  have z4 : ∀ o : Obj, (w4.alloc o).frozen? ⟨w.heap.size, 4, none⟩ = false := fun o => (rb o).frozen 4
  have r5 : ∀ o : Obj, (w4.alloc o).cell? ⟨w.heap.size, 5, none⟩ = some (.int .i64 0) := fun o => (rb o).cell 5
  have z5 : ∀ o : Obj, (w4.alloc o).frozen? ⟨w.heap.size, 5, none⟩ = false := fun o => (rb o).frozen 5
  have r6 : ∀ o : Obj, (w4.alloc o).cell? ⟨w.heap.size, 6, none⟩ = some (.int .i64 0) := fun o => (rb o).cell 6
  have z6 : ∀ o : Obj, (w4.alloc o).frozen? ⟨w.heap.size, 6, none⟩ = false := fun o => (rb o).frozen 6
  have r7 : ∀ o : Obj, (w4.alloc o).cell? ⟨w.heap.size, 7, none⟩ = some (.int .i64 0) := fun o => (rb o).cell 7
  have z7 : ∀ o : Obj, (w4.alloc o).frozen? ⟨w.heap.size, 7, none⟩ = false := fun o => (rb o).frozen 7
  by_cases h2 : kd = 2
  · subst h2
    have hw4a : ES B w g (c + 1 + 1 + 1) (w4.alloc (.cells #[.int .i64 2, .string (Ly.ename i), .int .i64 p, .int .i64 sd, .int .i64 xl, .int .i64 xg, .int .i64 xc, .int .i64 0] 48)) := ⟨hw4.mkr.alloc _, rb _, hw4.gr.trans (World.grownBy_alloc w4 _ (some g))⟩
    have hxb := Blk.new w4 48 #[.int .i64 2, .string (Ly.ename i), .int .i64 p, .int .i64 sd, .int .i64 xl, .int .i64 xg, .int .i64 xc, .int .i64 0]
    have hgw4 := hw4.mkr.lt
    have hlt4 := hw4.blk.lt
    go_wp2_with fail
    refine (pick_c B g (c + 1 + 1 + 1) (w4.heap.size + 1) 4 _ [500000, 2000000, 8000000, 30000000] _ (hw4a.mkr.alloc _) (by omega) (by omega) (by omega) (by omega) (by simpa using (IR.new (w := w4.alloc (.cells #[.int .i64 2, .string (Ly.ename i), .int .i64 p, .int .i64 sd, .int .i64 xl, .int .i64 xg, .int .i64 xc, .int .i64 0] 48)) (t := 3) [500000, 2000000, 8000000, 30000000] 4 rfl rfl (by decide)))).mono ?_
    rintro e w5 ⟨xw, xwm, rfl, m, hg⟩
    have hw5 := hw4a.next hgw _ m hg
    have hx5 := (hxb.below ((Below.refl _ _).alloc (Nat.le_refl _) _) hxb.lt).grown hg (fun e => by have := Option.some.inj e; omega)
    have hw6 := hw5.setX (b := w4.heap.size) (j := 7) (u := .int .i64 xw) hlt4 hgw
    have hx6 := hx5.set_ 7 (.int .i64 xw)
    have c7 : w5.cell? ⟨w4.heap.size, 7, none⟩ = some (.int .i64 0) := hx5.cell 7
    have f7 : w5.frozen? ⟨w4.heap.size, 7, none⟩ = false := hx5.frozen 7
    have hw1' : 1 ≤ xw ∧ xw ≤ 1000000000 := by simp at xwm; omega
    clear m hg xwm r0 r1 r2 r3 r4 r5 r6 r7 z0 z1 z2 z3 z4 z5 z6 z7
    have r0 : (w5.setCell ⟨w4.heap.size, 7, none⟩ (.int .i64 xw)).cell? ⟨w.heap.size, 0, none⟩ = some (.int .i64 0) := hw6.blk.cell 0
    have z0 : (w5.setCell ⟨w4.heap.size, 7, none⟩ (.int .i64 xw)).frozen? ⟨w.heap.size, 0, none⟩ = false := hw6.blk.frozen 0
    have r1 : (w5.setCell ⟨w4.heap.size, 7, none⟩ (.int .i64 xw)).cell? ⟨w.heap.size, 1, none⟩ = some (.string ⟨#[]⟩) := hw6.blk.cell 1
    have z1 : (w5.setCell ⟨w4.heap.size, 7, none⟩ (.int .i64 xw)).frozen? ⟨w.heap.size, 1, none⟩ = false := hw6.blk.frozen 1
    have r2 : (w5.setCell ⟨w4.heap.size, 7, none⟩ (.int .i64 xw)).cell? ⟨w.heap.size, 2, none⟩ = some (.int .i64 0) := hw6.blk.cell 2
    have z2 : (w5.setCell ⟨w4.heap.size, 7, none⟩ (.int .i64 xw)).frozen? ⟨w.heap.size, 2, none⟩ = false := hw6.blk.frozen 2
    have r3 : (w5.setCell ⟨w4.heap.size, 7, none⟩ (.int .i64 xw)).cell? ⟨w.heap.size, 3, none⟩ = some (.int .i64 0) := hw6.blk.cell 3
    have z3 : (w5.setCell ⟨w4.heap.size, 7, none⟩ (.int .i64 xw)).frozen? ⟨w.heap.size, 3, none⟩ = false := hw6.blk.frozen 3
    have r4 : (w5.setCell ⟨w4.heap.size, 7, none⟩ (.int .i64 xw)).cell? ⟨w.heap.size, 4, none⟩ = some (.int .i64 0) := hw6.blk.cell 4
    have z4 : (w5.setCell ⟨w4.heap.size, 7, none⟩ (.int .i64 xw)).frozen? ⟨w.heap.size, 4, none⟩ = false := hw6.blk.frozen 4
    have r5 : (w5.setCell ⟨w4.heap.size, 7, none⟩ (.int .i64 xw)).cell? ⟨w.heap.size, 5, none⟩ = some (.int .i64 0) := hw6.blk.cell 5
    have z5 : (w5.setCell ⟨w4.heap.size, 7, none⟩ (.int .i64 xw)).frozen? ⟨w.heap.size, 5, none⟩ = false := hw6.blk.frozen 5
    have r6 : (w5.setCell ⟨w4.heap.size, 7, none⟩ (.int .i64 xw)).cell? ⟨w.heap.size, 6, none⟩ = some (.int .i64 0) := hw6.blk.cell 6
    have z6 : (w5.setCell ⟨w4.heap.size, 7, none⟩ (.int .i64 xw)).frozen? ⟨w.heap.size, 6, none⟩ = false := hw6.blk.frozen 6
    have r7 : (w5.setCell ⟨w4.heap.size, 7, none⟩ (.int .i64 xw)).cell? ⟨w.heap.size, 7, none⟩ = some (.int .i64 0) := hw6.blk.cell 7
    have z7 : (w5.setCell ⟨w4.heap.size, 7, none⟩ (.int .i64 xw)).frozen? ⟨w.heap.size, 7, none⟩ = false := hw6.blk.frozen 7
    have y0 : (w5.setCell ⟨w4.heap.size, 7, none⟩ (.int .i64 xw)).cell? ⟨w4.heap.size, 0, none⟩ = some (.int .i64 2) := hx6.cell 0
    have y1 : (w5.setCell ⟨w4.heap.size, 7, none⟩ (.int .i64 xw)).cell? ⟨w4.heap.size, 1, none⟩ = some (.string (Ly.ename i)) := hx6.cell 1
    have y2 : (w5.setCell ⟨w4.heap.size, 7, none⟩ (.int .i64 xw)).cell? ⟨w4.heap.size, 2, none⟩ = some (.int .i64 p) := hx6.cell 2
    have y3 : (w5.setCell ⟨w4.heap.size, 7, none⟩ (.int .i64 xw)).cell? ⟨w4.heap.size, 3, none⟩ = some (.int .i64 sd) := hx6.cell 3
    have y4 : (w5.setCell ⟨w4.heap.size, 7, none⟩ (.int .i64 xw)).cell? ⟨w4.heap.size, 4, none⟩ = some (.int .i64 xl) := hx6.cell 4
    have y5 : (w5.setCell ⟨w4.heap.size, 7, none⟩ (.int .i64 xw)).cell? ⟨w4.heap.size, 5, none⟩ = some (.int .i64 xg) := hx6.cell 5
    have y6 : (w5.setCell ⟨w4.heap.size, 7, none⟩ (.int .i64 xw)).cell? ⟨w4.heap.size, 6, none⟩ = some (.int .i64 xc) := hx6.cell 6
    have y7 : (w5.setCell ⟨w4.heap.size, 7, none⟩ (.int .i64 xw)).cell? ⟨w4.heap.size, 7, none⟩ = some (.int .i64 xw) := hx6.cell 7
    have HQ := Lib.hid (elem_end2 (B := B) (c0 := c) (i := i) (kd := 2) (p := p) (sd := sd) hw6 hgw ⟨2, Ly.ename i, p, sd, xl, xg, xc, xw⟩ rfl rfl rfl rfl (elem_sound (Ly.ename_ok i) hk ⟨hl1, hg1, hc1, hsd, .inl ⟨rfl, hw1'⟩⟩) (by omega))
    clear rb hw4a hxb hw5 hx5 hw6 hx6 hw4
    go_wp2_with fail
    obtain ⟨hB, hE⟩ := HQ.out
    change bodyPost _ _ _ _ _ (store8 (w5.setCell _ _) w.heap.size ⟨2, Ly.ename i, p, sd, xl, xg, xc, xw⟩)
    generalize store8 (w5.setCell ⟨w4.heap.size, 7, none⟩ (.int .i64 xw)) w.heap.size ⟨2, Ly.ename i, p, sd, xl, xg, xc, xw⟩ = W at hB hE ⊢
    have q0 : W.cell? ⟨w.heap.size, 0, none⟩ = some (.int .i64 2) := hB.cell 0
    have q1 : W.cell? ⟨w.heap.size, 1, none⟩ = some (.string (Ly.ename i)) := hB.cell 1
    have q2 : W.cell? ⟨w.heap.size, 2, none⟩ = some (.int .i64 p) := hB.cell 2
    have q3 : W.cell? ⟨w.heap.size, 3, none⟩ = some (.int .i64 sd) := hB.cell 3
    have q4 : W.cell? ⟨w.heap.size, 4, none⟩ = some (.int .i64 xl) := hB.cell 4
    have q5 : W.cell? ⟨w.heap.size, 5, none⟩ = some (.int .i64 xg) := hB.cell 5
    have q6 : W.cell? ⟨w.heap.size, 6, none⟩ = some (.int .i64 xc) := hB.cell 6
    have q7 : W.cell? ⟨w.heap.size, 7, none⟩ = some (.int .i64 xw) := hB.cell 7
    exact bodyPost_ret (v := leV ⟨2, Ly.ename i, p, sd, xl, xg, xc, xw⟩) (by simp [results, leV, Tryd.results38, go_sem, q0, q1, q2, q3, q4, q5, q6, q7]) rfl hE
  by_cases h4 : kd = 4
  · subst h4
    have hw4a : ES B w g (c + 1 + 1 + 1) (w4.alloc (.cells #[.int .i64 4, .string (Ly.ename i), .int .i64 p, .int .i64 sd, .int .i64 xl, .int .i64 xg, .int .i64 xc, .int .i64 0] 48)) := ⟨hw4.mkr.alloc _, rb _, hw4.gr.trans (World.grownBy_alloc w4 _ (some g))⟩
    have hxb := Blk.new w4 48 #[.int .i64 4, .string (Ly.ename i), .int .i64 p, .int .i64 sd, .int .i64 xl, .int .i64 xg, .int .i64 xc, .int .i64 0]
    have hgw4 := hw4.mkr.lt
    have hlt4 := hw4.blk.lt
    go_wp2_with fail
    refine (pick_c B g (c + 1 + 1 + 1) (w4.heap.size + 1) 3 _ [100000, 400000, 700000] _ (hw4a.mkr.alloc _) (by omega) (by omega) (by omega) (by omega) (by simpa using (IR.new (w := w4.alloc (.cells #[.int .i64 4, .string (Ly.ename i), .int .i64 p, .int .i64 sd, .int .i64 xl, .int .i64 xg, .int .i64 xc, .int .i64 0] 48)) (t := 3) [100000, 400000, 700000] 3 rfl rfl (by decide)))).mono ?_
    rintro e w5 ⟨yl, ylm, rfl, m, hg⟩
    have hw5 := hw4a.next hgw _ m hg
    have hx5 := (hxb.below ((Below.refl _ _).alloc (Nat.le_refl _) _) hxb.lt).grown hg (fun e => by have := Option.some.inj e; omega)
    have hgw5 := hw5.mkr.lt
    clear m hg
    go_wp2_with fail
    refine (pick_c B g (c + 1 + 1 + 1 + 1) w5.heap.size 4 _ [-100, 0, 50, 150] _ (hw5.mkr.alloc _) (by omega) (by omega) (by omega) (by omega) (IR.new _ 4 rfl rfl (by decide))).mono ?_
    rintro e w6 ⟨yg, ygm, rfl, m, hg⟩
    have hw6 := hw5.next hgw _ m hg
    have hx6 := (hx5.below ((Below.refl _ _).alloc (Nat.le_refl _) _) hx5.lt).grown hg (fun e => by have := Option.some.inj e; omega)
    have hw8 := (hw6.setX (b := w4.heap.size) (j := 4) (u := .int .i64 yl) hlt4 hgw).setX (b := w4.heap.size) (j := 5) (u := .int .i64 yg) hlt4 hgw
    have hx8 := (hx6.set_ 4 (.int .i64 yl)).set_ 5 (.int .i64 yg)
    have c4 : w6.cell? ⟨w4.heap.size, 4, none⟩ = some (.int .i64 xl) := hx6.cell 4
    have c5 : w6.cell? ⟨w4.heap.size, 5, none⟩ = some (.int .i64 xg) := hx6.cell 5
    have f4 : w6.frozen? ⟨w4.heap.size, 4, none⟩ = false := hx6.frozen 4
    have f5 : w6.frozen? ⟨w4.heap.size, 5, none⟩ = false := hx6.frozen 5
    have hy1 : 1 ≤ yl ∧ yl ≤ 1000000 := by simp at ylm; omega
    have hy2 : -10000 ≤ yg ∧ yg ≤ 10000 := by simp at ygm; omega
    clear m hg ylm ygm r0 r1 r2 r3 r4 r5 r6 r7 z0 z1 z2 z3 z4 z5 z6 z7
    have r0 : ((w6.setCell ⟨w4.heap.size, 4, none⟩ (.int .i64 yl)).setCell ⟨w4.heap.size, 5, none⟩ (.int .i64 yg)).cell? ⟨w.heap.size, 0, none⟩ = some (.int .i64 0) := hw8.blk.cell 0
    have z0 : ((w6.setCell ⟨w4.heap.size, 4, none⟩ (.int .i64 yl)).setCell ⟨w4.heap.size, 5, none⟩ (.int .i64 yg)).frozen? ⟨w.heap.size, 0, none⟩ = false := hw8.blk.frozen 0
    have r1 : ((w6.setCell ⟨w4.heap.size, 4, none⟩ (.int .i64 yl)).setCell ⟨w4.heap.size, 5, none⟩ (.int .i64 yg)).cell? ⟨w.heap.size, 1, none⟩ = some (.string ⟨#[]⟩) := hw8.blk.cell 1
    have z1 : ((w6.setCell ⟨w4.heap.size, 4, none⟩ (.int .i64 yl)).setCell ⟨w4.heap.size, 5, none⟩ (.int .i64 yg)).frozen? ⟨w.heap.size, 1, none⟩ = false := hw8.blk.frozen 1
    have r2 : ((w6.setCell ⟨w4.heap.size, 4, none⟩ (.int .i64 yl)).setCell ⟨w4.heap.size, 5, none⟩ (.int .i64 yg)).cell? ⟨w.heap.size, 2, none⟩ = some (.int .i64 0) := hw8.blk.cell 2
    have z2 : ((w6.setCell ⟨w4.heap.size, 4, none⟩ (.int .i64 yl)).setCell ⟨w4.heap.size, 5, none⟩ (.int .i64 yg)).frozen? ⟨w.heap.size, 2, none⟩ = false := hw8.blk.frozen 2
    have r3 : ((w6.setCell ⟨w4.heap.size, 4, none⟩ (.int .i64 yl)).setCell ⟨w4.heap.size, 5, none⟩ (.int .i64 yg)).cell? ⟨w.heap.size, 3, none⟩ = some (.int .i64 0) := hw8.blk.cell 3
    have z3 : ((w6.setCell ⟨w4.heap.size, 4, none⟩ (.int .i64 yl)).setCell ⟨w4.heap.size, 5, none⟩ (.int .i64 yg)).frozen? ⟨w.heap.size, 3, none⟩ = false := hw8.blk.frozen 3
    have r4 : ((w6.setCell ⟨w4.heap.size, 4, none⟩ (.int .i64 yl)).setCell ⟨w4.heap.size, 5, none⟩ (.int .i64 yg)).cell? ⟨w.heap.size, 4, none⟩ = some (.int .i64 0) := hw8.blk.cell 4
    have z4 : ((w6.setCell ⟨w4.heap.size, 4, none⟩ (.int .i64 yl)).setCell ⟨w4.heap.size, 5, none⟩ (.int .i64 yg)).frozen? ⟨w.heap.size, 4, none⟩ = false := hw8.blk.frozen 4
    have r5 : ((w6.setCell ⟨w4.heap.size, 4, none⟩ (.int .i64 yl)).setCell ⟨w4.heap.size, 5, none⟩ (.int .i64 yg)).cell? ⟨w.heap.size, 5, none⟩ = some (.int .i64 0) := hw8.blk.cell 5
    have z5 : ((w6.setCell ⟨w4.heap.size, 4, none⟩ (.int .i64 yl)).setCell ⟨w4.heap.size, 5, none⟩ (.int .i64 yg)).frozen? ⟨w.heap.size, 5, none⟩ = false := hw8.blk.frozen 5
    have r6 : ((w6.setCell ⟨w4.heap.size, 4, none⟩ (.int .i64 yl)).setCell ⟨w4.heap.size, 5, none⟩ (.int .i64 yg)).cell? ⟨w.heap.size, 6, none⟩ = some (.int .i64 0) := hw8.blk.cell 6
    have z6 : ((w6.setCell ⟨w4.heap.size, 4, none⟩ (.int .i64 yl)).setCell ⟨w4.heap.size, 5, none⟩ (.int .i64 yg)).frozen? ⟨w.heap.size, 6, none⟩ = false := hw8.blk.frozen 6
    have r7 : ((w6.setCell ⟨w4.heap.size, 4, none⟩ (.int .i64 yl)).setCell ⟨w4.heap.size, 5, none⟩ (.int .i64 yg)).cell? ⟨w.heap.size, 7, none⟩ = some (.int .i64 0) := hw8.blk.cell 7
    have z7 : ((w6.setCell ⟨w4.heap.size, 4, none⟩ (.int .i64 yl)).setCell ⟨w4.heap.size, 5, none⟩ (.int .i64 yg)).frozen? ⟨w.heap.size, 7, none⟩ = false := hw8.blk.frozen 7
    have y0 : ((w6.setCell ⟨w4.heap.size, 4, none⟩ (.int .i64 yl)).setCell ⟨w4.heap.size, 5, none⟩ (.int .i64 yg)).cell? ⟨w4.heap.size, 0, none⟩ = some (.int .i64 4) := hx8.cell 0
    have y1 : ((w6.setCell ⟨w4.heap.size, 4, none⟩ (.int .i64 yl)).setCell ⟨w4.heap.size, 5, none⟩ (.int .i64 yg)).cell? ⟨w4.heap.size, 1, none⟩ = some (.string (Ly.ename i)) := hx8.cell 1
    have y2 : ((w6.setCell ⟨w4.heap.size, 4, none⟩ (.int .i64 yl)).setCell ⟨w4.heap.size, 5, none⟩ (.int .i64 yg)).cell? ⟨w4.heap.size, 2, none⟩ = some (.int .i64 p) := hx8.cell 2
    have y3 : ((w6.setCell ⟨w4.heap.size, 4, none⟩ (.int .i64 yl)).setCell ⟨w4.heap.size, 5, none⟩ (.int .i64 yg)).cell? ⟨w4.heap.size, 3, none⟩ = some (.int .i64 sd) := hx8.cell 3
    have y4 : ((w6.setCell ⟨w4.heap.size, 4, none⟩ (.int .i64 yl)).setCell ⟨w4.heap.size, 5, none⟩ (.int .i64 yg)).cell? ⟨w4.heap.size, 4, none⟩ = some (.int .i64 yl) := hx8.cell 4
    have y5 : ((w6.setCell ⟨w4.heap.size, 4, none⟩ (.int .i64 yl)).setCell ⟨w4.heap.size, 5, none⟩ (.int .i64 yg)).cell? ⟨w4.heap.size, 5, none⟩ = some (.int .i64 yg) := hx8.cell 5
    have y6 : ((w6.setCell ⟨w4.heap.size, 4, none⟩ (.int .i64 yl)).setCell ⟨w4.heap.size, 5, none⟩ (.int .i64 yg)).cell? ⟨w4.heap.size, 6, none⟩ = some (.int .i64 xc) := hx8.cell 6
    have y7 : ((w6.setCell ⟨w4.heap.size, 4, none⟩ (.int .i64 yl)).setCell ⟨w4.heap.size, 5, none⟩ (.int .i64 yg)).cell? ⟨w4.heap.size, 7, none⟩ = some (.int .i64 0) := hx8.cell 7
    have HQ := Lib.hid (elem_end2 (B := B) (c0 := c) (i := i) (kd := 4) (p := p) (sd := sd) hw8 hgw ⟨4, Ly.ename i, p, sd, yl, yg, xc, 0⟩ rfl rfl rfl rfl (elem_sound (Ly.ename_ok i) hk ⟨hy1, hy2, hc1, hsd, .inr ⟨(by decide : (4 : Int) ≠ 2), rfl⟩⟩) (by omega))
    clear rb hw4a hxb hw5 hx5 hw6 hx6 hw4 hw8 hx8
    go_wp2_with fail
    obtain ⟨hB, hE⟩ := HQ.out
    change bodyPost _ _ _ _ _ (store8 ((w6.setCell ⟨w4.heap.size, 4, none⟩ (.int .i64 yl)).setCell ⟨w4.heap.size, 5, none⟩ (.int .i64 yg)) w.heap.size ⟨4, Ly.ename i, p, sd, yl, yg, xc, 0⟩)
    generalize store8 ((w6.setCell ⟨w4.heap.size, 4, none⟩ (.int .i64 yl)).setCell ⟨w4.heap.size, 5, none⟩ (.int .i64 yg)) w.heap.size ⟨4, Ly.ename i, p, sd, yl, yg, xc, 0⟩ = W at hB hE ⊢
    have q0 : W.cell? ⟨w.heap.size, 0, none⟩ = some (.int .i64 4) := hB.cell 0
    have q1 : W.cell? ⟨w.heap.size, 1, none⟩ = some (.string (Ly.ename i)) := hB.cell 1
    have q2 : W.cell? ⟨w.heap.size, 2, none⟩ = some (.int .i64 p) := hB.cell 2
    have q3 : W.cell? ⟨w.heap.size, 3, none⟩ = some (.int .i64 sd) := hB.cell 3
    have q4 : W.cell? ⟨w.heap.size, 4, none⟩ = some (.int .i64 yl) := hB.cell 4
    have q5 : W.cell? ⟨w.heap.size, 5, none⟩ = some (.int .i64 yg) := hB.cell 5
    have q6 : W.cell? ⟨w.heap.size, 6, none⟩ = some (.int .i64 xc) := hB.cell 6
    have q7 : W.cell? ⟨w.heap.size, 7, none⟩ = some (.int .i64 0) := hB.cell 7
    exact bodyPost_ret (v := leV ⟨4, Ly.ename i, p, sd, yl, yg, xc, 0⟩) (by simp [results, leV, Tryd.results38, go_sem, q0, q1, q2, q3, q4, q5, q6, q7]) rfl hE
  have e2 : (kd == 2) = false := by simpa using h2
  have e4 : (kd == 4) = false := by simpa using h4
  have HQ := Lib.hid (elem_end (B := B) (c0 := c) (i := i) (kd := kd) (p := p) (sd := sd) hw4 hgw (.cells #[.int .i64 kd, .string (Ly.ename i), .int .i64 p, .int .i64 sd, .int .i64 xl, .int .i64 xg, .int .i64 xc, .int .i64 0] 48) ⟨kd, Ly.ename i, p, sd, xl, xg, xc, 0⟩ rfl rfl rfl rfl (elem_sound (Ly.ename_ok i) hk ⟨hl1, hg1, hc1, hsd, .inr ⟨h2, rfl⟩⟩) (by omega))
  have HRb := Lib.hid rb
  clear h2 h4 rb
  go_wp2_with fail
  obtain ⟨hB, hE⟩ := HQ.out
  change bodyPost _ _ _ _ _ (store8 (w4.alloc _) w.heap.size ⟨kd, Ly.ename i, p, sd, xl, xg, xc, 0⟩)
  generalize store8 (w4.alloc (.cells #[.int .i64 kd, .string (Ly.ename i), .int .i64 p, .int .i64 sd, .int .i64 xl, .int .i64 xg, .int .i64 xc, .int .i64 0] 48)) w.heap.size ⟨kd, Ly.ename i, p, sd, xl, xg, xc, 0⟩ = W at hB hE ⊢
  have q0 : W.cell? ⟨w.heap.size, 0, none⟩ = some (.int .i64 kd) := hB.cell 0
  have q1 : W.cell? ⟨w.heap.size, 1, none⟩ = some (.string (Ly.ename i)) := hB.cell 1
  have q2 : W.cell? ⟨w.heap.size, 2, none⟩ = some (.int .i64 p) := hB.cell 2
  have q3 : W.cell? ⟨w.heap.size, 3, none⟩ = some (.int .i64 sd) := hB.cell 3
  have q4 : W.cell? ⟨w.heap.size, 4, none⟩ = some (.int .i64 xl) := hB.cell 4
  have q5 : W.cell? ⟨w.heap.size, 5, none⟩ = some (.int .i64 xg) := hB.cell 5
  have q6 : W.cell? ⟨w.heap.size, 6, none⟩ = some (.int .i64 xc) := hB.cell 6
  have q7 : W.cell? ⟨w.heap.size, 7, none⟩ = some (.int .i64 0) := hB.cell 7
  refine bodyPost_ret (v := leV ⟨kd, Ly.ename i, p, sd, xl, xg, xc, 0⟩) (by simp [results, leV, Tryd.results38, go_sem, q0, q1, q2, q3, q4, q5, q6, q7]) rfl hE
end Go.Proofs.YtmjdjcpmkdninaaDoor
