/- The walk of 'FinalsheetExact'. -/
import Derived.Test.YtiegpkbollihgaaDoorFnMade
import Derived.Test.YtiegpkbollihgaaDoorFnOwn
import Derived.Test.YtiegpkbollihgaaDoorFnEx
import Derived.Test.YtiegpkbollihgaaDoorFnG5
import Derived.Test.YtiegpkbollihgaaDoorFnSane
import Derived.Deep.RegionLaw
namespace Go.Proofs.YtiegpkbollihgaaDoor
open Go.RowKit
/-- A sheet in a block with rows of its own, the maker beside it. -/
def FxE (B : Nat) (w : World) (g c xb : Nat) (W : World) : Prop := ∃ (A : Option Addr) (m cp : Nat) (Bs : Option Addr) (k d : Nat) (f : FN) (b0 b1 b2 b3 b4 b5 b6 : Int) (c' : Nat), Blk W xb 28 #[.string f.nm, .slice A m cp, .int .i64 b0, .int .i64 b1, .int .i64 b2, .int .i64 b3, .int .i64 b4, .int .i64 b5, .int .i64 b6, .slice Bs k d] ∧ W.ownsRow g 34 8 (.slice A m cp) m (flatW f.ws) ∧ W.ownsRow g 39 3 (.slice Bs k d) k (flatS f.so) ∧ Hid (f.bk = [b0, b1, b2, b3, b4, b5, b6]) ∧ Hid (f.nm.size ≤ 100 ∧ ∀ x ∈ f.ws, x.nu.size ≤ 100 ∧ x.de.size ≤ 100) ∧ c' ≤ c ∧ Mk B W g c' ∧ Below w.heap.size w W
theorem own_FR {W : World} {B : Nat} {A : Option Addr} {m cp : Nat} {Bs : Option Addr} {k d : Nat} {f : FN} (oW : W.ownsRow B 34 8 (.slice A m cp) m (flatW f.ws)) (oS : W.ownsRow B 39 3 (.slice Bs k d) k (flatS f.so)) (hh : f.nm.size ≤ 100 ∧ ∀ x ∈ f.ws, x.nu.size ≤ 100 ∧ x.de.size ≤ 100) : FR W A m Bs k f := by
  obtain ⟨_, _, e1, h1, h2⟩ := own_form oW
  obtain ⟨_, _, e2, h3, h4⟩ := own_form oS
  exact ⟨own_WR oW, own_SR oS, Nat.le_trans h1 h2, Nat.le_trans h3 h4, Nat.le_trans hh.1 (by decide), fun x hx => ⟨Nat.le_trans (hh.2 x hx).1 (by decide), Nat.le_trans (hh.2 x hx).2 (by decide)⟩⟩
def FxI (B : Nat) (w : World) (g : Nat) (v4 vi : Value) (W : World) : Prop := ∃ i c : Nat, i ≤ 3 ∧ v4 = .bool false ∧ vi = .int .i64 (i : Int) ∧ c ≤ 1000 * i ∧ Mk B W g c ∧ Below w.heap.size w W
/-- Set-outs that are appended. -/
def FxS (B : Nat) (w : World) (g c xb : Nat) (f0 : FN) (A : Option Addr) (m cp : Nat) (b0 b1 b2 b3 b4 b5 b6 : Int) (RF : Array Value) (vn : Value) (W : World) : Prop := ∃ (so : List SO) (vS : Value) (q c' : Nat), vn = .int .i64 (q : Int) ∧ q ≤ 17 ∧ so.length + q ≤ 40 ∧ c' + q ≤ c ∧ Blk W w.heap.size 28 RF ∧ Blk W xb 28 #[.string f0.nm, .slice A m cp, .int .i64 b0, .int .i64 b1, .int .i64 b2, .int .i64 b3, .int .i64 b4, .int .i64 b5, .int .i64 b6, vS] ∧ W.ownsRow g 34 8 (.slice A m cp) m (flatW f0.ws) ∧ W.ownsRow g 39 3 vS so.length (flatS so) ∧ Mk B W g c' ∧ Below w.heap.size w W
theorem ok_hs {n : Nat} {f : FN} (h : FnOk n f) : f.nm.size ≤ 12 ∧ ∀ x ∈ f.ws, x.nu.size = 12 ∧ x.de.size ≤ 12 ∧ -1000000 ≤ x.ms ∧ x.ms ≤ 1000000 := by
  obtain ⟨h1, _, h3, _, _⟩ := Fn.fErr_zero h.err
  refine ⟨Fn.nm_size h1, fun x hx => ?_⟩
  obtain ⟨k1, _, k3, k4⟩ := Fn.wErr_zero (h3 x hx)
  refine ⟨(kErr_size k1).1, Fn.nm_size k4, ?_⟩
  unfold Fn.rangeOk at k3
  simp only [Bool.and_eq_true, decide_eq_true_eq] at k3
  omega
theorem four_cell {W : World} {b : Nat} {e : TypeId} (h : Blk W b e #[.string ⟨#[120]⟩, .string ⟨#[]⟩, .string ⟨#[88]⟩, .string ⟨#[97, 32, 98]⟩]) {y : Nat} (hy : y < 4) : ∃ q : ByteArray, q.size ≤ 12 ∧ W.cell? ⟨b, y, none⟩ = some (.string q) := by
  have hh : y = 0 ∨ y = 1 ∨ y = 2 ∨ y = 3 := by omega
  rcases hh with rfl | rfl | rfl | rfl
  · exact ⟨_, by decide, h.cell 0⟩
  · exact ⟨_, by decide, h.cell 1⟩
  · exact ⟨_, by decide, h.cell 2⟩
  · exact ⟨_, by decide, h.cell 3⟩
set_option linter.unusedVariables false in
set_option maxRecDepth 100000 in
set_option maxHeartbeats 16000000 in
theorem walk_FinalsheetExact (a0 : Option Addr) (len0 cap0 : Nat) (z0 : List Int) (Af : Option Addr) (nf cf : Nat) (Bf : Option Addr) (mf df : Nat) (ff : FN) (e0 e1 e2 e3 e4 e5 e6 : Int) (mx : Int) (w : World) (w0 : IsRow .i64 w a0 len0 cap0 z0) (w1 : FR w Af nf Bf mf ff ∧ ff.bk = [e0, e1, e2, e3, e4, e5, e6]) (hmx : w.cell? ⟨0, 0, none⟩ = some (.int .i64 mx)) (ht : Tab10 w) :
    Calls Tryd.prog 3 #[.slice a0 len0 cap0, fnV Af nf cf Bf mf df ff.nm e0 e1 e2 e3 e4 e5 e6] w fun e w' => e = .returned (.bool true) ∧ Below w.heap.size w w' := by
  obtain ⟨r0, m0, _⟩ := w0.reads
  obtain ⟨hF0, hbk0⟩ := w1
  have Hbk0 := Lib.hid hbk0
  clear w0 hbk0
  generalize z0.take len0 = l0 at r0
  obtain ⟨Wb, hWb⟩ : ∃ Wb, w.alloc (.cells #[.string ff.nm, .slice Af nf cf, .int .i64 e0, .int .i64 e1, .int .i64 e2, .int .i64 e3, .int .i64 e4, .int .i64 e5, .int .i64 e6, .slice Bf mf df] 28) = Wb := ⟨_, rfl⟩
  have hFB : Blk Wb w.heap.size 28 #[.string ff.nm, .slice Af nf cf, .int .i64 e0, .int .i64 e1, .int .i64 e2, .int .i64 e3, .int .i64 e4, .int .i64 e5, .int .i64 e6, .slice Bf mf df] := by rw [← hWb]; exact Blk.new w _ _
  have hbb : Below w.heap.size w Wb := by rw [← hWb]; exact (Below.refl _ _).alloc (Nat.le_refl _) _
  have r1 : IR .i64 Wb a0 len0 l0 := by rw [← hWb]; exact r0.below ((Below.refl _ _).alloc (Nat.le_refl _) _)
  clear r0
  have HN := Lib.hid (new_c a0 len0 cap0 l0 Wb m0 r1)
  clear r1
  go_enter Tryd.func3, Tryd.ntmps3
  unfold fnV
  go_wp2_with fail
  refine HN.out.mono ?_
  rintro e w1 ⟨rfl, hm1, hb1, hz1⟩
  obtain ⟨g, hg⟩ : ∃ g, Wb.heap.size = g := ⟨_, rfl⟩
  rw [hg] at hm1 hb1
  have hwg : w.heap.size < g := by rw [← hg]; exact hFB.lt
  have hb1' : Below w.heap.size w w1 := hbb.trans (hb1.mono (by omega))
  have hFB1 : Blk w1 w.heap.size 28 #[.string ff.nm, .slice Af nf cf, .int .i64 e0, .int .i64 e1, .int .i64 e2, .int .i64 e3, .int .i64 e4, .int .i64 e5, .int .i64 e6, .slice Bf mf df] := hFB.below hb1 hwg
  clear hz1 hWb hFB hbb hb1 HN
  go_wp2_with fail
  go_loopw [4, 6] (fun v4 vi wr => FxI g w g v4 vi wr ∧ Blk wr w.heap.size 28 #[.string ff.nm, .slice Af nf cf, .int .i64 e0, .int .i64 e1, .int .i64 e2, .int .i64 e3, .int .i64 e4, .int .i64 e5, .int .i64 e6, .slice Bf mf df]) (fun _ vi _ => 3 - (intOf vi).toNat)
  case atStart => exact ⟨(show FxI _ _ _ _ _ _ from ⟨0, 0, by omega, rfl, rfl, by omega, hm1, hb1'⟩), hFB1⟩
  case round =>
    obtain ⟨⟨i, c, hi, rfl, rfl, hc, hmk, hbr⟩, hFr⟩ := hrel
    clear hm1 hb1' hFB1
    by_cases hlt : i < 3
    · have dlt : decide ((i : Int) < 3) = true := decide_eq_true (by omega)
      have hwr := hbr.size
      have hmlt := hmk.lt
      go_wp2_with fail
      refine (fmade_c g g c 9 wr hmk (by omega) (by omega) (by omega)).mono ?_
      rintro e w2 ⟨A, m, cp, Bs, k, d, f, b0, b1, b2, b3, b4, b5, b6, c2, rfl, HOK, Hbk, oW2, oS2, hc2, hm2, hg2⟩
      have oW := own_more (B' := g) oW2 (by omega)
      have oS := own_more (B' := g) oS2 (by omega)
      have hb2 := hbr.trans (grown_below hg2 hwr (by omega))
      have hF2 := hFr.grown hg2 (fun e => by have := Option.some.inj e; omega)
      clear oW2 oS2 hg2 hmk hbr hFr
      obtain ⟨xb, hxb⟩ : ∃ xb, w2.heap.size = xb := ⟨_, rfl⟩
      obtain ⟨W3, hW3⟩ : ∃ W3, w2.alloc (.cells #[.string f.nm, .slice A m cp, .int .i64 b0, .int .i64 b1, .int .i64 b2, .int .i64 b3, .int .i64 b4, .int .i64 b5, .int .i64 b6, .slice Bs k d] 28) = W3 := ⟨_, rfl⟩
      have hX3 : Blk W3 xb 28 #[.string f.nm, .slice A m cp, .int .i64 b0, .int .i64 b1, .int .i64 b2, .int .i64 b3, .int .i64 b4, .int .i64 b5, .int .i64 b6, .slice Bs k d] := by rw [← hW3, ← hxb]; exact Blk.new w2 _ _
      have oW3 : W3.ownsRow g 34 8 (.slice A m cp) m (flatW f.ws) := by rw [← hW3]; exact oW.alloc _
      have oS3 : W3.ownsRow g 39 3 (.slice Bs k d) k (flatS f.so) := by rw [← hW3]; exact oS.alloc _
      have hm3 : Mk g W3 g c2 := by rw [← hW3]; exact hm2.alloc _
      have hb3 : Below w.heap.size w W3 := by rw [← hW3]; exact hb2.alloc hb2.size _
      have hF3 : Blk W3 w.heap.size 28 #[.string ff.nm, .slice Af nf cf, .int .i64 e0, .int .i64 e1, .int .i64 e2, .int .i64 e3, .int .i64 e4, .int .i64 e5, .int .i64 e6, .slice Bf mf df] := by rw [← hW3]; exact hF2.alloc _
      have hgxb : g < xb := by rw [← hxb]; exact hm2.lt
      have hgs : (some xb : Option Nat) ≠ some g := fun e => by have := Option.some.inj e; omega
      have hgf : (some w.heap.size : Option Nat) ≠ some g := fun e => by have := Option.some.inj e; omega
      have hml : m = f.ws.length := (ownW_len oW).symm
      have hkl : k = f.so.length := by have := oS.1; rw [flatS_len] at this; omega
      have hm9 : m ≤ 9 := by rw [hml]; exact HOK.out.ws
      have hk4 : k ≤ 4 := by rw [hkl]; exact HOK.out.so
      have Hml := Lib.hid hml
      have Hkl := Lib.hid hkl
      clear oW oS hm2 hb2 hF2 hml hkl
      unfold fnV
      go_upto_block 2 with fail
      go_cut [8, 9] from 19 to 68 (fun _ _ W => FxE g w g (c2 + 60) xb W ∧ Blk W w.heap.size 28 #[.string ff.nm, .slice Af nf cf, .int .i64 e0, .int .i64 e1, .int .i64 e2, .int .i64 e3, .int .i64 e4, .int .i64 e5, .int .i64 e6, .slice Bf mf df])
      case first =>
        have HH := ok_hs HOK.out
        have HH' := Lib.hid HH
        have HHn : Hid (f.nm.size ≤ 100 ∧ ∀ x ∈ f.ws, x.nu.size ≤ 100 ∧ x.de.size ≤ 100) := Lib.hid ⟨by have := HH.1; omega, fun x hx => by have := HH.2 x hx; omega⟩
        clear HH
        by_cases h1 : i = 1
        · subst h1
          have q1 : (((1 : Nat) : Int) == 1) = true := rfl
          have x1 : W3.cell? ⟨xb, 1, none⟩ = some (.slice A m cp) := hX3.cell 1
          go_upto_if 24 with fail
          go_cut [8] from 24 to 40 (fun _ W => FxE g w g (c2 + 50) xb W ∧ Blk W w.heap.size 28 #[.string ff.nm, .slice Af nf cf, .int .i64 e0, .int .i64 e1, .int .i64 e2, .int .i64 e3, .int .i64 e4, .int .i64 e5, .int .i64 e6, .slice Bf mf df])
          case first =>
            by_cases hm0 : 0 < m
            · have d24 : decide ((0 : Int) < (m : Int)) = true := decide_eq_true (by omega)
              have d24' : decide (0 < m) = true := decide_eq_true hm0
              go_wp2_with fail
              refine (next_c g g c2 m W3 hm3 (by omega) (by omega) (by omega)).mono ?_
              rintro e w4 ⟨y0, hy0, hy1, rfl, hm4, hg4⟩
              obtain ⟨y, rfl⟩ := Int.eq_ofNat_of_zero_le hy0
              have hym : y < m := by omega
              have hyi : (y : Int) < (m : Int) := by omega
              have hy0' : (0 : Int) ≤ (y : Int) := by omega
              have hwg3 := hb3.size
              have hX4 := hX3.grown hg4 hgs
              have oW4 := oW3.kept hg4 (.inr (hm3.ne oW3 (by decide)))
              have oS4 := oS3.kept hg4 (.inr (hm3.ne oS3 (by decide)))
              have hb4 := hb3.trans (grown_below hg4 hwg3 (by omega))
              have hF4 := hF3.grown hg4 hgf
              obtain ⟨gw, cw, eA, _⟩ := oW4.form hm0
              injection eA with eA1 _ eA3
              subst eA1
              subst eA3
              clear hm3 hX3 oW3 oS3 hb3 hF3 hg4 hy0 hy1 hwg3
              obtain ⟨x, hx⟩ : ∃ x, f.ws[y]? = some x := ⟨f.ws[y]'(by have := Hml.out; omega), List.getElem?_eq_getElem _⟩
              have Hx := Lib.hid hx
              have Hxm := Lib.hid (List.mem_of_getElem? hx)
              clear hx
              have kc0 : w4.cell? ⟨gw, y * 8, none⟩ = some (.string x.nu) := by have := oW4.cellAt (y * 8 + 0) (by omega); rw [flatW_at f.ws y x Hx.out 0 _ rfl] at this; exact this
              have kc1 : w4.cell? ⟨gw, y * 8 + 1, none⟩ = some (.int .i64 x.len) := by have := oW4.cellAt (y * 8 + 1) (by omega); rw [flatW_at f.ws y x Hx.out 1 _ rfl] at this; exact this
              have kc2 : w4.cell? ⟨gw, y * 8 + 2, none⟩ = some (.int .i64 x.ax) := by have := oW4.cellAt (y * 8 + 2) (by omega); rw [flatW_at f.ws y x Hx.out 2 _ rfl] at this; exact this
              have kc3 : w4.cell? ⟨gw, y * 8 + 3, none⟩ = some (.int .i64 x.ms) := by have := oW4.cellAt (y * 8 + 3) (by omega); rw [flatW_at f.ws y x Hx.out 3 _ rfl] at this; exact this
              have kc4 : w4.cell? ⟨gw, y * 8 + 4, none⟩ = some (.int .i64 x.br) := by have := oW4.cellAt (y * 8 + 4) (by omega); rw [flatW_at f.ws y x Hx.out 4 _ rfl] at this; exact this
              have kc5 : w4.cell? ⟨gw, y * 8 + 5, none⟩ = some (.int .i64 x.gd) := by have := oW4.cellAt (y * 8 + 5) (by omega); rw [flatW_at f.ws y x Hx.out 5 _ rfl] at this; exact this
              have kc6 : w4.cell? ⟨gw, y * 8 + 6, none⟩ = some (.bool x.gt) := by have := oW4.cellAt (y * 8 + 6) (by omega); rw [flatW_at f.ws y x Hx.out 6 _ rfl] at this; exact this
              have kc7 : w4.cell? ⟨gw, y * 8 + 7, none⟩ = some (.string x.de) := by have := oW4.cellAt (y * 8 + 7) (by omega); rw [flatW_at f.ws y x Hx.out 7 _ rfl] at this; exact this
              have y1 : w4.cell? ⟨xb, 1, none⟩ = some (.slice (some ⟨gw, 0, none⟩) m cp) := hX4.cell 1
              have hm4d : Mk g w4.drew g (c2 + 1) := ⟨hm4.ge, hm4.blk⟩
              have hX4d : Blk w4.drew xb 28 #[.string f.nm, .slice (some ⟨gw, 0, none⟩) m cp, .int .i64 b0, .int .i64 b1, .int .i64 b2, .int .i64 b3, .int .i64 b4, .int .i64 b5, .int .i64 b6, .slice Bs k d] := hX4
              have oW4d := own_drew oW4
              have oS4d := own_drew oS4
              have hF4d : Blk w4.drew w.heap.size 28 #[.string ff.nm, .slice Af nf cf, .int .i64 e0, .int .i64 e1, .int .i64 e2, .int .i64 e3, .int .i64 e4, .int .i64 e5, .int .i64 e6, .slice Bf mf df] := hF4
              have hb4d : Below w.heap.size w w4.drew := hb4.drew
              have HSP : Hid (∀ W, Mk g W g (c2 + 1) → Calls Tryd.prog 10 #[.pointer (some ⟨g, 0, none⟩), .agg #[.string x.nu, .int .i64 x.len, .int .i64 x.ax, .int .i64 x.ms, .int .i64 x.br, .int .i64 x.gd, .bool x.gt, .string x.de]] W fun e w' => ∃ (z : WG) (c' : Nat), e = .returned (.agg #[.string z.nu, .int .i64 z.len, .int .i64 z.ax, .int .i64 z.ms, .int .i64 z.br, .int .i64 z.gd, .bool z.gt, .string z.de]) ∧ (z.nu.size ≤ x.nu.size + 1 ∧ z.de.size ≤ x.de.size + 13) ∧ c' ≤ c2 + 1 + 5 ∧ Mk g w' g c' ∧ W.grownBy w' (some g)) := Lib.hid (fun W hM => by
                have h2 := HH'.out.2 x Hxm.out
                exact (gspoilw_c g g (c2 + 1) x W hM (by omega) (by omega) (by omega)).mono fun e w' ⟨z, c', h1, h2, h3, h4, h5⟩ => ⟨z, c', h1, h2, h3, h4, h5⟩)
              have hgw1 := own_ge oW4 gw rfl
              have hgwg : (some gw : Option Nat) ≠ some g := fun e => hm4.ne oW4 (by decide) (by rw [← e]; rfl)
              clear hm4 hX4 oW4 oS4 hF4 hb4
              go_wp2_with fail
              go_region_law (refine step_callC rfl Tryd.func10 (by kernel_rfl) (by kernel_rfl) (Operand.func 10) rfl #[.tmp 33, .tmp 38] #[29, 34] rfl #[.pointer (some ⟨g, 0, none⟩), .agg #[.string x.nu, .int .i64 x.len, .int .i64 x.ax, .int .i64 x.ms, .int .i64 x.br, .int .i64 x.gd, .bool x.gt, .string x.de]] rfl (HSP.out _ hm4d) ?_
                             rintro e w5 ⟨z, c5, rfl, hz, hcz, hm5, hg5⟩
                             refine ⟨_, rfl, ?_⟩
                             have hX5 := hX4d.grown hg5 hgs
                             have oW5 := oW4d.kept hg5 (.inr (hm4d.ne oW4d (by decide)))
                             have yy1 : w5.cell? ⟨xb, 1, none⟩ = some (.slice (some ⟨gw, 0, none⟩) m cp) := hX5.cell 1
                             have p0 : w5.cell? ⟨gw, y * 8, none⟩ = some (.string x.nu) := by have := oW5.cellAt (y * 8 + 0) (by omega); rw [flatW_at f.ws y x Hx.out 0 _ rfl] at this; exact this
                             have p1 : w5.cell? ⟨gw, y * 8 + 1, none⟩ = some (.int .i64 x.len) := by have := oW5.cellAt (y * 8 + 1) (by omega); rw [flatW_at f.ws y x Hx.out 1 _ rfl] at this; exact this
                             have p2 : w5.cell? ⟨gw, y * 8 + 2, none⟩ = some (.int .i64 x.ax) := by have := oW5.cellAt (y * 8 + 2) (by omega); rw [flatW_at f.ws y x Hx.out 2 _ rfl] at this; exact this
                             have p3 : w5.cell? ⟨gw, y * 8 + 3, none⟩ = some (.int .i64 x.ms) := by have := oW5.cellAt (y * 8 + 3) (by omega); rw [flatW_at f.ws y x Hx.out 3 _ rfl] at this; exact this
                             have p4 : w5.cell? ⟨gw, y * 8 + 4, none⟩ = some (.int .i64 x.br) := by have := oW5.cellAt (y * 8 + 4) (by omega); rw [flatW_at f.ws y x Hx.out 4 _ rfl] at this; exact this
                             have p5 : w5.cell? ⟨gw, y * 8 + 5, none⟩ = some (.int .i64 x.gd) := by have := oW5.cellAt (y * 8 + 5) (by omega); rw [flatW_at f.ws y x Hx.out 5 _ rfl] at this; exact this
                             have p6 : w5.cell? ⟨gw, y * 8 + 6, none⟩ = some (.bool x.gt) := by have := oW5.cellAt (y * 8 + 6) (by omega); rw [flatW_at f.ws y x Hx.out 6 _ rfl] at this; exact this
                             have p7 : w5.cell? ⟨gw, y * 8 + 7, none⟩ = some (.string x.de) := by have := oW5.cellAt (y * 8 + 7) (by omega); rw [flatW_at f.ws y x Hx.out 7 _ rfl] at this; exact this
                             have pf0 : w5.frozen? ⟨gw, y * 8, none⟩ = false := oW5.frozenAt (y * 8 + 0)
                             have pf1 : w5.frozen? ⟨gw, y * 8 + 1, none⟩ = false := oW5.frozenAt (y * 8 + 1)
                             have pf2 : w5.frozen? ⟨gw, y * 8 + 2, none⟩ = false := oW5.frozenAt (y * 8 + 2)
                             have pf3 : w5.frozen? ⟨gw, y * 8 + 3, none⟩ = false := oW5.frozenAt (y * 8 + 3)
                             have pf4 : w5.frozen? ⟨gw, y * 8 + 4, none⟩ = false := oW5.frozenAt (y * 8 + 4)
                             have pf5 : w5.frozen? ⟨gw, y * 8 + 5, none⟩ = false := oW5.frozenAt (y * 8 + 5)
                             have pf6 : w5.frozen? ⟨gw, y * 8 + 6, none⟩ = false := oW5.frozenAt (y * 8 + 6)
                             have pf7 : w5.frozen? ⟨gw, y * 8 + 7, none⟩ = false := oW5.frozenAt (y * 8 + 7))
              all_goals
                have hF5 := hF4d.grown hg5 hgf
                have oS5 := oS4d.kept hg5 (.inr (hm4d.ne oS4d (by decide)))
                have hb5 := hb4d.trans (grown_below hg5 hb4d.size (by omega))
                obtain ⟨W6, hW6⟩ : ∃ W6, ((((((((w5.setCell ⟨gw, y * 8, none⟩ (.string z.nu)).setCell ⟨gw, y * 8 + 1, none⟩ (.int .i64 z.len)).setCell ⟨gw, y * 8 + 2, none⟩ (.int .i64 z.ax)).setCell ⟨gw, y * 8 + 3, none⟩ (.int .i64 z.ms)).setCell ⟨gw, y * 8 + 4, none⟩ (.int .i64 z.br)).setCell ⟨gw, y * 8 + 5, none⟩ (.int .i64 z.gd)).setCell ⟨gw, y * 8 + 6, none⟩ (.bool z.gt)).setCell ⟨gw, y * 8 + 7, none⟩ (.string z.de)) = W6 := ⟨_, rfl⟩
                have e6 : W6 = w5.setCells gw (y * 8) (cellsW z) := hW6.symm
                have hg6 : w5.grownBy W6 (some gw) := by rw [e6]; exact setCells_grown gw _ _ w5
                have oW6 : W6.ownsRow g 34 8 (.slice (some ⟨gw, 0, none⟩) m cp) m (flatW (f.ws.set y z)) := by
                  rw [e6, ← setL_flatW f.ws y z (by have := Hml.out; omega)]
                  exact own_setCells _ _ _ _ oW5
                have oS6 := oS5.kept hg6 (apart.symm (own_ne_type oW5 oS5 (by decide)))
                have hX6 := hX5.grown hg6 (fun e => own_blk_ne oW5 hX5 (by decide) e.symm)
                have hF6 := hF5.grown hg6 (fun e => own_blk_ne oW5 hF5 (by decide) e.symm)
                have hm6 := hm5.grown hg6 hgwg (fun b e => by have := Option.some.inj e; have := hm5.ge; omega)
                have hb6 : Below w.heap.size w W6 := hb5.grown hg6 hb5.size (fun b e => by have := Option.some.inj e; omega)
                have HH6 : Hid (f.nm.size ≤ 100 ∧ ∀ x ∈ f.ws.set y z, x.nu.size ≤ 100 ∧ x.de.size ≤ 100) := Lib.hid ⟨HHn.out.1, fun q hq => by
                  have h2 := HH'.out.2
                  rcases List.mem_or_eq_of_mem_set hq with hq | e
                  · have := h2 q hq; omega
                  · have := h2 x Hxm.out; rw [e]; omega⟩
                rw [hW6]
                have HX : Hid (FxE g w g (c2 + 50) xb W6) := Lib.hid ⟨some ⟨gw, 0, none⟩, m, cp, Bs, k, d, ⟨f.nm, f.ws.set y z, f.bk, f.so⟩, b0, b1, b2, b3, b4, b5, b6, c5, hX6, oW6, oS6, Hbk, HH6, by omega, hm6, hb6⟩
                have HFW := Lib.hid hF6
                clear hX5 oW5 yy1 hX6 oW6 oS6 hm6 hb6 hF6 e6 hW6 hg6 hF5 oS5 hb5 hm5 hg5 HSP hm4d hX4d oW4d oS4d hF4d hb4d
                clear p0 p1 p2 p3 p4 p5 p6 p7 pf0 pf1 pf2 pf3 pf4 pf5 pf6 pf7 kc0 kc1 kc2 kc3 kc4 kc5 kc6 kc7
                go_wp2_with fail
                go_meet
                exact ⟨HX.out, HFW.out⟩
            · have d24 : decide ((0 : Int) < (m : Int)) = false := decide_eq_false (by omega)
              have d24' : decide (0 < m) = false := decide_eq_false hm0
              go_wp2_with fail
              go_meet
              exact ⟨⟨A, m, cp, Bs, k, d, f, b0, b1, b2, b3, b4, b5, b6, c2, hX3, oW3, oS3, Hbk, HHn, by omega, hm3, hb3⟩, hF3⟩
          case rest =>
            obtain ⟨⟨A1, m1, cp1, Bs1, k1, d1, f1, n0, n1, n2, n3, n4, n5, n6, c3, hX, oWc, oSc, Hbk1, HHc, hc3, hmk, hb⟩, hFc⟩ := hcut
            clear hX3 oW3 oS3 hm3 hb3 hF3 x1
            have hQ := Blk.new wc 9 #[.string ⟨#[120]⟩, .string ⟨#[]⟩, .string ⟨#[88]⟩, .string ⟨#[97, 32, 98]⟩]
            have hal := World.grownBy_alloc wc (.cells #[.string ⟨#[120]⟩, .string ⟨#[]⟩, .string ⟨#[88]⟩, .string ⟨#[97, 32, 98]⟩] 9) (some g)
            have hngd : (some wc.heap.size : Option Nat) ≠ some g := fun e => by have := hmk.lt; have := Option.some.inj e; omega
            go_wp2_with fail
            refine (next_c g g c3 4 _ (hmk.alloc _) (by omega) (by omega) (by omega)).mono ?_
            rintro e w4 ⟨y0, hy0, hy1, rfl, hm4, hg4⟩
            obtain ⟨y, rfl⟩ := Int.eq_ofNat_of_zero_le hy0
            have hy4 : y < 4 := by omega
            have hyi : (y : Int) < 4 := by omega
            have hy0' : (0 : Int) ≤ (y : Int) := by omega
            obtain ⟨q, hq4, cq⟩ := four_cell (hQ.grown hg4 hngd) hy4
            have hg5 := hal.trans hg4
            have hX4 := hX.grown hg5 hgs
            have hF4 := hFc.grown hg5 hgf
            have hbl : Below w.heap.size w w4 := hb.grown hg5 hb.size (fun b e => by have := Option.some.inj e; omega)
            have z0 : w4.cell? ⟨xb, 0, none⟩ = some (.string f1.nm) := hX4.cell 0
            have zf : w4.frozen? ⟨xb, 0, none⟩ = false := hX4.frozen 0
            have oW4 := oWc.kept hg5 (.inr (hmk.ne oWc (by decide)))
            have oS4 := oSc.kept hg5 (.inr (hmk.ne oSc (by decide)))
            have hg6 := grown_setc w4 xb 0 (.string q)
            have oW5 := own_farB (j := 0) oW4 hX4 (by decide) (.string q)
            have oS5 := own_farB (j := 0) oS4 hX4 (by decide) (.string q)
            have hX5 : Blk (w4.setCell ⟨xb, 0, none⟩ (.string q)) xb 28 #[.string q, .slice A1 m1 cp1, .int .i64 n0, .int .i64 n1, .int .i64 n2, .int .i64 n3, .int .i64 n4, .int .i64 n5, .int .i64 n6, .slice Bs1 k1 d1] := hX4.set_ 0 _
            have hF5 := hF4.grown hg6 (fun e => by have := Option.some.inj e; omega)
            have hm5 := hm4.grown hg6 (fun e => by have := Option.some.inj e; omega) (fun b e => by have := Option.some.inj e; omega)
            have hb5 : Below w.heap.size w _ := hbl.grown hg6 hbl.size (fun b e => by have := Option.some.inj e; omega)
            have HX : Hid (FxE g w g (c2 + 60) xb (w4.setCell ⟨xb, 0, none⟩ (.string q))) := Lib.hid ⟨A1, m1, cp1, Bs1, k1, d1, ⟨q, f1.ws, f1.bk, f1.so⟩, n0, n1, n2, n3, n4, n5, n6, c3 + 1, hX5, oW5, oS5, Hbk1, Lib.hid ⟨by show q.size ≤ 100; omega, HHc.out.2⟩, by omega, hm5, hb5⟩
            have HFW := Lib.hid hF5
            clear hm5 hb5 hF5 hX5 oW5 oS5 hg6 oW4 oS4 hX4 hF4 hbl hm4 hg4 hg5 hal hQ hX oWc oSc hmk hb hFc
            go_wp2_with fail
            go_meet
            exact ⟨HX.out, HFW.out⟩
        · by_cases h2 : i = 2
          · subst h2
            have q1 : (((2 : Nat) : Int) == 1) = false := rfl
            have q2 : (((2 : Nat) : Int) == 2) = true := rfl
            have hngd : W3.heap.size ≠ g := by have := hm3.lt; omega
            go_wp2_with fail
            refine (pick_c g g c2 W3.heap.size 4 _ [-1, 0, 1000000, 1000001] _ (hm3.alloc _) hngd (by omega) (by omega) (by omega) (IR.new _ 4 rfl rfl (by decide))).mono ?_
            rintro e w4 ⟨pc, hpc, rfl, hm4, hg4⟩
            have hg4' := (World.grownBy_alloc W3 (.cells #[.int .i64 (-1), .int .i64 0, .int .i64 1000000, .int .i64 1000001] 3) (some g)).trans hg4
            have hX4 := hX3.grown hg4' hgs
            have oW4 := oW3.kept hg4' (.inr (hm3.ne oW3 (by decide)))
            have oS4 := oS3.kept hg4' (.inr (hm3.ne oS3 (by decide)))
            have hF4 := hF3.grown hg4' hgf
            have hb4 : Below w.heap.size w w4 := hb3.grown hg4' hb3.size (fun b e => by have := Option.some.inj e; have := hb3.size; omega)
            have y6 : w4.cell? ⟨xb, 6, none⟩ = some (.int .i64 b4) := hX4.cell 6
            have f6 : w4.frozen? ⟨xb, 6, none⟩ = false := hX4.frozen 6
            have hg5 := grown_setc w4 xb 6 (.int .i64 pc)
            obtain ⟨W5, hW5⟩ : ∃ W5, w4.setCell ⟨xb, 6, none⟩ (.int .i64 pc) = W5 := ⟨_, rfl⟩
            rw [hW5] at hg5
            have hX5 : Blk W5 xb 28 #[.string f.nm, .slice A m cp, .int .i64 b0, .int .i64 b1, .int .i64 b2, .int .i64 b3, .int .i64 pc, .int .i64 b5, .int .i64 b6, .slice Bs k d] := by rw [← hW5]; exact hX4.set_ 6 _
            have oW5 := oW4.kept hg5 (.inr (own_blk_ne oW4 hX4 (by decide)))
            have oS5 := oS4.kept hg5 (.inr (own_blk_ne oS4 hX4 (by decide)))
            have hF5 := hF4.grown hg5 (fun e => by have := Option.some.inj e; omega)
            have hm5 := hm4.grown hg5 (fun e => by have := Option.some.inj e; omega) (fun b e => by have := Option.some.inj e; omega)
            have hb5 : Below w.heap.size w W5 := hb4.grown hg5 hb4.size (fun b e => by have := Option.some.inj e; omega)
            clear hm3 hX3 oW3 oS3 hb3 hF3 hm4 hg4 hg4' hX4 oW4 oS4 hF4 hb4 hg5 hpc hngd
            go_wp2_with fail
            refine (next_c g g (c2 + 1) 18 W5 hm5 (by omega) (by omega) (by omega)).mono ?_
            rintro e w6 ⟨y0, hy0, hy1, rfl, hm6, hg6⟩
            obtain ⟨y, rfl⟩ := Int.eq_ofNat_of_zero_le hy0
            have hy18 : y ≤ 17 := by omega
            have hX6 := hX5.grown hg6 hgs
            have oW6 := oW5.kept hg6 (.inr (hm5.ne oW5 (by decide)))
            have oS6 := oS5.kept hg6 (.inr (hm5.ne oS5 (by decide)))
            have hF6 := hF5.grown hg6 hgf
            have hb6 : Below w.heap.size w w6 := hb5.grown hg6 hb5.size (fun b e => by have := Option.some.inj e; omega)
            clear hy0 hy1 hm5 hg6 hX5 oW5 oS5 hF5 hb5 y6 f6
            rw [Hkl.out] at hX6 oS6
            go_wp2_with fail
            go_loopw [9] (fun vn wr => FxS g w g (c2 + 40) xb f A m cp b0 b1 b2 b3 pc b5 b6 #[.string ff.nm, .slice Af nf cf, .int .i64 e0, .int .i64 e1, .int .i64 e2, .int .i64 e3, .int .i64 e4, .int .i64 e5, .int .i64 e6, .slice Bf mf df] vn wr) (fun vn _ => (intOf vn).toNat)
            case atStart => exact (show FxS _ _ _ _ _ _ _ _ _ _ _ _ _ _ _ _ _ _ _ from ⟨f.so, _, y, c2 + 2, rfl, hy18, by rw [← Hkl.out]; omega, by omega, hF6, hX6, oW6, oS6, hm6, hb6⟩)
            case round =>
              obtain ⟨so, vS, q, c', rfl, hq17, hsq, hcq, hFr, hXr, oWr, oSr, hmr, hbr⟩ := hrel
              clear hF6 hX6 oW6 oS6 hm6 hb6
              obtain ⟨As, cs, rfl, _, _⟩ := own_form oSr
              by_cases hq0 : 0 < q
              · have d0 : decide ((0 : Int) < (q : Int)) = true := decide_eq_true (by omega)
                have d0' : decide (0 < q) = true := decide_eq_true hq0
                have hXd : Blk wr.drew xb 28 #[.string f.nm, .slice A m cp, .int .i64 b0, .int .i64 b1, .int .i64 b2, .int .i64 b3, .int .i64 pc, .int .i64 b5, .int .i64 b6, .slice As so.length cs] := hXr
                have hmd : Mk g wr.drew g c' := ⟨hmr.ge, hmr.blk⟩
                have oWd := own_drew oWr
                have oSd := own_drew oSr
                have hFd : Blk wr.drew w.heap.size 28 #[.string ff.nm, .slice Af nf cf, .int .i64 e0, .int .i64 e1, .int .i64 e2, .int .i64 e3, .int .i64 e4, .int .i64 e5, .int .i64 e6, .slice Bf mf df] := hFr
                have hbd : Below w.heap.size w wr.drew := hbr.drew
                have y9 : wr.cell? ⟨xb, 9, none⟩ = some (.slice As so.length cs) := hXr.cell 9
                have y9a := fun o : Obj => cell_alloc y9 o
                have h63 : so.length + 1 ≤ maxLen := by unfold maxLen; omega
                have h24 : (so.length + 1) * 24 ≤ 140737488355328 := by omega
                have hngd : wr.drew.heap.size ≠ g := by have := hmd.lt; omega
                have HPK := Lib.hid (pick_c g g c' wr.drew.heap.size 4 4 [0, 1, 1000001, -1] (wr.drew.alloc (.cells #[.int .i64 0, .int .i64 1, .int .i64 1000001, .int .i64 (-1)] 3)) (hmd.alloc _) hngd (by omega) (by omega) (by omega) (IR.new _ 4 rfl rfl (by decide)))
                have hgo : ∀ {W : World} {v : Value} {n : Nat} {xs : List Value} {e s : Nat}, W.ownsRow g e s v n xs → e ≠ 57 → Mk g W g c' → v.ownBlock ≠ some g := fun h he hm => hm.ne h he
                clear hmr hXr oWr oSr hbr hFr
                go_wp2_with fail
                go_region_law (first
                              | (refine step_callC rfl Tryd.func11 (by kernel_rfl) (by kernel_rfl) (Operand.func 11) rfl #[.tmp 62, .tmp 63] #[29, 22] rfl #[.pointer (some ⟨g, 0, none⟩), .slice (some ⟨wr.drew.heap.size, 0, none⟩) 4 4] rfl HPK.out ?_
                                 rintro e w7 ⟨st, _, rfl, hm7, hg7⟩
                                 refine ⟨_, rfl, ?_⟩
                                 have hg7' := (World.grownBy_alloc wr.drew (.cells #[.int .i64 0, .int .i64 1, .int .i64 1000001, .int .i64 (-1)] 3) (some g)).trans hg7
                                 have hX7 := hXd.grown hg7' hgs
                                 have oS7 := oSd.kept hg7' (.inr (hmd.ne oSd (by decide)))
                                 have yw7 : w7.cell? ⟨xb, 9, none⟩ = some (.slice As so.length cs) := hX7.cell 9
                                 have ya7 := fun o : Obj => cell_alloc yw7 o
                                 have hgw7 : g ≤ w7.heap.size := Nat.le_trans (Nat.le_of_lt hmd.lt) hg7'.size)
                              | (refine step_pushb sl24 (by rfl) (.tmp 61) (.tmp 66) (by rfl) g (.slice As so.length cs) so.length (flatS so) (by rfl) oS7 1 1 w7.heap.size rfl (by rfl) (by rfl) (by rfl) h63 h24 hgw7 ?_
                                 intro v' w9 own9 hgr
                                 obtain ⟨A9, c9, rfl, _, _⟩ := own_form own9
                                 have hX9 := hX7.grown hgr.grown (fun e => own_blk_ne oS7 hX7 (by decide) e.symm)
                                 have z9 : w9.cell? ⟨xb, 9, none⟩ = some (.slice As so.length cs) := hX9.cell 9
                                 have f9 : w9.frozen? ⟨xb, 9, none⟩ = false := hX9.frozen 9))
                all_goals
                  have oW7 := oWd.kept hg7' (.inr (hmd.ne oWd (by decide)))
                  have hF7 := hFd.grown hg7' hgf
                  have hb7 : Below w.heap.size w w7 := hbd.grown hg7' hbd.size (fun b e => by have := Option.some.inj e; omega)
                  have oW9 := hgr.keep oW7 (own_ne_type oW7 oS7 (by decide))
                  have hge := own_ge oS7
                  have hF9 := hF7.grown hgr.grown (fun e => own_blk_ne oS7 hF7 (by decide) e.symm)
                  have hm9 := hm7.grown hgr.grown (hm7.ne oS7 (by decide)) (fun b e => hge b e)
                  have hb9 : Below w.heap.size w w9 := hb7.grown hgr.grown hb7.size (fun b e => by have := hge b e; omega)
                  have hg10 := grown_setc w9 xb 9 (.slice A9 (so.length + 1) c9)
                  have oW10 := own_farB (j := 9) oW9 hX9 (by decide) (.slice A9 (so.length + 1) c9)
                  have oS10 := own_farB (j := 9) own9 hX9 (by decide) (.slice A9 (so.length + 1) c9)
                  have hX10 : Blk (w9.setCell ⟨xb, 9, none⟩ (.slice A9 (so.length + 1) c9)) xb 28 #[.string f.nm, .slice A m cp, .int .i64 b0, .int .i64 b1, .int .i64 b2, .int .i64 b3, .int .i64 pc, .int .i64 b5, .int .i64 b6, .slice A9 (so.length + 1) c9] := hX9.set_ 9 _
                  have hF10 := hF9.grown hg10 (fun e => by have := Option.some.inj e; omega)
                  have hm10 := hm9.grown hg10 (fun e => by have := Option.some.inj e; omega) (fun b e => by have := Option.some.inj e; omega)
                  have hb10 : Below w.heap.size w _ := hb9.grown hg10 hb9.size (fun b e => by have := Option.some.inj e; omega)
                  clear hX9 oW9 own9 hF9 hm9 hb9 hge hX7 oW7 oS7 hF7 hb7 yw7 ya7 z9 f9 hXd oWd oSd hFd hbd y9 y9a HPK
                  go_wp2_with fail
                  go_roundw
                  case rel => exact (show FxS _ _ _ _ _ _ _ _ _ _ _ _ _ _ _ _ _ _ _ from ⟨so ++ [⟨st, 0, 0⟩], _, q - 1, c' + 1, by go_num, by omega, by simp; omega, by omega, hF10, hX10, oW10, by rw [List.length_append, flatS_snoc]; exact oS10, hm10, hb10⟩)
                  case measure => simp [intOf]; omega
              · have d0 : decide ((0 : Int) < (q : Int)) = false := decide_eq_false (by omega)
                have d0' : decide (0 < q) = false := decide_eq_false hq0
                go_wp2_with fail
                go_meet
                exact ⟨⟨A, m, cp, As, so.length, cs, ⟨f.nm, f.ws, [b0, b1, b2, b3, pc, b5, b6], so⟩, b0, b1, b2, b3, pc, b5, b6, c', hXr, oWr, oSr, Lib.hid rfl, HHn, by omega, hmr, hbr⟩, hFr⟩
          · have q1 : ((i : Int) == 1) = false := by simp; omega
            have q2 : ((i : Int) == 2) = false := by simp; omega
            go_wp2_with fail
            go_meet
            exact ⟨⟨A, m, cp, Bs, k, d, f, b0, b1, b2, b3, b4, b5, b6, c2, hX3, oW3, oS3, Hbk, HHn, by omega, hm3, hb3⟩, hF3⟩
      case rest =>
        obtain ⟨⟨A1, m1, cp1, Bs1, k1, d1, f1, n0, n1, n2, n3, n4, n5, n6, c3, hX, oWc, oSc, Hbk1, HHc, hc3, hmk, hb⟩, hFc⟩ := hcut
        have htc := ht.below hb
        have HE := Lib.hid (exact_c A1 m1 cp1 Bs1 k1 d1 f1 n0 n1 n2 n3 n4 n5 n6 wc Hbk1.out (own_FR oWc oSc HHc.out) htc)
        clear hX3 oW3 oS3 hm3 hb3 hF3 htc
        unfold fnV at HE
        go_wp2_with ((with_reducible refine at_ld 28 (.tmp 7) ?_); go_must (refine wpList_ldB rfl 28 (.tmp 7) rfl xb 0 rfl hX [.string f1.nm, .slice A1 m1 cp1, .int .i64 n0, .int .i64 n1, .int .i64 n2, .int .i64 n3, .int .i64 n4, .int .i64 n5, .int .i64 n6, .slice Bs1 k1 d1] rfl _ Tryd.underlying28 rfl (by kernel_rfl) ?_))
        refine HE.out.mono ?_
        rintro e w5 ⟨rfl, hb5⟩
        have hm5 := hmk.below hb5
        have hF5 := hFc.below hb5 hFc.lt
        have hbw := below_step hb hb5
        go_wp2_with fail
        go_roundw
        case rel => exact ⟨(show FxI _ _ _ _ _ _ from ⟨i + 1, c3, by omega, rfl, by go_num, by omega, hm5, hbw⟩), hF5⟩
        case measure => simp [intOf]; omega
    · obtain rfl : i = 3 := by omega
      have dlt : decide (((3 : Nat) : Int) < 3) = false := rfl
      have x0 : wr.cell? ⟨w.heap.size, 0, none⟩ = some (.string ff.nm) := hFr.cell 0
      have x1 : wr.cell? ⟨w.heap.size, 1, none⟩ = some (.slice Af nf cf) := hFr.cell 1
      have x2 : wr.cell? ⟨w.heap.size, 2, none⟩ = some (.int .i64 e0) := hFr.cell 2
      have x3 : wr.cell? ⟨w.heap.size, 3, none⟩ = some (.int .i64 e1) := hFr.cell 3
      have x4 : wr.cell? ⟨w.heap.size, 4, none⟩ = some (.int .i64 e2) := hFr.cell 4
      have x5 : wr.cell? ⟨w.heap.size, 5, none⟩ = some (.int .i64 e3) := hFr.cell 5
      have x6 : wr.cell? ⟨w.heap.size, 6, none⟩ = some (.int .i64 e4) := hFr.cell 6
      have x7 : wr.cell? ⟨w.heap.size, 7, none⟩ = some (.int .i64 e5) := hFr.cell 7
      have x8 : wr.cell? ⟨w.heap.size, 8, none⟩ = some (.int .i64 e6) := hFr.cell 8
      have x9 : wr.cell? ⟨w.heap.size, 9, none⟩ = some (.slice Bf mf df) := hFr.cell 9
      have hFc := hF0.below hbr
      by_cases h120 : 120 < nf
      · have d120 : decide ((120 : Int) < (nf : Int)) = true := decide_eq_true (by omega)
        have d120' : decide (120 < nf) = true := decide_eq_true h120
        go_wp2_with fail
        go_ret
        exact ⟨rfl, hbr⟩
      · have d120 : decide ((120 : Int) < (nf : Int)) = false := decide_eq_false (by omega)
        have d120' : decide (120 < nf) = false := decide_eq_false h120
        by_cases h100 : 100 < mf
        · have d100 : decide ((100 : Int) < (mf : Int)) = true := decide_eq_true (by omega)
          have d100' : decide (100 < mf) = true := decide_eq_true h100
          go_wp2_with fail
          go_ret
          exact ⟨rfl, hbr⟩
        · have d100 : decide ((100 : Int) < (mf : Int)) = false := decide_eq_false (by omega)
          have d100' : decide (100 < mf) = false := decide_eq_false h100
          have htc := ht.below hbr
          have HE := Lib.hid (exact_c Af nf cf Bf mf df ff e0 e1 e2 e3 e4 e5 e6 wr Hbk0.out hFc htc)
          unfold fnV at HE
          clear h120 h100
          go_wp2_with fail
          refine HE.out.mono ?_
          rintro e w5 ⟨rfl, hb5⟩
          have hbw := below_step hbr hb5
          go_wp2_with fail
          refine (sane38_c mx w5 (keep_cell hbw hmx) (ht.below hbw)).mono ?_
          rintro e w6 ⟨rfl, hb6⟩
          have hbw6 := below_step hbw hb6
          go_wp2_with fail
          go_ret
          exact ⟨rfl, hbw6⟩
end Go.Proofs.YtiegpkbollihgaaDoor
