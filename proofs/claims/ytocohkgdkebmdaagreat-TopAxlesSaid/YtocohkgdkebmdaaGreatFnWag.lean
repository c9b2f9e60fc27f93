/- The walks of a line's wagon, program and reference. -/
import Derived.Test.YtocohkgdkebmdaaGreatTlLt
import Derived.Test.YtocohkgdkebmdaaGreatWG
import Derived.Test.YtocohkgdkebmdaaGreatReg3
import Derived.Lib.ItoaNum
import Derived.Lib.ItoaLen
import Derived.Test.YtocohkgdkebmdaaGreatMem
import Derived.Lib.Builder
import Derived.Lib.AppendStr
import Derived.Laws.Externs
import Derived.Deep.DeepCutAuto
import Derived.Maps.OwnSet
import Derived.Lib.Hide
import Derived.StringKeys
import Derived.Deep.RegionWith
import Derived.StillTailTactics
import Derived.Deep.CutBlock
namespace Go.Proofs.YtocohkgdkebmdaaGreat
open Go.RowKit
theorem llr_lit (w : World) : LLR ((w.alloc (.cells #[.int .i64 1, .int .i64 0] 3)).alloc (.cells #[.slice (some ⟨w.heap.size, 0, none⟩) 2 2] 22)) (some ⟨w.heap.size + 1, 0, none⟩) 1 [[1, 0]] [.slice (some ⟨w.heap.size, 0, none⟩) 2 2] := by
  have o1 : (w.alloc (.cells #[.int .i64 1, .int .i64 0] 3)).ownsRow 0 3 1 (.slice (some ⟨w.heap.size, 0, none⟩) 2 2) 2 (ints64 [1, 0]) := World.ownsRow_lit w _ 2 (Nat.zero_le _) (by simp [maxLen]) rfl
  have o2 : ((w.alloc (.cells #[.int .i64 1, .int .i64 0] 3)).alloc (.cells #[.slice (some ⟨w.heap.size, 0, none⟩) 2 2] 22)).ownsRow 0 22 1 (.slice (some ⟨w.heap.size + 1, 0, none⟩) 1 1) 1 [.slice (some ⟨w.heap.size, 0, none⟩) 2 2] := by
    have := World.ownsRow_lit (base := 0) (e := 22) (size := 1) (w.alloc (.cells #[.int .i64 1, .int .i64 0] 3)) #[.slice (some ⟨w.heap.size, 0, none⟩) 2 2] 1 (Nat.zero_le _) (by simp [maxLen]) rfl
    simpa using this
  refine ⟨Reads.of_own o2, rfl, fun i hi => ?_⟩
  obtain rfl : i = 0 := by omega
  exact ⟨_, 2, rfl, own64_IR (o1.alloc _)⟩
set_option maxRecDepth 100000 in
set_option maxHeartbeats 4000000 in
theorem awake_c (w : World) : Calls Tryz.prog 6 #[] w fun e w' => e = .returned (.bool true) ∧ Below w.heap.size w w' := by
  obtain ⟨W0, hW0⟩ : ∃ W0, (w.alloc (.cells #[.int .i64 0, .int .i64 1, .int .i64 0, .int .i64 100, .int .i64 0, .int .i64 0, .int .i64 0, .int .i64 100] 67)).alloc (.cells #[.int .i64 300, .int .i64 300] 3) = W0 := ⟨_, rfl⟩
  have hI : IR4 W0 (some ⟨w.heap.size, 0, none⟩) 2 Tl.l2 := by
    rw [← hW0]
    have o1 : (w.alloc (.cells #[.int .i64 0, .int .i64 1, .int .i64 0, .int .i64 100, .int .i64 0, .int .i64 0, .int .i64 0, .int .i64 100] 67)).ownsRow 0 67 4 (.slice (some ⟨w.heap.size, 0, none⟩) 2 2) 2 (flat4 Tl.l2) := World.ownsRow_lit w _ 2 (Nat.zero_le _) (by simp [maxLen]) rfl
    exact own_IR4 (o1.alloc _)
  have hT : NR W0 (some ⟨w.heap.size + 1, 0, none⟩) 2 [300, 300] := by
    rw [← hW0]
    have o2 := World.ownsRow_lit (base := 0) (e := 3) (size := 1) (w.alloc (.cells #[.int .i64 0, .int .i64 1, .int .i64 0, .int .i64 100, .int .i64 0, .int .i64 0, .int .i64 0, .int .i64 100] 67)) #[.int .i64 300, .int .i64 300] 2 (Nat.zero_le _) (by simp [maxLen]) rfl
    have o3 : ((w.alloc (.cells #[.int .i64 0, .int .i64 1, .int .i64 0, .int .i64 100, .int .i64 0, .int .i64 0, .int .i64 0, .int .i64 100] 67)).alloc (.cells #[.int .i64 300, .int .i64 300] 3)).ownsRow 0 3 1 (.slice (some ⟨w.heap.size + 1, 0, none⟩) 2 2) 2 (ints64 [300, 300]) := by simpa [ints64] using o2
    exact NR.of_own o3
  have hb0 : Below w.heap.size w W0 := by rw [← hW0]; exact ((Below.refl _ _).alloc (Nat.le_refl _) _).alloc (by simp) _
  have hs0 := hb0.size
  have HP := Lib.hid (plan_c (some ⟨w.heap.size, 0, none⟩) (some ⟨w.heap.size + 1, 0, none⟩) 2 2 W0 hI hT)
  go_enter Tryz.func6, Tryz.ntmps6
  go_wp2_with fail
  clear hW0 hI hT
  refine HP.out.mono ?_
  rintro e w1 ⟨A, c, g, Ac, nc, cc, gt, rfl, own1, hK, hb1⟩
  have hb2 := below_step hb0 hb1
  obtain ⟨w2, hw2⟩ : ∃ w2, w1.alloc (.cells #[.slice A 2 c, .int .i64 1, .int .i64 1, .slice (some ⟨g, 0, none⟩) 2 2, .slice Ac nc cc, .slice (some ⟨gt, 0, none⟩) 2 2] 63) = w2 := ⟨_, rfl⟩
  have hY : Blk w2 w1.heap.size 63 #[.slice A 2 c, .int .i64 1, .int .i64 1, .slice (some ⟨g, 0, none⟩) 2 2, .slice Ac nc cc, .slice (some ⟨gt, 0, none⟩) 2 2] := by rw [← hw2]; exact Blk.new w1 _ _
  have hb3 : Below w.heap.size w w2 := by rw [← hw2]; exact hb2.alloc hb2.size _
  have own2 := own1.alloc (.cells #[.slice A 2 c, .int .i64 1, .int .i64 1, .slice (some ⟨g, 0, none⟩) 2 2, .slice Ac nc cc, .slice (some ⟨gt, 0, none⟩) 2 2] 63)
  have hK2 := hK.alloc (.cells #[.slice A 2 c, .int .i64 1, .int .i64 1, .slice (some ⟨g, 0, none⟩) 2 2, .slice Ac nc cc, .slice (some ⟨gt, 0, none⟩) 2 2] 63)
  rw [hw2] at own2 hK2
  have HR := Lib.hid (rrun_c A (some ⟨g, 0, none⟩) 2 c 1 1 2 Tl.l2 [1, 0] w2 (Tl.l2_ok 1 (by omega)) plan2 (own_IR4 own2) (NR.of_own hK2))
  unfold jobV planV at HR
  obtain ⟨sb, hsb⟩ : ∃ sb, w1.heap.size = sb := ⟨_, rfl⟩
  rw [hsb] at hY
  have y0 := hY.cell 0
  have y1 := hY.cell 1
  have y2 := hY.cell 2
  have y3 := hY.cell 3
  simp at y0 y1 y2 y3
  clear own1 hK own2 hK2 hb1 hb2 hb0 HP
  go_wp2_with fail
  clear hw2 y0 y1 y3
  refine HR.out.mono ?_
  rintro e w3 ⟨vT, vsT, rfl, hLL, hb4⟩
  rw [Tl.l2_tn] at hLL
  obtain ⟨AT, cT, rfl, _, _⟩ := own_form hLL.outer
  simp only [Tl.l2_mv]
  have hb5 := below_step hb3 hb4
  have hY5 := hY.below hb4 hY.lt
  have hLR : LLR w3 AT 1 [[1, 0]] vsT := hLL.reads
  clear hY hb3 hb4 HR hLL y2
  simp only [List.length_cons, List.length_nil, Nat.zero_add]
  obtain ⟨w4, hw4⟩ : ∃ w4, w3.alloc (.cells #[.slice AT 1 cT, .int .i64 3] 69) = w4 := ⟨_, rfl⟩
  have hS : Blk w4 w3.heap.size 69 #[.slice AT 1 cT, .int .i64 3] := by rw [← hw4]; exact Blk.new w3 _ _
  have hY6 : Blk w4 sb 63 #[.slice A 2 c, .int .i64 1, .int .i64 1, .slice (some ⟨g, 0, none⟩) 2 2, .slice Ac nc cc, .slice (some ⟨gt, 0, none⟩) 2 2] := by rw [← hw4]; exact hY5.alloc _
  have hb6 : Below w.heap.size w w4 := by rw [← hw4]; exact hb5.alloc hb5.size _
  have hLR4 : LLR w4 AT 1 [[1, 0]] vsT := by rw [← hw4]; exact hLR.below ((Below.refl _ _).alloc (Nat.le_refl _) _)
  have y2 := hY6.cell 2
  have s0 := hS.cell 0
  simp at y2 s0
  obtain ⟨rb, hrb⟩ : ∃ rb, w3.heap.size = rb := ⟨_, rfl⟩
  rw [hrb] at s0
  have hbx := ((Below.refl w4.heap.size w4).alloc (Nat.le_refl _) (.cells #[.int .i64 1, .int .i64 0] 3)).alloc (by simp) (.cells #[.slice (some ⟨w4.heap.size, 0, none⟩) 2 2] 22)
  have HL := Lib.hid (lists_c AT (some ⟨w4.heap.size + 1, 0, none⟩) 1 cT 1 [[1, 0]] vsT _ _ (by omega) (hLR4.below hbx) (llr_lit w4) (fun i => by
    match i with
    | 0 => exact (by decide)
    | i + 1 => exact Nat.zero_le _))
  have hb7 := below_step hb6 hbx
  clear hS hY5 hY6 hb5 hb6 hLR hLR4 hbx
  go_wp2_with fail
  clear hw4
  refine HL.out.mono ?_
  rintro e w5 ⟨rfl, hb8⟩
  have hb9 := below_step hb7 hb8
  clear hb7 hb8 HL
  go_wp2_with fail
  go_ret
  exact ⟨rfl, hb9⟩
end Go.Proofs.YtocohkgdkebmdaaGreat
namespace Go.Proofs.YtocohkgdkebmdaaGreat
open Go.RowKit
def storeW (W : World) (b : Nat) (x : WG) : World := (((((((W.setCell ⟨b, 0, none⟩ (.string x.nu)).setCell ⟨b, 1, none⟩ (.int .i64 x.len)).setCell ⟨b, 2, none⟩ (.int .i64 x.ax)).setCell ⟨b, 3, none⟩ (.int .i64 x.ms)).setCell ⟨b, 4, none⟩ (.int .i64 x.br)).setCell ⟨b, 5, none⟩ (.int .i64 x.gd)).setCell ⟨b, 6, none⟩ (.bool x.gt)).setCell ⟨b, 7, none⟩ (.string x.de)
theorem storeW_blk {W : World} {b : Nat} {t : TypeId} (x : WG) (h : Blk W b t #[.string ⟨#[]⟩, .int .i64 0, .int .i64 0, .int .i64 0, .int .i64 0, .int .i64 0, .bool false, .string ⟨#[]⟩]) : Blk (storeW W b x) b t #[.string x.nu, .int .i64 x.len, .int .i64 x.ax, .int .i64 x.ms, .int .i64 x.br, .int .i64 x.gd, .bool x.gt, .string x.de] := by
  have h0 : Blk (W.setCell ⟨b, 0, none⟩ (.string x.nu)) b t #[.string x.nu, .int .i64 0, .int .i64 0, .int .i64 0, .int .i64 0, .int .i64 0, .bool false, .string ⟨#[]⟩] := h.set_ 0 _
  have h1 : Blk ((W.setCell ⟨b, 0, none⟩ (.string x.nu)).setCell ⟨b, 1, none⟩ (.int .i64 x.len)) b t #[.string x.nu, .int .i64 x.len, .int .i64 0, .int .i64 0, .int .i64 0, .int .i64 0, .bool false, .string ⟨#[]⟩] := h0.set_ 1 _
  have h2 : Blk (((W.setCell ⟨b, 0, none⟩ (.string x.nu)).setCell ⟨b, 1, none⟩ (.int .i64 x.len)).setCell ⟨b, 2, none⟩ (.int .i64 x.ax)) b t #[.string x.nu, .int .i64 x.len, .int .i64 x.ax, .int .i64 0, .int .i64 0, .int .i64 0, .bool false, .string ⟨#[]⟩] := h1.set_ 2 _
  have h3 : Blk ((((W.setCell ⟨b, 0, none⟩ (.string x.nu)).setCell ⟨b, 1, none⟩ (.int .i64 x.len)).setCell ⟨b, 2, none⟩ (.int .i64 x.ax)).setCell ⟨b, 3, none⟩ (.int .i64 x.ms)) b t #[.string x.nu, .int .i64 x.len, .int .i64 x.ax, .int .i64 x.ms, .int .i64 0, .int .i64 0, .bool false, .string ⟨#[]⟩] := h2.set_ 3 _
  have h4 : Blk (((((W.setCell ⟨b, 0, none⟩ (.string x.nu)).setCell ⟨b, 1, none⟩ (.int .i64 x.len)).setCell ⟨b, 2, none⟩ (.int .i64 x.ax)).setCell ⟨b, 3, none⟩ (.int .i64 x.ms)).setCell ⟨b, 4, none⟩ (.int .i64 x.br)) b t #[.string x.nu, .int .i64 x.len, .int .i64 x.ax, .int .i64 x.ms, .int .i64 x.br, .int .i64 0, .bool false, .string ⟨#[]⟩] := h3.set_ 4 _
  have h5 : Blk ((((((W.setCell ⟨b, 0, none⟩ (.string x.nu)).setCell ⟨b, 1, none⟩ (.int .i64 x.len)).setCell ⟨b, 2, none⟩ (.int .i64 x.ax)).setCell ⟨b, 3, none⟩ (.int .i64 x.ms)).setCell ⟨b, 4, none⟩ (.int .i64 x.br)).setCell ⟨b, 5, none⟩ (.int .i64 x.gd)) b t #[.string x.nu, .int .i64 x.len, .int .i64 x.ax, .int .i64 x.ms, .int .i64 x.br, .int .i64 x.gd, .bool false, .string ⟨#[]⟩] := h4.set_ 5 _
  have h6 : Blk (((((((W.setCell ⟨b, 0, none⟩ (.string x.nu)).setCell ⟨b, 1, none⟩ (.int .i64 x.len)).setCell ⟨b, 2, none⟩ (.int .i64 x.ax)).setCell ⟨b, 3, none⟩ (.int .i64 x.ms)).setCell ⟨b, 4, none⟩ (.int .i64 x.br)).setCell ⟨b, 5, none⟩ (.int .i64 x.gd)).setCell ⟨b, 6, none⟩ (.bool x.gt)) b t #[.string x.nu, .int .i64 x.len, .int .i64 x.ax, .int .i64 x.ms, .int .i64 x.br, .int .i64 x.gd, .bool x.gt, .string ⟨#[]⟩] := h5.set_ 6 _
  have h7 : Blk ((((((((W.setCell ⟨b, 0, none⟩ (.string x.nu)).setCell ⟨b, 1, none⟩ (.int .i64 x.len)).setCell ⟨b, 2, none⟩ (.int .i64 x.ax)).setCell ⟨b, 3, none⟩ (.int .i64 x.ms)).setCell ⟨b, 4, none⟩ (.int .i64 x.br)).setCell ⟨b, 5, none⟩ (.int .i64 x.gd)).setCell ⟨b, 6, none⟩ (.bool x.gt)).setCell ⟨b, 7, none⟩ (.string x.de)) b t #[.string x.nu, .int .i64 x.len, .int .i64 x.ax, .int .i64 x.ms, .int .i64 x.br, .int .i64 x.gd, .bool x.gt, .string x.de] := h6.set_ 7 _
  exact h7
theorem storeW_grown (W : World) (b : Nat) (x : WG) : W.grownBy (storeW W b x) (some b) := by
  have g : ∀ (W : World) (j : Nat) (u : Value), W.grownBy (W.setCell ⟨b, j, none⟩ u) (some b) := fun W j u => ⟨rfl, rfl, rfl, by simp [World.setCell], fun j' _ hne => Below.heap_setCell W ⟨b, j, none⟩ u j' (fun e => hne (by rw [e]))⟩
  exact (((((((g _ _ _).trans (g _ _ _)).trans (g _ _ _)).trans (g _ _ _)).trans (g _ _ _)).trans (g _ _ _)).trans (g _ _ _)).trans (g _ _ _)
namespace Fn
end Fn
end Go.Proofs.YtocohkgdkebmdaaGreat
