/- The walk of 'exact' of the statements of a sheet. -/
import Derived.Test.YtiegpkbollihgaaDoorFnW10
import Derived.Deep.RegionWith
import Derived.BigRegion
namespace Go.Proofs.YtiegpkbollihgaaDoor
open Go.RowKit
set_option maxRecDepth 100000 in
set_option maxHeartbeats 8000000 in
theorem exact_c (A : Option Addr) (n c : Nat) (B : Option Addr) (m d : Nat) (f : FN) (b0 b1 b2 b3 b4 b5 b6 : Int) (w : World) (hb : f.bk = [b0, b1, b2, b3, b4, b5, b6]) (h : FR w A n B m f) (ht : Tab10 w) :
    Calls Tryd.prog 12 #[fnV A n c B m d f.nm b0 b1 b2 b3 b4 b5 b6] w fun e w' => e = .returned (.bool true) ∧ Below w.heap.size w w' := by
  have hbw : Below w.heap.size w (w.alloc (.cells #[.string f.nm, .slice A n c, .int .i64 b0, .int .i64 b1, .int .i64 b2, .int .i64 b3, .int .i64 b4, .int .i64 b5, .int .i64 b6, .slice B m d] 28)) := (Below.refl _ _).alloc (Nat.le_refl _) _
  have hX := Blk.new w 28 #[.string f.nm, .slice A n c, .int .i64 b0, .int .i64 b1, .int .i64 b2, .int .i64 b3, .int .i64 b4, .int .i64 b5, .int .i64 b6, .slice B m d]
  obtain ⟨F, hF⟩ : ∃ F, Fn.fmt f = F := ⟨_, rfl⟩
  obtain ⟨t, e0⟩ := F
  have HF1 := Lib.hid (fun (W : World) (hR : FR W A n B m f) (hT : Tab10 W) => fformat_c A n c B m d f b0 b1 b2 b3 b4 b5 b6 W hb hR hT)
  have HF2 := Lib.hid (fun (W : World) (hR : FR W A n B m f) => rformat38_c A n c B m d f b0 b1 b2 b3 b4 b5 b6 W hb hR)
  unfold FFormatR at HF1 HF2
  rw [hF] at HF1 HF2
  simp only at HF1 HF2
  obtain ⟨S, hS⟩ : ∃ S, baOf t = S := ⟨_, rfl⟩
  rw [hS] at HF1 HF2
  obtain ⟨v, hv⟩ : ∃ v, Fn.fErr f = v := ⟨_, rfl⟩
  have HV1 := Lib.hid (fun (W : World) (hR : FR W A n B m f) => fvalid_c A n c B m d f b0 b1 b2 b3 b4 b5 b6 W hb hR)
  have HV2 := Lib.hid (fun (W : World) (hR : FR W A n B m f) => rfvalid_c A n c B m d f b0 b1 b2 b3 b4 b5 b6 W hb hR)
  rw [hv] at HV1 HV2
  unfold fnV at HF1 HF2 HV1 HV2
  have h1 := h.below hbw
  have ht1 := ht.below hbw
  obtain ⟨W1, hW1⟩ : ∃ W1, w.alloc (.cells #[.string f.nm, .slice A n c, .int .i64 b0, .int .i64 b1, .int .i64 b2, .int .i64 b3, .int .i64 b4, .int .i64 b5, .int .i64 b6, .slice B m d] 28) = W1 := ⟨_, rfl⟩
  rw [hW1] at hX hbw h1 ht1
  have hs1 : W1.heap.size = w.heap.size + 1 := by rw [← hW1]; simp
  clear hF hS hv h ht
  have x0 : W1.cell? ⟨w.heap.size, 0, none⟩ = some (.string f.nm) := hX.cell 0
  have x1 : W1.cell? ⟨w.heap.size, 1, none⟩ = some (.slice A n c) := hX.cell 1
  have x2 : W1.cell? ⟨w.heap.size, 2, none⟩ = some (.int .i64 b0) := hX.cell 2
  have x3 : W1.cell? ⟨w.heap.size, 3, none⟩ = some (.int .i64 b1) := hX.cell 3
  have x4 : W1.cell? ⟨w.heap.size, 4, none⟩ = some (.int .i64 b2) := hX.cell 4
  have x5 : W1.cell? ⟨w.heap.size, 5, none⟩ = some (.int .i64 b3) := hX.cell 5
  have x6 : W1.cell? ⟨w.heap.size, 6, none⟩ = some (.int .i64 b4) := hX.cell 6
  have x7 : W1.cell? ⟨w.heap.size, 7, none⟩ = some (.int .i64 b5) := hX.cell 7
  have x8 : W1.cell? ⟨w.heap.size, 8, none⟩ = some (.int .i64 b6) := hX.cell 8
  have x9 : W1.cell? ⟨w.heap.size, 9, none⟩ = some (.slice B m d) := hX.cell 9
  go_enter Tryd.func12, Tryd.ntmps12
  unfold fnV
  go_wp2_with fail
  refine (HF1.out _ h1 ht1).mono ?_
  rintro e w2 ⟨rfl, hb2⟩
  have hX2 := hX.below hb2 hX.lt
  have h2 := h1.below hb2
  have hb2' := hbw.trans (hb2.mono (by omega))
  clear x0 x1 x2 x3 x4 x5 x6 x7 x8 x9
  have x0 : w2.cell? ⟨w.heap.size, 0, none⟩ = some (.string f.nm) := hX2.cell 0
  have x1 : w2.cell? ⟨w.heap.size, 1, none⟩ = some (.slice A n c) := hX2.cell 1
  have x2 : w2.cell? ⟨w.heap.size, 2, none⟩ = some (.int .i64 b0) := hX2.cell 2
  have x3 : w2.cell? ⟨w.heap.size, 3, none⟩ = some (.int .i64 b1) := hX2.cell 3
  have x4 : w2.cell? ⟨w.heap.size, 4, none⟩ = some (.int .i64 b2) := hX2.cell 4
  have x5 : w2.cell? ⟨w.heap.size, 5, none⟩ = some (.int .i64 b3) := hX2.cell 5
  have x6 : w2.cell? ⟨w.heap.size, 6, none⟩ = some (.int .i64 b4) := hX2.cell 6
  have x7 : w2.cell? ⟨w.heap.size, 7, none⟩ = some (.int .i64 b5) := hX2.cell 7
  have x8 : w2.cell? ⟨w.heap.size, 8, none⟩ = some (.int .i64 b6) := hX2.cell 8
  have x9 : w2.cell? ⟨w.heap.size, 9, none⟩ = some (.slice B m d) := hX2.cell 9
  go_wp2_with fail
  refine (HF2.out _ h2).mono ?_
  rintro e w3 ⟨rfl, hb3⟩
  have hX3 := hX2.below hb3 hX2.lt
  have h3 := h2.below hb3
  have hb3' := hb2'.trans (hb3.mono hb2'.size)
  clear x0 x1 x2 x3 x4 x5 x6 x7 x8 x9
  have x0 : w3.cell? ⟨w.heap.size, 0, none⟩ = some (.string f.nm) := hX3.cell 0
  have x1 : w3.cell? ⟨w.heap.size, 1, none⟩ = some (.slice A n c) := hX3.cell 1
  have x2 : w3.cell? ⟨w.heap.size, 2, none⟩ = some (.int .i64 b0) := hX3.cell 2
  have x3 : w3.cell? ⟨w.heap.size, 3, none⟩ = some (.int .i64 b1) := hX3.cell 3
  have x4 : w3.cell? ⟨w.heap.size, 4, none⟩ = some (.int .i64 b2) := hX3.cell 4
  have x5 : w3.cell? ⟨w.heap.size, 5, none⟩ = some (.int .i64 b3) := hX3.cell 5
  have x6 : w3.cell? ⟨w.heap.size, 6, none⟩ = some (.int .i64 b4) := hX3.cell 6
  have x7 : w3.cell? ⟨w.heap.size, 7, none⟩ = some (.int .i64 b5) := hX3.cell 7
  have x8 : w3.cell? ⟨w.heap.size, 8, none⟩ = some (.int .i64 b6) := hX3.cell 8
  have x9 : w3.cell? ⟨w.heap.size, 9, none⟩ = some (.slice B m d) := hX3.cell 9
  have HW1 : Hid (∀ V, Below w3.heap.size w3 V → Calls Tryd.prog 25 #[.agg #[.string f.nm, .slice A n c, .int .i64 b0, .int .i64 b1, .int .i64 b2, .int .i64 b3, .int .i64 b4, .int .i64 b5, .int .i64 b6, .slice B m d]] V fun e w' => e = .returned (.int .i64 v) ∧ Below V.heap.size V w') := Lib.hid (fun V hV => HV1.out V (h3.below hV))
  have HW2 : Hid (∀ V, Below w3.heap.size w3 V → Calls Tryd.prog 26 #[.agg #[.string f.nm, .slice A n c, .int .i64 b0, .int .i64 b1, .int .i64 b2, .int .i64 b3, .int .i64 b4, .int .i64 b5, .int .i64 b6, .slice B m d]] V fun e w' => e = .returned (.int .i64 v) ∧ Below V.heap.size V w') := Lib.hid (fun V hV => HV2.out V (h3.below hV))
  have hd0 : Below w3.heap.size w3 w3.drew := (Below.refl _ _).drew
  have hX3d : Blk w3.drew w.heap.size 28 #[.string f.nm, .slice A n c, .int .i64 b0, .int .i64 b1, .int .i64 b2, .int .i64 b3, .int .i64 b4, .int .i64 b5, .int .i64 b6, .slice B m d] := hX3
  clear HF1 HF2 HV1 HV2 hX hX2 hb2 hb3
  go_wp2_with fail
  go_region_with (first
                    | (go_at_call 25
                       with_reducible refine (HW1.out _ hd0).mono ?_
                       rintro e w5 ⟨rfl, hb5⟩
                       have hd1 := hd0.trans (hb5.mono hd0.size)
                       have hX5 := hX3d.below hb5 hX3d.lt
                       have y0 : w5.cell? ⟨w.heap.size, 0, none⟩ = some (.string f.nm) := hX5.cell 0
                       have y1 : w5.cell? ⟨w.heap.size, 1, none⟩ = some (.slice A n c) := hX5.cell 1
                       have y2 : w5.cell? ⟨w.heap.size, 2, none⟩ = some (.int .i64 b0) := hX5.cell 2
                       have y3 : w5.cell? ⟨w.heap.size, 3, none⟩ = some (.int .i64 b1) := hX5.cell 3
                       have y4 : w5.cell? ⟨w.heap.size, 4, none⟩ = some (.int .i64 b2) := hX5.cell 4
                       have y5 : w5.cell? ⟨w.heap.size, 5, none⟩ = some (.int .i64 b3) := hX5.cell 5
                       have y6 : w5.cell? ⟨w.heap.size, 6, none⟩ = some (.int .i64 b4) := hX5.cell 6
                       have y7 : w5.cell? ⟨w.heap.size, 7, none⟩ = some (.int .i64 b5) := hX5.cell 7
                       have y8 : w5.cell? ⟨w.heap.size, 8, none⟩ = some (.int .i64 b6) := hX5.cell 8
                       have y9 : w5.cell? ⟨w.heap.size, 9, none⟩ = some (.slice B m d) := hX5.cell 9)
                    | (go_at_call 26
                       with_reducible refine (HW2.out _ hd0).mono ?_
                       rintro e w5 ⟨rfl, hb5⟩
                       have hd1 := hd0.trans (hb5.mono hd0.size)
                       have hX5 := hX3d.below hb5 hX3d.lt
                       have y0 : w5.cell? ⟨w.heap.size, 0, none⟩ = some (.string f.nm) := hX5.cell 0
                       have y1 : w5.cell? ⟨w.heap.size, 1, none⟩ = some (.slice A n c) := hX5.cell 1
                       have y2 : w5.cell? ⟨w.heap.size, 2, none⟩ = some (.int .i64 b0) := hX5.cell 2
                       have y3 : w5.cell? ⟨w.heap.size, 3, none⟩ = some (.int .i64 b1) := hX5.cell 3
                       have y4 : w5.cell? ⟨w.heap.size, 4, none⟩ = some (.int .i64 b2) := hX5.cell 4
                       have y5 : w5.cell? ⟨w.heap.size, 5, none⟩ = some (.int .i64 b3) := hX5.cell 5
                       have y6 : w5.cell? ⟨w.heap.size, 6, none⟩ = some (.int .i64 b4) := hX5.cell 6
                       have y7 : w5.cell? ⟨w.heap.size, 7, none⟩ = some (.int .i64 b5) := hX5.cell 7
                       have y8 : w5.cell? ⟨w.heap.size, 8, none⟩ = some (.int .i64 b6) := hX5.cell 8
                       have y9 : w5.cell? ⟨w.heap.size, 9, none⟩ = some (.slice B m d) := hX5.cell 9)
                    | (go_at_call 25
                       with_reducible refine (HW1.out _ hd1).mono ?_
                       rintro e w6 ⟨rfl, hb6⟩
                       have hd2 := hd1.trans (hb6.mono hd1.size))
                    | (go_at_call 26
                       with_reducible refine (HW2.out _ hd1).mono ?_
                       rintro e w6 ⟨rfl, hb6⟩
                       have hd2 := hd1.trans (hb6.mono hd1.size)))
  all_goals
    go_wp2_with fail
    go_ret
    exact ⟨rfl, hb3'.trans (hd2.mono hb3'.size)⟩
end Go.Proofs.YtiegpkbollihgaaDoor
