/- The walk of 'sane' of the statements of a sheet. -/
import Derived.Test.YtiegpkbollihgaaDoorFnParse
import Derived.Test.YtiegpkbollihgaaDoorFnW10
import Derived.Test.YtiegpkbollihgaaDoorFnFinds
namespace Go.Proofs.YtiegpkbollihgaaDoor
open Go.RowKit
namespace Fn
def f0 : FN := ⟨⟨#[120]⟩, [], [0, 0, 0, 0, 0, 0, 0], []⟩
def s0L : List UInt8 := [116, 114, 97, 105, 110, 32, 120, 10, 98, 114, 97, 107, 101, 115, 32, 48, 32, 48, 32, 48, 32, 48, 32, 48, 32, 48, 32, 48, 10, 101, 110, 100, 32, 50, 50, 51, 57, 57, 10]
def s1 : ByteArray := ⟨#[116, 114, 97, 105, 110, 32, 120, 10, 98, 114, 97, 107, 101, 115, 32, 48, 32, 48, 32, 48, 32, 48, 32, 48, 32, 48, 32, 48, 10, 101, 110, 100, 32, 49, 10]⟩
theorem fmt_f0 : fmt f0 = (s0L, 0) := by decide +kernel
theorem parse_s0 : parse (baOf s0L) = (f0, 0, 0) := by
  have h : fmtL f0 = s0L := by decide +kernel
  have := parse_fmt (f := f0) (by decide +kernel) rfl (by rw [h]; decide)
  rwa [h] at this
theorem parse_s1 : parse s1 = (fnZ, 3, 9) := by kernel_rfl
end Fn
set_option maxRecDepth 100000 in
set_option maxHeartbeats 8000000 in
theorem sane38_c (mm : Int) (w : World) (hm : w.cell? ⟨0, 0, none⟩ = some (.int .i64 mm)) (ht : Tab10 w) :
    Calls Tryd.prog 13 #[] w fun e w' => e = .returned (.bool true) ∧ Below w.heap.size w w' := by
  have HF := Lib.hid (fformat_c none 0 0 none 0 0 Fn.f0 0 0 0 0 0 0 0 w rfl ⟨WR.nil_, SR.nil_, by decide, by decide, by decide, by intro x hx; cases hx⟩ ht)
  unfold FFormatR at HF
  rw [Fn.fmt_f0] at HF
  obtain ⟨S, hS⟩ : ∃ S, baOf Fn.s0L = S := ⟨_, rfl⟩
  have Hsz : S.size = 39 := by rw [← hS]; rfl
  have hE : ((S.extract 0 29).toList == [116, 114, 97, 105, 110, 32, 120, 10, 98, 114, 97, 107, 101, 115, 32, 48, 32, 48, 32, 48, 32, 48, 32, 48, 32, 48, 32, 48, 10]) = true := by rw [← hS, Lib.toList_data]; decide +kernel
  have HP0 := Lib.hid Fn.parse_s0
  rw [hS] at HP0
  simp only at HF
  rw [hS] at HF
  have HPa := Lib.hid (fun (W : World) h => fparse_c S mm W (by rw [Hsz]; decide) h)
  have HPb := Lib.hid (fun (W : World) h => fparse_c Fn.s1 mm W (by decide) h)
  unfold FParseR at HPa HPb
  rw [HP0.out] at HPa
  rw [Fn.parse_s1] at HPb
  have HC := Lib.hid (fun W => fcheck_c ⟨#[97, 98]⟩ W (by decide))
  have Hck := Lib.hid (show Fn.chk [97, 98] = 293 by decide)
  have hSz := Lib.hid Hsz
  have d1 : decide ((30 : Int) < (S.size : Int)) = true := by rw [Hsz]; rfl
  have d1' : decide (30 < S.size) = true := by rw [Hsz]; rfl
  have d2 : (29 : Int) ≤ (S.size : Int) := by rw [Hsz]; decide
  clear Hsz hS
  go_enter Tryd.func13, Tryd.ntmps13
  unfold fnV at HF
  go_wp2_with fail
  refine HF.out.mono ?_
  rintro e w1 ⟨rfl, hb1⟩
  have hm1 := keep_cell hb1 hm
  go_wp2_with fail
  refine (HPa.out w1 hm1).mono ?_
  rintro e w2 ⟨A, n, c, Bs, m, d, b0, b1, b2, b3, b4, b5, b6, rfl, _, _, _, hb2⟩
  have hb2' := below_step hb1 hb2
  obtain ⟨nm0, hnm0⟩ : ∃ q, Fn.f0.nm = q := ⟨_, rfl⟩
  have en0 : (nm0.toList == [120]) = true := by rw [← hnm0]; decide +kernel
  rw [hnm0]
  unfold fnV
  obtain ⟨W3, hW3⟩ : ∃ W3, w2.alloc (.cells #[.string nm0, .slice A n c, .int .i64 b0, .int .i64 b1, .int .i64 b2, .int .i64 b3, .int .i64 b4, .int .i64 b5, .int .i64 b6, .slice Bs m d] 28) = W3 := ⟨_, rfl⟩
  have hX3 : Blk W3 w2.heap.size 28 #[.string nm0, .slice A n c, .int .i64 b0, .int .i64 b1, .int .i64 b2, .int .i64 b3, .int .i64 b4, .int .i64 b5, .int .i64 b6, .slice Bs m d] := by rw [← hW3]; exact Blk.new w2 _ _
  have hb3 : Below w.heap.size w W3 := by rw [← hW3]; exact hb2'.alloc hb2'.size _
  have hm3 := keep_cell hb3 hm
  clear hnm0
  go_wp2_with fail
  refine (HPb.out W3 hm3).mono ?_
  rintro e w4 ⟨A', n', c', Bs', m', d', b0', b1', b2', b3', b4', b5', b6', rfl, _, _, _, hb4⟩
  have hX4 := hX3.below hb4 hX3.lt
  have hb4' := below_step hb3 hb4
  have x0 : w4.cell? ⟨w2.heap.size, 0, none⟩ = some (.string nm0) := hX4.cell 0
  have x0a := fun o : Obj => cell_alloc x0 o
  unfold fnV
  go_wp2_with fail
  refine (HC.out _).mono ?_
  rintro e w5 ⟨rfl, rfl⟩
  have Hc2 : Fn.chk (⟨#[97, 98]⟩ : ByteArray).data.toList = 293 := Hck.out
  rw [Hc2]
  go_wp2_with fail
  go_ret
  exact ⟨rfl, hb4'.alloc hb4'.size _⟩
end Go.Proofs.YtiegpkbollihgaaDoor
