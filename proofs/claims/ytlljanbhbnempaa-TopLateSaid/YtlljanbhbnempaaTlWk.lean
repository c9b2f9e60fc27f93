/- The walk of the sanity check. -/
import Derived.Test.YtlljanbhbnempaaTlPn
import Derived.Test.YtlljanbhbnempaaTlLt
namespace Go.Proofs.Ytlljanbhbnempaa
open Go.RowKit
theorem llr_lit (w : World) : LLR ((w.alloc (.cells #[.int .i64 1, .int .i64 0] 3)).alloc (.cells #[.slice (some ⟨w.heap.size, 0, none⟩) 2 2] 22)) (some ⟨w.heap.size + 1, 0, none⟩) 1 [[1, 0]] [.slice (some ⟨w.heap.size, 0, none⟩) 2 2] := by
  have o1 : (w.alloc (.cells #[.int .i64 1, .int .i64 0] 3)).ownsRow 0 3 1 (.slice (some ⟨w.heap.size, 0, none⟩) 2 2) 2 (ints64 [1, 0]) := World.ownsRow_lit w _ 2 (Nat.zero_le _) (by simp [maxLen]) rfl
  have o2 : ((w.alloc (.cells #[.int .i64 1, .int .i64 0] 3)).alloc (.cells #[.slice (some ⟨w.heap.size, 0, none⟩) 2 2] 22)).ownsRow 0 22 1 (.slice (some ⟨w.heap.size + 1, 0, none⟩) 1 1) 1 [.slice (some ⟨w.heap.size, 0, none⟩) 2 2] := by
    have := World.ownsRow_lit (base := 0) (e := 22) (size := 1) (w.alloc (.cells #[.int .i64 1, .int .i64 0] 3)) #[.slice (some ⟨w.heap.size, 0, none⟩) 2 2] 1 (Nat.zero_le _) (by simp [maxLen]) rfl
    simpa using this
  refine ⟨Reads.of_own o2, rfl, fun i hi => ?_⟩
  obtain rfl : i = 0 := by omega
  exact ⟨_, 2, rfl, own64_IR (o1.alloc _)⟩
set_option maxRecDepth 100000 in
set_option maxHeartbeats 4000000 in
theorem awake_c (w : World) : Calls Try.prog 7 #[] w fun e w' => e = .returned (.bool true) ∧ Below w.heap.size w w' := by
  obtain ⟨W0, hW0⟩ : ∃ W0, (w.alloc (.cells #[.int .i64 0, .int .i64 1, .int .i64 0, .int .i64 100, .int .i64 0, .int .i64 0, .int .i64 0, .int .i64 100] 30)).alloc (.cells #[.int .i64 300, .int .i64 300] 3) = W0 := ⟨_, rfl⟩
  have hI : IR4 W0 (some ⟨w.heap.size, 0, none⟩) 2 Tl.l2 := by
    rw [← hW0]
    have o1 : (w.alloc (.cells #[.int .i64 0, .int .i64 1, .int .i64 0, .int .i64 100, .int .i64 0, .int .i64 0, .int .i64 0, .int .i64 100] 30)).ownsRow 0 30 4 (.slice (some ⟨w.heap.size, 0, none⟩) 2 2) 2 (flat4 Tl.l2) := World.ownsRow_lit w _ 2 (Nat.zero_le _) (by simp [maxLen]) rfl
    exact own_IR4 (o1.alloc _)
  have hT : NR W0 (some ⟨w.heap.size + 1, 0, none⟩) 2 [300, 300] := by
    rw [← hW0]
    have o2 := World.ownsRow_lit (base := 0) (e := 3) (size := 1) (w.alloc (.cells #[.int .i64 0, .int .i64 1, .int .i64 0, .int .i64 100, .int .i64 0, .int .i64 0, .int .i64 0, .int .i64 100] 30)) #[.int .i64 300, .int .i64 300] 2 (Nat.zero_le _) (by simp [maxLen]) rfl
    have o3 : ((w.alloc (.cells #[.int .i64 0, .int .i64 1, .int .i64 0, .int .i64 100, .int .i64 0, .int .i64 0, .int .i64 0, .int .i64 100] 30)).alloc (.cells #[.int .i64 300, .int .i64 300] 3)).ownsRow 0 3 1 (.slice (some ⟨w.heap.size + 1, 0, none⟩) 2 2) 2 (ints64 [300, 300]) := by simpa [ints64] using o2
    exact NR.of_own o3
  have hb0 : Below w.heap.size w W0 := by rw [← hW0]; exact ((Below.refl _ _).alloc (Nat.le_refl _) _).alloc (by simp) _
  have hs0 := hb0.size
  have HP := Lib.hid (plan_c (some ⟨w.heap.size, 0, none⟩) (some ⟨w.heap.size + 1, 0, none⟩) 2 2 W0 hI hT)
  go_enter Try.func7, Try.ntmps7
  go_wp2_with fail
  clear hW0 hI hT
  refine HP.out.mono ?_
  rintro e w1 ⟨A, c, g, Ac, nc, cc, gt, rfl, own1, hK, hb1⟩
  have hb2 := below_step hb0 hb1
  obtain ⟨w2, hw2⟩ : ∃ w2, w1.alloc (.cells #[.slice A 2 c, .int .i64 1, .int .i64 1, .slice (some ⟨g, 0, none⟩) 2 2, .slice Ac nc cc, .slice (some ⟨gt, 0, none⟩) 2 2] 58) = w2 := ⟨_, rfl⟩
  have hY : Blk w2 w1.heap.size 58 #[.slice A 2 c, .int .i64 1, .int .i64 1, .slice (some ⟨g, 0, none⟩) 2 2, .slice Ac nc cc, .slice (some ⟨gt, 0, none⟩) 2 2] := by rw [← hw2]; exact Blk.new w1 _ _
  have hb3 : Below w.heap.size w w2 := by rw [← hw2]; exact hb2.alloc hb2.size _
  have own2 := own1.alloc (.cells #[.slice A 2 c, .int .i64 1, .int .i64 1, .slice (some ⟨g, 0, none⟩) 2 2, .slice Ac nc cc, .slice (some ⟨gt, 0, none⟩) 2 2] 58)
  have hK2 := hK.alloc (.cells #[.slice A 2 c, .int .i64 1, .int .i64 1, .slice (some ⟨g, 0, none⟩) 2 2, .slice Ac nc cc, .slice (some ⟨gt, 0, none⟩) 2 2] 58)
  rw [hw2] at own2 hK2
  have HR := Lib.hid (rrun_c A (some ⟨g, 0, none⟩) 2 c 1 1 2 Tl.l2 [1, 0] w2 (Tl.l2_ok 1 (by omega)) plan2 (own_IR4 own2) (NR.of_own hK2))
  unfold jobV planV at HR
  obtain ⟨sb, hsb⟩ : ∃ sb, w1.heap.size = sb := ⟨_, rfl⟩
  rw [hsb] at hY
  have y0 := hY.cell 0
  have y1 := hY.cell 1
  have y2 := hY.cell 2
  have y3 := hY.cell 3
  simp at y0 y1 y2 y3
  clear own1 hK own2 hK2 hb1 hb2 hb0 HP
  go_wp2_with fail
  clear hw2 y0 y1 y3
  refine HR.out.mono ?_
  rintro e w3 ⟨vT, vsT, rfl, hLL, hb4⟩
  rw [Tl.l2_tn] at hLL
  obtain ⟨AT, cT, rfl, _, _⟩ := own_form hLL.outer
  simp only [Tl.l2_mv]
  have hb5 := below_step hb3 hb4
  have hY5 := hY.below hb4 hY.lt
  have hLR : LLR w3 AT 1 [[1, 0]] vsT := hLL.reads
  clear hY hb3 hb4 HR hLL y2
  simp only [List.length_cons, List.length_nil, Nat.zero_add]
  obtain ⟨w4, hw4⟩ : ∃ w4, w3.alloc (.cells #[.slice AT 1 cT, .int .i64 3] 39) = w4 := ⟨_, rfl⟩
  have hS : Blk w4 w3.heap.size 39 #[.slice AT 1 cT, .int .i64 3] := by rw [← hw4]; exact Blk.new w3 _ _
  have hY6 : Blk w4 sb 58 #[.slice A 2 c, .int .i64 1, .int .i64 1, .slice (some ⟨g, 0, none⟩) 2 2, .slice Ac nc cc, .slice (some ⟨gt, 0, none⟩) 2 2] := by rw [← hw4]; exact hY5.alloc _
  have hb6 : Below w.heap.size w w4 := by rw [← hw4]; exact hb5.alloc hb5.size _
  have hLR4 : LLR w4 AT 1 [[1, 0]] vsT := by rw [← hw4]; exact hLR.below ((Below.refl _ _).alloc (Nat.le_refl _) _)
  have y2 := hY6.cell 2
  have s0 := hS.cell 0
  simp at y2 s0
  obtain ⟨rb, hrb⟩ : ∃ rb, w3.heap.size = rb := ⟨_, rfl⟩
  rw [hrb] at s0
  have hbx := ((Below.refl w4.heap.size w4).alloc (Nat.le_refl _) (.cells #[.int .i64 1, .int .i64 0] 3)).alloc (by simp) (.cells #[.slice (some ⟨w4.heap.size, 0, none⟩) 2 2] 22)
  have HL := Lib.hid (lists_c AT (some ⟨w4.heap.size + 1, 0, none⟩) 1 cT 1 [[1, 0]] vsT _ _ (by omega) (hLR4.below hbx) (llr_lit w4) (fun i => by
    match i with
    | 0 => exact (by decide)
    | i + 1 => exact Nat.zero_le _))
  have hb7 := below_step hb6 hbx
  clear hS hY5 hY6 hb5 hb6 hLR hLR4 hbx
  go_wp2_with fail
  clear hw4
  refine HL.out.mono ?_
  rintro e w5 ⟨rfl, hb8⟩
  have hb9 := below_step hb7 hb8
  clear hb7 hb8 HL
  go_wp2_with fail
  go_ret
  exact ⟨rfl, hb9⟩
end Go.Proofs.Ytlljanbhbnempaa
