/- humpgen's Spoil and SpoilBytes: some bytes, at most one more. -/
import Derived.Test.YtiegpkbollihgaaDoorMaker
import Derived.Laws.BytesArg
import Derived.Deep.RegionWith
namespace Go.Proofs.YtiegpkbollihgaaDoor
open Go.RowKit
theorem under_bytes : Tryd.prog.underlying 53 = some (.slice 5) := by kernel_rfl
theorem under_u8 : Tryd.prog.underlying 5 = some (.int .u8) := by kernel_rfl
theorem under_string : Tryd.prog.underlying 9 = some .string := by kernel_rfl
theorem mk_drewN {B : Nat} {w : World} {g c : Nat} (h : Mk B w g c) (n : Nat) : Mk B (w.drewN n) g c := ⟨h.ge, h.blk⟩
theorem grown_drewN {a w : World} {row : Option Nat} (h : a.grownBy w row) (n : Nat) : a.grownBy (w.drewN n) row := ⟨h.os, h.tape, h.output, h.size, h.block⟩
theorem grown_drew' {a w : World} {row : Option Nat} (h : a.drew.grownBy w row) : a.grownBy w row := ⟨h.os, h.tape, h.output, h.size, h.block⟩
/-- string([]byte{x}). -/
theorem conv_one (w : World) (x : Int) : (convert 53 9 (.slice (some ⟨w.heap.size, 0, none⟩) 1 1)).run Tryd.prog (w.alloc (.cells #[.int .u8 x] 5)) = .ok (.string (strOfNums [x])) (w.alloc (.cells #[.int .u8 x] 5)) :=
  run_convert_bytes_arg _ 53 5 under_bytes under_u8 w.heap.size 0 1 1 [x] rfl (fun i hi => by
    obtain rfl : i = 0 := by omega
    exact (Blk.new w _ _).cell 0) 9 under_string
set_option maxHeartbeats 2000000 in
theorem spoil_c (B g c : Nat) (s : ByteArray) (w : World) (h : Mk B w g c) (hc : c ≤ 2305843009213693952) (hs : s.size ≤ 1000000) :
    Calls Tryd.prog 15 #[.pointer (some ⟨g, 0, none⟩), .string s] w fun e w' => ∃ (s' : ByteArray) (c' : Nat), e = .returned (.string s') ∧ s'.size ≤ s.size + 1 ∧ c' ≤ c + 3 ∧ Mk B w' g c' ∧ w.grownBy w' (some g) := by
  have hcv := conv_one
  have hs1 : ∀ z : Int, (strOfNums [z]).size = 1 := fun z => by rw [strOfNums_size]; rfl
  by_cases h0 : s.toList.isEmpty = true
  · go_enter Tryd.func15, Tryd.ntmps15
    go_wp2_with fail
    refine (next_c B g c 256 w h (by omega) (by omega) (by omega)).mono ?_
    rintro e w1 ⟨x, hx0, hx1, rfl, hm1, hg1⟩
    go_wp2_with fail
    go_ret
    exact ⟨strOfNums [x], c + 1, rfl, by rw [strOfNums_size]; simp, by omega, hm1.alloc _, hg1.trans (World.grownBy_alloc w1 _ (some g))⟩
  · have hne : s.toList.isEmpty = false := by simpa using h0
    have hpos : 0 < s.size := by
      rcases Nat.eq_zero_or_pos s.size with hz | hz
      · exfalso
        have he : s = ByteArray.empty := by have : s.data.size = 0 := hz; simpa using this
        subst he
        exact h0 (by kernel_rfl)
      · exact hz
    clear h0
    go_enter Tryd.func15, Tryd.ntmps15
    go_wp2_with fail
    refine (next_c B g c s.size w h (by omega) (by omega) (by omega)).mono ?_
    rintro e w1 ⟨i0, hi0, hi1, rfl, hm1, hg1⟩
    obtain ⟨i, rfl⟩ := Int.eq_ofNat_of_zero_le hi0
    go_wp2_with fail
    refine (next_c B g (c + 1) 4 w1 hm1 (by omega) (by omega) (by omega)).mono ?_
    rintro e w2 ⟨x, hx0, hx1, rfl, hm2, hg2⟩
    have hg2a := hg1.trans hg2
    have hin : i < s.size := by omega
    have hi2 : (i : Int) < (s.size : Int) := by omega
    have hi3 : (i : Int) + 1 ≤ (s.size : Int) := by omega
    have hiw : IntKind.i64.wrap ((i : Int) + 1) = (i : Int) + 1 := IntWalk.i64_in _ ⟨by omega, by omega⟩
    have hit : ((i : Int) + 1).toNat = i + 1 := by omega
    have hi0' : (0 : Int) ≤ (i : Int) + 1 := by omega
    have hx : x = 0 ∨ x = 1 ∨ x = 2 ∨ x = 3 := by omega
    clear hm1 hg1 hg2 hi0 hi1 hx0 hx1 h
    rcases hx with rfl | rfl | rfl | rfl
    · go_wp2_with fail
      go_quiet (fail)
      go_wp2_with fail
      go_ret
      exact ⟨_, c + 1 + 1, rfl, by simp; omega, by omega, mk_drewN hm2 _, grown_drewN hg2a _⟩
    all_goals
      go_wp2_with fail
      have hm2d : Mk B w2.drew g (c + 1 + 1) := ⟨hm2.ge, hm2.blk⟩
      go_region_with (go_at_call 9
                      with_reducible refine (next_c B g (c + 1 + 1) _ _ hm2d (by omega) (by omega) (by omega)).mono ?_
                      rintro e w3 ⟨y, hy0, hy1, rfl, hm3, hg3⟩)
      all_goals
        go_wp2_with fail
        go_ret
        exact ⟨_, c + 1 + 1 + 1, rfl, by simp [hs1]; omega, by omega, hm3.alloc _, (hg2a.trans (grown_drew' hg3)).trans (World.grownBy_alloc w3 _ (some g))⟩
end Go.Proofs.YtiegpkbollihgaaDoor
