/- A builder's String, called more than once: the bytes are frozen, not changed. (The walk began as the words of the shelf's Builder1.) -/
import Derived.Test.YtiegpkbollihgaaDoorLyLib
namespace Go.Proofs.YtiegpkbollihgaaDoor
open Go.RowKit
/-- A builder whose bytes may be frozen. -/
def BdF (B b : Nat) (l : List UInt8) (w : World) : Prop := ∃ (p : Value) (g cap : Nat) (cur : Array Value) (fz : Nat × Nat), w.heap[b]? = some (.cells #[p, .slice (some ⟨g, 0, none⟩) l.length cap] 74 (0, 0)) ∧ w.heap[g]? = some (.cells cur 5 fz) ∧ l.length ≤ cap ∧ cap ≤ maxLen ∧ cur.size = cap ∧ cur.toList.take l.length = Lib.byteCells l ∧ B ≤ g ∧ b ≠ g
theorem BdF.of {B b : Nat} {l : List UInt8} {w : World} (h : Bd B b l w) (h0 : l ≠ []) : BdF B b l w := by
  obtain ⟨p, hB, v, hbk, hown, hne⟩ : ∃ p, Lib.BuilderAt 74 5 B b p (Lib.byteCells l) w := by
    rcases h with h | h
    · exact ⟨_, h⟩
    · exact ⟨_, h⟩
  have hl0 : l.length ≠ 0 := by simpa using h0
  rw [Lib.byteCells_length] at hown
  rcases hown.2 with ⟨_, hz⟩ | ⟨g, cap, cur, rfl, hbg, hg, hnc, hcm, hcs, htake⟩
  · exact absurd hz hl0
  · exact ⟨p, g, cap, cur, (0, 0), hbk, hg, hnc, hcm, by omega, by simpa using htake, hbg, fun e => hne (by rw [e]; rfl)⟩
theorem under_bytep : Tryd.prog.underlying 95 = some (.pointer 5) := by kernel_rfl
theorem cells_byte : Tryd.prog.cellsOf 5 = 1 := by kernel_rfl
set_option maxHeartbeats 2000000 in
theorem str_c (B b : Nat) (l : List UInt8) (w : World) (h : BdF B b l w) (h0 : l ≠ []) :
    Calls Tryd.prog 37 #[.pointer (some ⟨b, 0, none⟩)] w fun e w' => e = .returned (.string ⟨l.toArray⟩) ∧ BdF B b l w' ∧ Below B w w' := by
  obtain ⟨p, g, cap, cur, fz, hbk, hg, hnc, hcm, hcs, htake, hBg, hbg⟩ := h
  have hl0 : l.length ≠ 0 := by simpa using h0
  have c1 : w.drew.cell? ⟨b, 1, none⟩ = some (.slice (some ⟨g, 0, none⟩) l.length cap) := by
    have : w.drew.heap[b]? = some (.cells #[p, .slice (some ⟨g, 0, none⟩) l.length cap] 74 (0, 0)) := hbk
    rw [Lib.cell_of_heap this]; rfl
  have hSD : (Builtin.unsafeSliceData_ #[53] 95 #[.slice (some ⟨g, 0, none⟩) l.length cap]).run Tryd.prog w.drew = .ok (.pointer (some ⟨g, 0, none⟩)) w.drew :=
    Lib.run_unsafeSliceData_row _ _ _ _ _ _ (by omega)
  have hUS : (Builtin.unsafeString_ #[95, 3] 9 #[.pointer (some ⟨g, 0, none⟩), .int .i64 l.length]).run Tryd.prog w.drew = .ok (.string ⟨l.toArray⟩) (w.drew.freeze ⟨g, 0, none⟩ l.length) := by
    have hg' : w.drew.heap[g]? = some (.cells cur 5 fz) := hg
    refine Lib.run_unsafeString_row w.drew 95 3 9 5 under_bytep cells_byte g cur.size (by simp [World.shape?, hg']) l h0 (by omega) (by unfold maxLen at hcm; omega) ?_
    intro j x hx
    have hj : j < l.length := (List.getElem?_eq_some_iff.1 hx).1
    have e : cur[j]? = some (.int .u8 x.toNat) := by
      have h1 : (cur.toList.take l.length)[j]? = some (.int .u8 x.toNat) := by rw [htake]; simp [Lib.byteCells, hx]
      rw [List.getElem?_take, if_pos hj] at h1
      simpa using h1
    have e2 : (⟨g, 0, none⟩ : Addr).add j = ⟨g, j, none⟩ := by
      unfold Addr.add
      split
      · rename_i hz
        subst hz
        rfl
      · simp
    rw [e2, Lib.cell_of_heap hg']
    exact e
  have key : BdF B b l (w.drew.freeze ⟨g, 0, none⟩ l.length) ∧ Below B w (w.drew.freeze ⟨g, 0, none⟩ l.length) := by
    refine ⟨?_, Lib.below_freeze (Below.drew (Below.refl B w)) (p := ⟨g, 0, none⟩) hBg _⟩
    have hfz : ∃ fz', (w.drew.freeze ⟨g, 0, none⟩ l.length).heap[g]? = some (.cells cur 5 fz') := by
      unfold World.freeze
      rw [if_neg hl0]
      have hg' : w.drew.heap[g]? = some (.cells cur 5 fz) := hg
      simp only [Array.getElem?_modify, if_true, hg', Option.map_some]
      exact ⟨_, rfl⟩
    obtain ⟨fz', hfz⟩ := hfz
    refine ⟨p, g, cap, cur, fz', ?_, hfz, hnc, hcm, hcs, htake, hBg, hbg⟩
    unfold World.freeze
    rw [if_neg hl0]
    simp only [Array.getElem?_modify]
    rw [if_neg (fun e => hbg e.symm)]
    exact hbk
  obtain ⟨W2, hW2⟩ : ∃ W2, w.drew.freeze ⟨g, 0, none⟩ l.length = W2 := ⟨_, rfl⟩
  rw [hW2] at hUS key
  have Hkey := Lib.hid key
  clear key hbk hg htake
  go_enter Tryd.func37, Tryd.ntmps37
  go_wp2_with fail
  go_region
  all_goals
    go_wp2_with fail
    go_ret
    exact ⟨rfl, Hkey.out⟩
end Go.Proofs.YtiegpkbollihgaaDoor
