/- The sort of three schemes that stand in order. -/
import Derived.Test.YtlljanbhbnempaaTlM2
import Derived.Deep.DeepCutAuto
import Derived.StillTailTactics
namespace Go.Proofs.Ytlljanbhbnempaa
open Go.RowKit
theorem or_c (b cap : Nat) (z : Int) (w : World) (hz : z ≠ 0) (h : IR .i64 w (some ⟨b, 0, none⟩) 3 [0, 0, z]) :
    Calls Try.prog 40 #[.slice (some ⟨b, 0, none⟩) 3 cap] w fun e w' => e = .returned (.int .i64 z) ∧ w' = w := by
  have c0 := h.atb (i := 0) (by omega)
  have c1 := h.atb (i := 1) (by omega)
  have c2 := h.atb (i := 2) (by omega)
  simp at c0 c1 c2
  clear h
  go_enter Try.func40, Try.ntmps40
  go_wp2_with fail
  go_loop [2, 8] (fun v p => v = .int .i64 0 ∧ ∃ i : Nat, i ≤ 2 ∧ p = .int .i64 i) (fun _ p => 3 - (intOf p).toNat)
  case atStart => exact ⟨rfl, 0, by omega, rfl⟩
  case round =>
    obtain ⟨rfl, i, hi, rfl⟩ := hrel
    rcases (show i = 0 ∨ i = 1 ∨ i = 2 by omega) with rfl | rfl | rfl
    · go_wp2_with fail
      go_round
      case rel => exact ⟨rfl, 1, by omega, by go_num⟩
      case measure => simp [intOf]
    · go_wp2_with fail
      go_round
      case rel => exact ⟨rfl, 2, by omega, by go_num⟩
      case measure => simp [intOf]
    · have hzb : (z != 0) = true := by simpa using hz
      go_wp2_with fail
      go_ret
      exact ⟨rfl, rfl⟩
def scA (k : Nat) : Value := .agg #[.int .i64 k, .int .i64 1, .int .i64 3, .int .i64 2]
set_option maxHeartbeats 1000000 in
theorem sch1_c (k q : Nat) (w : World) (hk : k ≤ 12) (hq : q ≤ 12) (hne : k ≠ q) :
    Calls Try.prog 39 #[scA k, scA q] w fun e w' => e = .returned (.int .i64 ((k : Int) - (q : Int))) ∧ Below w.heap.size w w' := by
  have hw : IntKind.i64.wrap ((k : Int) - (q : Int)) = (k : Int) - (q : Int) := IntWalk.i64_in _ ⟨by omega, by omega⟩
  unfold scA
  go_enter Try.func39, Try.ntmps39
  go_wp2_with fail
  have hI : IR .i64 (((w.alloc (.cells #[.int .i64 k, .int .i64 1, .int .i64 3, .int .i64 2] 78)).alloc (.cells #[.int .i64 q, .int .i64 1, .int .i64 3, .int .i64 2] 78)).alloc (.cells #[.int .i64 0, .int .i64 0, .int .i64 ((k : Int) - (q : Int))] 3)) (some ⟨w.heap.size + 1 + 1, 0, none⟩) 3 [0, 0, (k : Int) - (q : Int)] := by
    have := IR.new (k := .i64) (w := (w.alloc (.cells #[.int .i64 k, .int .i64 1, .int .i64 3, .int .i64 2] 78)).alloc (.cells #[.int .i64 q, .int .i64 1, .int .i64 3, .int .i64 2] 78)) (cs := #[.int .i64 0, .int .i64 0, .int .i64 ((k : Int) - (q : Int))]) (t := 3) [0, 0, (k : Int) - (q : Int)] 3 rfl rfl (by decide)
    simpa using this
  have hb := (((Below.refl w.heap.size w).alloc (Nat.le_refl _) (.cells #[.int .i64 k, .int .i64 1, .int .i64 3, .int .i64 2] 78)).alloc (by simp) (.cells #[.int .i64 q, .int .i64 1, .int .i64 3, .int .i64 2] 78)).alloc (by simp; omega) (.cells #[.int .i64 0, .int .i64 0, .int .i64 ((k : Int) - (q : Int))] 3)
  refine (or_c _ _ _ _ (by omega) hI).mono ?_
  rintro e w' ⟨rfl, rfl⟩
  go_wp2_with fail
  go_ret
  exact ⟨rfl, hb⟩
/-- The cells of schemes of some weights. -/
def flatK (ks : List Nat) : List Value := ks.flatMap fun (k : Nat) => [.int .i64 (k : Int), .int .i64 1, .int .i64 3, .int .i64 2]
theorem sl_scheme : SlT Try.prog 74 78 4 32 := slT_of (z := .agg #[.int .i64 0, .int .i64 0, .int .i64 0, .int .i64 0]) Try.underlying74 (by kernel_rfl) rfl (by omega)
/-- Three schemes that stand in order. -/
structure Sch3 (w : World) (B g cap : Nat) : Prop where
  own : w.ownsRow B 78 4 (.slice (some ⟨g, 0, none⟩) 3 cap) 3 (flatK [1, 2, 12])
theorem Sch3.below {w w' : World} {B g cap : Nat} (h : Sch3 w B g cap) (hb : Below w.heap.size w w') : Sch3 w' B g cap := ⟨own_below h.own hb⟩
theorem Sch3.cell {w : World} {B g cap : Nat} (h : Sch3 w B g cap) (i : Nat) (v : Value) (hv : (flatK [1, 2, 12])[i]? = some v) : w.cell? ⟨g, i, none⟩ = some v := by
  have hi : i < 3 * 4 := by have := (List.getElem?_eq_some_iff.1 hv).1; simpa [flatK] using this
  rw [h.own.cellAt i (by omega)]
  exact hv
set_option maxRecDepth 100000 in
set_option maxHeartbeats 4000000 in
theorem insS_c (B g cap : Nat) (w : World) (h : Sch3 w B g cap) :
    Calls Try.prog 68 #[.slice (some ⟨g, 0, none⟩) 3 cap, .int .i64 0, .int .i64 3, .func (.func 39) #[] #[]] w fun e w' => e = .returned (.tuple #[]) ∧ Below w.heap.size w w' := by
  have hw0 : IntKind.i64.wrap 0 = 0 := IntWalk.i64_in _ ⟨by omega, by omega⟩
  have hw1 : IntKind.i64.wrap 1 = 1 := IntWalk.i64_in _ ⟨by omega, by omega⟩
  go_enter Try.func68, Try.ntmps68
  go_wp2_with fail
  go_loopw [8] (fun p wr => ∃ i : Nat, 1 ≤ i ∧ i ≤ 3 ∧ p = .int .i64 i ∧ Below w.heap.size w wr) (fun p _ => 3 - (intOf p).toNat)
  case atStart => exact ⟨1, by omega, by omega, rfl, Below.refl _ _⟩
  case round =>
    obtain ⟨i, hi1, hi3, rfl, hbr⟩ := hrel
    have hS := h.below hbr
    rcases (show i = 1 ∨ i = 2 ∨ i = 3 by omega) with rfl | rfl | rfl
    · have d0 : decide ((0 : Int) < 1) = true := rfl
      have e0 := hS.cell 0 _ rfl
      have e1 := hS.cell 1 _ rfl
      have e2 := hS.cell 2 _ rfl
      have e3 := hS.cell 3 _ rfl
      have e4 := hS.cell 4 _ rfl
      have e5 := hS.cell 5 _ rfl
      have e6 := hS.cell 6 _ rfl
      have e7 := hS.cell 7 _ rfl
      simp at e0 e1 e2 e3 e4 e5 e6 e7
      have HC := Lib.hid (sch1_c 2 1 wr.drew (by omega) (by omega) (by omega))
      unfold scA at HC
      go_wp2_with fail
      go_loopw [9] (fun p wr2 => p = .int .i64 1 ∧ wr2 = wr) (fun _ _ => 0)
      case atStart => exact ⟨rfl, rfl⟩
      case round =>
        obtain ⟨rfl, rfl⟩ := hrel
        go_upto_region 4 with fail
        go_cut [34] from 18 to 52 (fun v W => v = .bool false ∧ Below w.heap.size w W)
        case first =>
          go_still_tail 14, (by kernel_rfl)
          change wpList _ _ _ _ _ wr.drew
          go_wp2_with fail
          refine HC.out.mono ?_
          rintro e w5 ⟨rfl, hb5⟩
          go_wp2_with fail
          go_meet
          case rel => exact ⟨rfl, below_step hbr (below_drew' hb5)⟩
        case rest =>
          obtain ⟨rfl, hb9⟩ := hcut
          go_wp2_with fail
          go_roundw
          case rel => exact ⟨2, by omega, by omega, by go_num, hb9⟩
          case measure => simp [intOf]
    · have d0 : decide ((0 : Int) < 2) = true := rfl
      have e4 := hS.cell 4 _ rfl
      have e5 := hS.cell 5 _ rfl
      have e6 := hS.cell 6 _ rfl
      have e7 := hS.cell 7 _ rfl
      have e8 := hS.cell 8 _ rfl
      have e9 := hS.cell 9 _ rfl
      have e10 := hS.cell 10 _ rfl
      have e11 := hS.cell 11 _ rfl
      simp at e4 e5 e6 e7 e8 e9 e10 e11
      have HC := Lib.hid (sch1_c 12 2 wr.drew (by omega) (by omega) (by omega))
      unfold scA at HC
      go_wp2_with fail
      go_loopw [9] (fun p wr2 => p = .int .i64 2 ∧ wr2 = wr) (fun _ _ => 0)
      case atStart => exact ⟨rfl, rfl⟩
      case round =>
        obtain ⟨rfl, rfl⟩ := hrel
        go_upto_region 4 with fail
        go_cut [34] from 18 to 52 (fun v W => v = .bool false ∧ Below w.heap.size w W)
        case first =>
          go_still_tail 14, (by kernel_rfl)
          change wpList _ _ _ _ _ wr.drew
          go_wp2_with fail
          refine HC.out.mono ?_
          rintro e w5 ⟨rfl, hb5⟩
          go_wp2_with fail
          go_meet
          case rel => exact ⟨rfl, below_step hbr (below_drew' hb5)⟩
        case rest =>
          obtain ⟨rfl, hb9⟩ := hcut
          go_wp2_with fail
          go_roundw
          case rel => exact ⟨3, by omega, by omega, by go_num, hb9⟩
          case measure => simp [intOf]
    · go_wp2_with fail
      refine bodyPost_end (results_none rfl _ _ _) rfl ?_
      exact ⟨rfl, hbr⟩
set_option maxHeartbeats 2000000 in
theorem sortS_c (B g cap : Nat) (w : World) (h : Sch3 w B g cap) :
    Calls Try.prog 38 #[.slice (some ⟨g, 0, none⟩) 3 cap, .func (.func 39) #[] #[]] w fun e w' => e = .returned (.tuple #[]) ∧ Below w.heap.size w w' := by
  have HI := Lib.hid (insS_c B g cap w h)
  clear h
  go_enter Try.func38, Try.ntmps38
  go_wp2_with fail
  refine (show Calls Try.prog 57 #[.slice (some ⟨g, 0, none⟩) 3 cap, .int .i64 3, .func (.func 39) #[] #[]] w (fun e w' => e = .returned (.tuple #[]) ∧ Below w.heap.size w w') from ?_).mono ?_
  · go_enter Try.func57, Try.ntmps57
    go_wp2_with fail
    go_loopw [7, 8] (fun p q wr => p = .int .i64 0 ∧ q = .int .i64 20 ∧ wr = w) (fun _ _ _ => 0)
    case atStart => exact ⟨rfl, rfl, rfl⟩
    case round =>
      obtain ⟨rfl, rfl, rfl⟩ := hrel
      go_wp2_with fail
      refine HI.out.mono ?_
      rintro e w2 ⟨rfl, hb2⟩
      go_wp2_with fail
      go_loopw [6, 7, 8] (fun v6 p q wr => v6 = .int .i64 20 ∧ p = .int .i64 0 ∧ q = .int .i64 20 ∧ wr = w2) (fun _ _ _ _ => 0)
      case atStart => exact ⟨rfl, rfl, rfl, rfl⟩
      case round =>
        obtain ⟨rfl, rfl, rfl, rfl⟩ := hrel
        go_wp2_with fail
        refine bodyPost_end (results_none rfl _ _ _) rfl ?_
        exact ⟨rfl, hb2⟩
  · rintro e w2 ⟨rfl, hb2⟩
    go_wp2_with fail
    refine bodyPost_end (results_none rfl _ _ _) rfl ?_
    exact ⟨rfl, hb2⟩
end Go.Proofs.Ytlljanbhbnempaa
