/- The sort of three schemes that stand in order. -/
import Derived.Test.YtocohkgdkebmdaaGreatTlMk
import Derived.Test.YtocohkgdkebmdaaGreatTlM2
import Derived.Deep.DeepCutAuto
import Derived.StillTailTactics
namespace Go.Proofs.YtocohkgdkebmdaaGreat
open Go.RowKit
/-- What a scheme is. -/
def schV (k S m p : Nat) : Value := .agg #[.int .i64 k, .int .i64 S, .int .i64 m, .int .i64 p]
/-- What scheme leaves. -/
def SmR (l : List IT) (k n : Nat) (w : World) (e : Ending) (w' : World) : Prop :=
  ∃ o : List Nat, Tl.Ord l o ∧ Below w.heap.size w w' ∧
    ((Tl.solve l k o = none ∧ e = .returned (.tuple #[schV 0 0 0 0, planV 0 none 0 0, .bool false])) ∨
     ∃ (b K : List Nat) (g : Nat), Tl.solve l k o = some (b, K) ∧
       e = .returned (.tuple #[schV k (Tl.stepsOf K) (Tl.run l K (Tl.stepsOf K)).mv (Tl.run l K (Tl.stepsOf K)).pu, planV (Tl.stepsOf K) (some ⟨g, 0, none⟩) n n, .bool true]))
/-- Six cells stored into two blocks. -/
def sto (W : World) (gX gY : Nat) (a0 a1 a2 a3 b0 b1 : Value) : World :=
  (((((W.setCell ⟨gX, 0, none⟩ a0).setCell ⟨gX, 1, none⟩ a1).setCell ⟨gX, 2, none⟩ a2).setCell ⟨gX, 3, none⟩ a3).setCell ⟨gY, 0, none⟩ b0).setCell ⟨gY, 1, none⟩ b1
theorem sto_blk {W : World} {gX gY : Nat} {tX tY : TypeId} {x0 x1 x2 x3 y0 y1 : Value} (hX : Blk W gX tX #[x0, x1, x2, x3]) (hY : Blk W gY tY #[y0, y1]) (hne : gX ≠ gY) (a0 a1 a2 a3 b0 b1 : Value) :
    Blk (sto W gX gY a0 a1 a2 a3 b0 b1) gX tX #[a0, a1, a2, a3] ∧ Blk (sto W gX gY a0 a1 a2 a3 b0 b1) gY tY #[b0, b1] := by
  unfold sto
  constructor
  · have h := ((((hX.set_ 0 a0).set_ 1 a1).set_ 2 a2).set_ 3 a3)
    have h2 := (h.far (p := ⟨gY, 0, none⟩) hne b0).far (p := ⟨gY, 1, none⟩) hne b1
    simpa using h2
  · have hne' : gY ≠ gX := fun e => hne e.symm
    have h := (((hY.far (p := ⟨gX, 0, none⟩) hne' a0).far (p := ⟨gX, 1, none⟩) hne' a1).far (p := ⟨gX, 2, none⟩) hne' a2).far (p := ⟨gX, 3, none⟩) hne' a3
    have h2 := (h.set_ 0 b0).set_ 1 b1
    simpa using h2
theorem sto_below {B gX gY : Nat} {w W : World} (h : Below B w W) (h1 : B ≤ gX) (h2 : B ≤ gY) (a0 a1 a2 a3 b0 b1 : Value) : Below B w (sto W gX gY a0 a1 a2 a3 b0 b1) := by
  unfold sto
  exact (((((h.setCell (p := ⟨gX, 0, none⟩) h1 a0).setCell (p := ⟨gX, 1, none⟩) h1 a1).setCell (p := ⟨gX, 2, none⟩) h1 a2).setCell (p := ⟨gX, 3, none⟩) h1 a3).setCell (p := ⟨gY, 0, none⟩) h2 b0).setCell (p := ⟨gY, 1, none⟩) h2 b1
attribute [local irreducible] Tl.run Tl.stepsOf
set_option maxRecDepth 100000 in
set_option maxHeartbeats 4000000 in
theorem scheme_c (A : Option Addr) (n c k : Nat) (l : List IT) (w : World) (hj : Tl.JobOk l k) (hn : n ≤ 12) (h : IR4 w A n l) :
    Calls Tryz.prog 53 #[.slice A n c, .int .i64 k] w (SmR l k n w) := by
  have hl := h.len
  obtain ⟨W0, hW0⟩ : ∃ W0, ((w.alloc (.cells #[.int .i64 0, .int .i64 0, .int .i64 0, .int .i64 0] 99)).alloc (.cells #[.int .i64 0, .slice none 0 0] 59)).alloc (.cells #[.slice A n c, .int .i64 k] 57) = W0 := ⟨_, rfl⟩
  have hB1 : Blk W0 w.heap.size 99 #[.int .i64 0, .int .i64 0, .int .i64 0, .int .i64 0] := by rw [← hW0]; exact ((Blk.new w _ _).alloc _).alloc _
  have hB2 : Blk W0 (w.heap.size + 1) 59 #[.int .i64 0, .slice none 0 0] := by
    rw [← hW0]
    have := Blk.new (w.alloc (.cells #[.int .i64 0, .int .i64 0, .int .i64 0, .int .i64 0] 99)) 59 #[.int .i64 0, .slice none 0 0]
    exact (show Blk _ (w.heap.size + 1) _ _ by simpa using this).alloc _
  have hB3 : Blk W0 (w.heap.size + 1 + 1) 57 #[.slice A n c, .int .i64 k] := by
    rw [← hW0]
    have := Blk.new ((w.alloc (.cells #[.int .i64 0, .int .i64 0, .int .i64 0, .int .i64 0] 99)).alloc (.cells #[.int .i64 0, .slice none 0 0] 59)) 57 #[.slice A n c, .int .i64 k]
    simpa using this
  have hb0 : Below w.heap.size w W0 := by rw [← hW0]; exact (((Below.refl _ _).alloc (Nat.le_refl _) _).alloc (by simp) _).alloc (by simp; omega) _
  have hs0 := hb0.size
  have h0 := h.below hb0
  have HL := Lib.hid (least_c A n c k l W0 hj hn h0)
  have HJ := Lib.hid hj
  unfold jobV at HL
  obtain ⟨B, hB⟩ : ∃ B, w.heap.size = B := ⟨_, rfl⟩
  rw [hB] at hB1 hB2 hB3 hb0 hs0
  have j0 := hB3.cell 0
  have j1 := hB3.cell 1
  simp at j0 j1
  clear h hj
  go_enter Tryz.func53, Tryz.ntmps53
  go_wp2_with fail
  clear hW0
  refine HL.out.mono ?_
  intro e w1 hls
  obtain ⟨s, AS, m, cS, x, rfl, o, ho, hb1, hcase⟩ := lsr_form hls
  have hB1' := hB1.below hb1 hB1.lt
  have hB2' := hB2.below hb1 hB2.lt
  have hB3' := hB3.below hb1 hB3.lt
  have h1 := h0.below hb1
  have hs1 : B ≤ w1.heap.size := Nat.le_trans hs0 hb1.size
  have hb2 : Below B w w1 := hb0.trans (hb1.mono hs0)
  clear HL hb0 hb1 h0 hB1 hB2 hB3 hls j0 j1
  rcases hcase with ⟨hno, rfl, rfl, rfl, rfl, rfl⟩ | ⟨b, K, g, hso, rfl, rfl, rfl, rfl, rfl, own⟩
  · have hX := hB1'.alloc (.cells #[.int .i64 0, .slice none 0 0] 59)
    have hY := hB2'.alloc (.cells #[.int .i64 0, .slice none 0 0] 59)
    have hbq := hb2.alloc hs1 (.cells #[.int .i64 0, .slice none 0 0] 59)
    obtain ⟨hX2, hY2⟩ := sto_blk hX hY (by omega) (.int .i64 0) (.int .i64 0) (.int .i64 0) (.int .i64 0) (.int .i64 0) (.slice none 0 0)
    have hbz := sto_below hbq (Nat.le_refl B) (show B ≤ B + 1 by omega) (.int .i64 0) (.int .i64 0) (.int .i64 0) (.int .i64 0) (.int .i64 0) (.slice none 0 0)
    have hE : SmR l k n w (.returned (.tuple #[schV 0 0 0 0, planV 0 none 0 0, .bool false])) _ := ⟨o, ho, by rw [hB]; exact hbz, .inl ⟨hno, rfl⟩⟩
    have q0 := hX2.cell 0
    have q1 := hX2.cell 1
    have q2 := hX2.cell 2
    have q3 := hX2.cell 3
    have r0 := hY2.cell 0
    have r1 := hY2.cell 1
    unfold sto at q0 q1 q2 q3 r0 r1 hE
    simp at q0 q1 q2 q3 r0 r1
    have x0 := hX.cell 0
    have x1 := hX.cell 1
    have x2 := hX.cell 2
    have x3 := hX.cell 3
    have y0 := hY.cell 0
    have y1 := hY.cell 1
    simp at x0 x1 x2 x3 y0 y1
    have zx := fun i => hX.frozen i
    have zy := fun i => hY.frozen i
    clear hX hY hX2 hY2 hbz hbq hno ho hB1' hB2' hB3'
    go_wp2_with fail
    exact bodyPost_ret (v := .tuple #[schV 0 0 0 0, planV 0 none 0 0, .bool false]) (by simp [results, schV, planV, Tryz.results53, go_sem, q0, q1, q2, q3, r0, r1]) rfl hE
  · have hsol := (Tl.solve_sol ho hso).1
    have hst := Tl.sol_steps hsol
    have hpl := Tl.sol_plan hsol hst.1 hst.2
    obtain ⟨S, hSE⟩ : ∃ S, Tl.stepsOf K = S := ⟨_, rfl⟩
    rw [hSE] at hpl
    have HPl := Lib.hid hpl
    have HE := Lib.hid (fun (W : World) (hw : Below B w W) => (show SmR l k n w (.returned (.tuple #[schV k S (Tl.run l K S).mv (Tl.run l K S).pu, planV S (some ⟨g, 0, none⟩) n n, .bool true])) W from
      ⟨o, ho, by rw [hB]; exact hw, .inr ⟨b, K, g, hso, by rw [hSE]⟩⟩))
    obtain ⟨w2, hw2⟩ : ∃ w2, w1.alloc (.cells #[.int .i64 S, .slice (some ⟨g, 0, none⟩) n n] 59) = w2 := ⟨_, rfl⟩
    have hX := hB1'.alloc (.cells #[.int .i64 S, .slice (some ⟨g, 0, none⟩) n n] 59)
    have hY := hB2'.alloc (.cells #[.int .i64 S, .slice (some ⟨g, 0, none⟩) n n] 59)
    have hZ := hB3'.alloc (.cells #[.int .i64 S, .slice (some ⟨g, 0, none⟩) n n] 59)
    have hPb := Blk.new w1 59 #[.int .i64 S, .slice (some ⟨g, 0, none⟩) n n]
    have hbq := hb2.alloc hs1 (.cells #[.int .i64 S, .slice (some ⟨g, 0, none⟩) n n] 59)
    have own2 := own.alloc (.cells #[.int .i64 S, .slice (some ⟨g, 0, none⟩) n n] 59)
    have hbn := (Below.refl w1.heap.size w1).alloc (Nat.le_refl _) (.cells #[.int .i64 S, .slice (some ⟨g, 0, none⟩) n n] 59)
    have h2 := h1.below hbn
    rw [hw2] at hX hY hZ hPb hbq own2 h2
    have hK2 : Reads w2 w2.heap.size 1 (some ⟨g, 0, none⟩) n (ints64 K) := Reads.of_own own2
    have hsz2 : B ≤ w2.heap.size := by rw [← hB]; rw [← hB] at hbq; exact hbq.size
    have HR := Lib.hid (rrun_c A (some ⟨g, 0, none⟩) n c k S n l K w2 HJ.out HPl.out h2 hK2)
    unfold jobV planV at HR
    obtain ⟨pb, hpb⟩ : ∃ pb, w1.heap.size = pb := ⟨_, rfl⟩
    rw [hpb] at hPb
    have hBpb : B + 1 < pb := by rw [← hpb]; exact hB2'.lt
    have p0 := hPb.cell 0
    have p1 := hPb.cell 1
    have j0 := hZ.cell 0
    have j1 := hZ.cell 1
    simp at p0 p1 j0 j1
    simp only [hSE]
    clear hsol hst hpl hso ho own own2 hB1' hB2' hB3' hb2 hbn h1 hs1
    go_wp2_with fail
    refine HR.out.mono ?_
    rintro e w3 ⟨vT, vsT, rfl, hLL, hb3⟩
    obtain ⟨AT, cT, rfl, _, _⟩ := own_form hLL.outer
    replace hX := hX.below hb3 hX.lt
    replace hY := hY.below hb3 hY.lt
    replace hZ := hZ.below hb3 hZ.lt
    replace hPb := hPb.below hb3 hPb.lt
    replace h2 := h2.below hb3
    replace hK2 := (hK2.below hb3).more hb3.size
    replace hbq := hbq.trans (hb3.mono hsz2)
    replace hsz2 := Nat.le_trans hsz2 hb3.size
    obtain ⟨mv, hmv⟩ : ∃ mv, (Tl.run l K S).mv = mv := ⟨_, rfl⟩
    obtain ⟨nT, hnT⟩ : ∃ nT, (Tl.run l K S).tn.length = nT := ⟨_, rfl⟩
    simp only [hmv, hnT]
    rw [hmv] at HE
    obtain ⟨w4, hw4⟩ : ∃ w4, w3.alloc (.cells #[.slice AT nT cT, .int .i64 mv] 69) = w4 := ⟨_, rfl⟩
    replace hX := hX.alloc (.cells #[.slice AT nT cT, .int .i64 mv] 69)
    replace hY := hY.alloc (.cells #[.slice AT nT cT, .int .i64 mv] 69)
    replace hZ := hZ.alloc (.cells #[.slice AT nT cT, .int .i64 mv] 69)
    replace hPb := hPb.alloc (.cells #[.slice AT nT cT, .int .i64 mv] 69)
    have hSb := Blk.new w3 69 #[.slice AT nT cT, .int .i64 mv]
    replace hbq := hbq.alloc hsz2 (.cells #[.slice AT nT cT, .int .i64 mv] 69)
    have hbn := (Below.refl w3.heap.size w3).alloc (Nat.le_refl _) (.cells #[.slice AT nT cT, .int .i64 mv] 69)
    replace h2 := h2.below hbn
    replace hK2 := (hK2.below hbn).more hbn.size
    rw [hw4] at hX hY hZ hPb hSb hbq h2 hK2 hbn
    replace hsz2 := Nat.le_trans hsz2 hbn.size
    obtain ⟨sb, hsb⟩ : ∃ sb, w3.heap.size = sb := ⟨_, rfl⟩
    rw [hsb] at hSb
    have HP := Lib.hid (rpushes_c A (some ⟨g, 0, none⟩) n c k S n l K w4 HJ.out HPl.out h2 hK2)
    unfold jobV planV at HP
    replace p0 := hPb.cell 0
    replace p1 := hPb.cell 1
    replace j0 := hZ.cell 0
    replace j1 := hZ.cell 1
    simp at p0 p1 j0 j1
    clear hLL hb3 hbn HR hw2
    go_wp2_with fail
    clear hw4 p0 p1 j0 j1
    refine HP.out.mono ?_
    rintro e w5 ⟨rfl, hb5⟩
    replace hX := hX.below hb5 hX.lt
    replace hY := hY.below hb5 hY.lt
    replace hPb := hPb.below hb5 hPb.lt
    replace hSb := hSb.below hb5 hSb.lt
    replace hbq := hbq.trans (hb5.mono hsz2)
    obtain ⟨pu, hpu⟩ : ∃ pu, (Tl.run l K S).pu = pu := ⟨_, rfl⟩
    simp only [hpu]
    rw [hpu] at HE
    obtain ⟨hX2, hY2⟩ := sto_blk hX hY (by omega) (.int .i64 k) (.int .i64 S) (.int .i64 mv) (.int .i64 pu) (.int .i64 S) (.slice (some ⟨g, 0, none⟩) n n)
    have hbz := sto_below hbq (Nat.le_refl B) (show B ≤ B + 1 by omega) (.int .i64 k) (.int .i64 S) (.int .i64 mv) (.int .i64 pu) (.int .i64 S) (.slice (some ⟨g, 0, none⟩) n n)
    have hE := HE.out _ (below_drewN hbz 1)
    have q0 := hX2.cell 0
    have q1 := hX2.cell 1
    have q2 := hX2.cell 2
    have q3 := hX2.cell 3
    have r0 := hY2.cell 0
    have r1 := hY2.cell 1
    unfold sto at q0 q1 q2 q3 r0 r1 hE
    simp at q0 q1 q2 q3 r0 r1
    have x0 := hX.cell 0
    have x1 := hX.cell 1
    have x2 := hX.cell 2
    have x3 := hX.cell 3
    have y0 := hY.cell 0
    have y1 := hY.cell 1
    have p0 := hPb.cell 0
    have p1 := hPb.cell 1
    have s1 := hSb.cell 1
    simp at x0 x1 x2 x3 y0 y1 p0 p1 s1
    have zx := fun i => hX.frozen i
    have zy := fun i => hY.frozen i
    clear hX hY hX2 hY2 hbz hbq hPb hSb hZ HE HP h2 hK2 HPl hmv hnT hpu hSE
    have n1 : ¬ (B = pb) := by omega
    have n2 : ¬ (pb = B) := by omega
    have n3 : ¬ (B + 1 = pb) := by omega
    have n4 : ¬ (pb = B + 1) := by omega
    go_wp2_with fail
    go_region
    all_goals
      go_wp2_with fail
      exact bodyPost_ret (v := .tuple #[schV k S mv pu, planV S (some ⟨g, 0, none⟩) n n, .bool true]) (by simp [results, schV, planV, Tryz.results53, go_sem, q0, q1, q2, q3, r0, r1]) rfl hE
end Go.Proofs.YtocohkgdkebmdaaGreat
namespace Go.Proofs.YtocohkgdkebmdaaGreat
open Go.RowKit
theorem or_c (b cap : Nat) (z : Int) (w : World) (hz : z ≠ 0) (h : IR .i64 w (some ⟨b, 0, none⟩) 3 [0, 0, z]) :
    Calls Tryz.prog 56 #[.slice (some ⟨b, 0, none⟩) 3 cap] w fun e w' => e = .returned (.int .i64 z) ∧ w' = w := by
  have c0 := h.atb (i := 0) (by omega)
  have c1 := h.atb (i := 1) (by omega)
  have c2 := h.atb (i := 2) (by omega)
  simp at c0 c1 c2
  clear h
  go_enter Tryz.func56, Tryz.ntmps56
  go_wp2_with fail
  go_loop [2, 8] (fun v p => v = .int .i64 0 ∧ ∃ i : Nat, i ≤ 2 ∧ p = .int .i64 i) (fun _ p => 3 - (intOf p).toNat)
  case atStart => exact ⟨rfl, 0, by omega, rfl⟩
  case round =>
    obtain ⟨rfl, i, hi, rfl⟩ := hrel
    rcases (show i = 0 ∨ i = 1 ∨ i = 2 by omega) with rfl | rfl | rfl
    · go_wp2_with fail
      go_round
      case rel => exact ⟨rfl, 1, by omega, by go_num⟩
      case measure => simp [intOf]
    · go_wp2_with fail
      go_round
      case rel => exact ⟨rfl, 2, by omega, by go_num⟩
      case measure => simp [intOf]
    · have hzb : (z != 0) = true := by simpa using hz
      go_wp2_with fail
      go_ret
      exact ⟨rfl, rfl⟩
def scA (k : Nat) : Value := .agg #[.int .i64 k, .int .i64 1, .int .i64 3, .int .i64 2]
set_option maxHeartbeats 1000000 in
theorem sch1_c (k q : Nat) (w : World) (hk : k ≤ 12) (hq : q ≤ 12) (hne : k ≠ q) :
    Calls Tryz.prog 55 #[scA k, scA q] w fun e w' => e = .returned (.int .i64 ((k : Int) - (q : Int))) ∧ Below w.heap.size w w' := by
  have hw : IntKind.i64.wrap ((k : Int) - (q : Int)) = (k : Int) - (q : Int) := IntWalk.i64_in _ ⟨by omega, by omega⟩
  unfold scA
  go_enter Tryz.func55, Tryz.ntmps55
  go_wp2_with fail
  have hI : IR .i64 (((w.alloc (.cells #[.int .i64 k, .int .i64 1, .int .i64 3, .int .i64 2] 99)).alloc (.cells #[.int .i64 q, .int .i64 1, .int .i64 3, .int .i64 2] 99)).alloc (.cells #[.int .i64 0, .int .i64 0, .int .i64 ((k : Int) - (q : Int))] 3)) (some ⟨w.heap.size + 1 + 1, 0, none⟩) 3 [0, 0, (k : Int) - (q : Int)] := by
    have := IR.new (k := .i64) (w := (w.alloc (.cells #[.int .i64 k, .int .i64 1, .int .i64 3, .int .i64 2] 99)).alloc (.cells #[.int .i64 q, .int .i64 1, .int .i64 3, .int .i64 2] 99)) (cs := #[.int .i64 0, .int .i64 0, .int .i64 ((k : Int) - (q : Int))]) (t := 3) [0, 0, (k : Int) - (q : Int)] 3 rfl rfl (by decide)
    simpa using this
  have hb := (((Below.refl w.heap.size w).alloc (Nat.le_refl _) (.cells #[.int .i64 k, .int .i64 1, .int .i64 3, .int .i64 2] 99)).alloc (by simp) (.cells #[.int .i64 q, .int .i64 1, .int .i64 3, .int .i64 2] 99)).alloc (by simp; omega) (.cells #[.int .i64 0, .int .i64 0, .int .i64 ((k : Int) - (q : Int))] 3)
  refine (or_c _ _ _ _ (by omega) hI).mono ?_
  rintro e w' ⟨rfl, rfl⟩
  go_wp2_with fail
  go_ret
  exact ⟨rfl, hb⟩
/-- The cells of schemes of some weights. -/
def flatK (ks : List Nat) : List Value := ks.flatMap fun (k : Nat) => [.int .i64 (k : Int), .int .i64 1, .int .i64 3, .int .i64 2]
theorem sl_scheme : SlT Tryz.prog 95 99 4 32 := slT_of (z := .agg #[.int .i64 0, .int .i64 0, .int .i64 0, .int .i64 0]) Tryz.underlying95 (by kernel_rfl) rfl (by omega)
/-- Three schemes that stand in order. -/
structure Sch3 (w : World) (B g cap : Nat) : Prop where
  own : w.ownsRow B 99 4 (.slice (some ⟨g, 0, none⟩) 3 cap) 3 (flatK [1, 2, 12])
theorem Sch3.below {w w' : World} {B g cap : Nat} (h : Sch3 w B g cap) (hb : Below w.heap.size w w') : Sch3 w' B g cap := ⟨own_below h.own hb⟩
theorem Sch3.cell {w : World} {B g cap : Nat} (h : Sch3 w B g cap) (i : Nat) (v : Value) (hv : (flatK [1, 2, 12])[i]? = some v) : w.cell? ⟨g, i, none⟩ = some v := by
  have hi : i < 3 * 4 := by have := (List.getElem?_eq_some_iff.1 hv).1; simpa [flatK] using this
  rw [h.own.cellAt i (by omega)]
  exact hv
set_option maxRecDepth 100000 in
set_option maxHeartbeats 4000000 in
theorem insS_c (B g cap : Nat) (w : World) (h : Sch3 w B g cap) :
    Calls Tryz.prog 89 #[.slice (some ⟨g, 0, none⟩) 3 cap, .int .i64 0, .int .i64 3, .func (.func 55) #[] #[]] w fun e w' => e = .returned (.tuple #[]) ∧ Below w.heap.size w w' := by
  have hw0 : IntKind.i64.wrap 0 = 0 := IntWalk.i64_in _ ⟨by omega, by omega⟩
  have hw1 : IntKind.i64.wrap 1 = 1 := IntWalk.i64_in _ ⟨by omega, by omega⟩
  go_enter Tryz.func89, Tryz.ntmps89
  go_wp2_with fail
  go_loopw [8] (fun p wr => ∃ i : Nat, 1 ≤ i ∧ i ≤ 3 ∧ p = .int .i64 i ∧ Below w.heap.size w wr) (fun p _ => 3 - (intOf p).toNat)
  case atStart => exact ⟨1, by omega, by omega, rfl, Below.refl _ _⟩
  case round =>
    obtain ⟨i, hi1, hi3, rfl, hbr⟩ := hrel
    have hS := h.below hbr
    rcases (show i = 1 ∨ i = 2 ∨ i = 3 by omega) with rfl | rfl | rfl
    · have d0 : decide ((0 : Int) < 1) = true := rfl
      have e0 := hS.cell 0 _ rfl
      have e1 := hS.cell 1 _ rfl
      have e2 := hS.cell 2 _ rfl
      have e3 := hS.cell 3 _ rfl
      have e4 := hS.cell 4 _ rfl
      have e5 := hS.cell 5 _ rfl
      have e6 := hS.cell 6 _ rfl
      have e7 := hS.cell 7 _ rfl
      simp at e0 e1 e2 e3 e4 e5 e6 e7
      have HC := Lib.hid (sch1_c 2 1 wr.drew (by omega) (by omega) (by omega))
      unfold scA at HC
      go_wp2_with fail
      go_loopw [9] (fun p wr2 => p = .int .i64 1 ∧ wr2 = wr) (fun _ _ => 0)
      case atStart => exact ⟨rfl, rfl⟩
      case round =>
        obtain ⟨rfl, rfl⟩ := hrel
        go_upto_region 4 with fail
        go_cut [34] from 18 to 52 (fun v W => v = .bool false ∧ Below w.heap.size w W)
        case first =>
          go_still_tail 14, (by kernel_rfl)
          change wpList _ _ _ _ _ wr.drew
          go_wp2_with fail
          refine HC.out.mono ?_
          rintro e w5 ⟨rfl, hb5⟩
          go_wp2_with fail
          go_meet
          case rel => exact ⟨rfl, below_step hbr (below_drew' hb5)⟩
        case rest =>
          obtain ⟨rfl, hb9⟩ := hcut
          go_wp2_with fail
          go_roundw
          case rel => exact ⟨2, by omega, by omega, by go_num, hb9⟩
          case measure => simp [intOf]
    · have d0 : decide ((0 : Int) < 2) = true := rfl
      have e4 := hS.cell 4 _ rfl
      have e5 := hS.cell 5 _ rfl
      have e6 := hS.cell 6 _ rfl
      have e7 := hS.cell 7 _ rfl
      have e8 := hS.cell 8 _ rfl
      have e9 := hS.cell 9 _ rfl
      have e10 := hS.cell 10 _ rfl
      have e11 := hS.cell 11 _ rfl
      simp at e4 e5 e6 e7 e8 e9 e10 e11
      have HC := Lib.hid (sch1_c 12 2 wr.drew (by omega) (by omega) (by omega))
      unfold scA at HC
      go_wp2_with fail
      go_loopw [9] (fun p wr2 => p = .int .i64 2 ∧ wr2 = wr) (fun _ _ => 0)
      case atStart => exact ⟨rfl, rfl⟩
      case round =>
        obtain ⟨rfl, rfl⟩ := hrel
        go_upto_region 4 with fail
        go_cut [34] from 18 to 52 (fun v W => v = .bool false ∧ Below w.heap.size w W)
        case first =>
          go_still_tail 14, (by kernel_rfl)
          change wpList _ _ _ _ _ wr.drew
          go_wp2_with fail
          refine HC.out.mono ?_
          rintro e w5 ⟨rfl, hb5⟩
          go_wp2_with fail
          go_meet
          case rel => exact ⟨rfl, below_step hbr (below_drew' hb5)⟩
        case rest =>
          obtain ⟨rfl, hb9⟩ := hcut
          go_wp2_with fail
          go_roundw
          case rel => exact ⟨3, by omega, by omega, by go_num, hb9⟩
          case measure => simp [intOf]
    · go_wp2_with fail
      refine bodyPost_end (results_none rfl _ _ _) rfl ?_
      exact ⟨rfl, hbr⟩
set_option maxHeartbeats 2000000 in
theorem sortS_c (B g cap : Nat) (w : World) (h : Sch3 w B g cap) :
    Calls Tryz.prog 54 #[.slice (some ⟨g, 0, none⟩) 3 cap, .func (.func 55) #[] #[]] w fun e w' => e = .returned (.tuple #[]) ∧ Below w.heap.size w w' := by
  have HI := Lib.hid (insS_c B g cap w h)
  clear h
  go_enter Tryz.func54, Tryz.ntmps54
  go_wp2_with fail
  refine (show Calls Tryz.prog 73 #[.slice (some ⟨g, 0, none⟩) 3 cap, .int .i64 3, .func (.func 55) #[] #[]] w (fun e w' => e = .returned (.tuple #[]) ∧ Below w.heap.size w w') from ?_).mono ?_
  · go_enter Tryz.func73, Tryz.ntmps73
    go_wp2_with fail
    go_loopw [7, 8] (fun p q wr => p = .int .i64 0 ∧ q = .int .i64 20 ∧ wr = w) (fun _ _ _ => 0)
    case atStart => exact ⟨rfl, rfl, rfl⟩
    case round =>
      obtain ⟨rfl, rfl, rfl⟩ := hrel
      go_wp2_with fail
      refine HI.out.mono ?_
      rintro e w2 ⟨rfl, hb2⟩
      go_wp2_with fail
      go_loopw [6, 7, 8] (fun v6 p q wr => v6 = .int .i64 20 ∧ p = .int .i64 0 ∧ q = .int .i64 20 ∧ wr = w2) (fun _ _ _ _ => 0)
      case atStart => exact ⟨rfl, rfl, rfl, rfl⟩
      case round =>
        obtain ⟨rfl, rfl, rfl, rfl⟩ := hrel
        go_wp2_with fail
        refine bodyPost_end (results_none rfl _ _ _) rfl ?_
        exact ⟨rfl, hb2⟩
  · rintro e w2 ⟨rfl, hb2⟩
    go_wp2_with fail
    refine bodyPost_end (results_none rfl _ _ _) rfl ?_
    exact ⟨rfl, hb2⟩
end Go.Proofs.YtocohkgdkebmdaaGreat
