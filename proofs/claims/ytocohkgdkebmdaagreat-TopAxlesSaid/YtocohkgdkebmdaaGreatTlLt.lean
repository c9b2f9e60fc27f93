/- The walks of humpgen's Ints and Lists at lists that read alike. -/
import Derived.Test.YtocohkgdkebmdaaGreatTlAw
import Derived.Test.YtocohkgdkebmdaaGreatLL
namespace Go.Proofs.YtocohkgdkebmdaaGreat
open Go.RowKit
set_option maxRecDepth 100000 in
set_option maxHeartbeats 2000000 in
theorem clone_c (A : Option Addr) (n c : Nat) (l : List IT) (w : World) (hn0 : 0 < n) (hn : n ≤ 1000000) (h : IR4 w A n l) :
    Calls Tryz.prog 57 #[.slice A n c] w fun e w' => ∃ v, e = .returned v ∧ w'.ownsRow w.heap.size 67 4 v n (flat4 l) ∧ Below w.heap.size w w' := by
  obtain ⟨ad, p, rfl, _⟩ := h.at_ hn0
  obtain ⟨i0, z0, hi0, hz0, hz1, hz2, hzs⟩ := (show SlT Tryz.prog 55 67 4 32 from slT_of (z := .agg #[.int .i64 0, .int .i64 0, .int .i64 0, .int .i64 0]) Tryz.underlying55 (by kernel_rfl) rfl (by omega)).info
  have own0 : (w.alloc (.cells #[] 67)).ownsRow w.heap.size 67 4 (.slice (some ⟨w.heap.size, 0, none⟩) 0 0) 0 [] := World.ownsRow_lit w #[] 0 (Nat.le_refl _) (by simp [maxLen]) rfl
  have hR : Reads (w.alloc (.cells #[] 67)) w.heap.size 4 (some ad) n (flat4 l) := Reads.alloc h (Nat.le_refl _) _
  have hbw := (Below.refl w.heap.size w).alloc (Nat.le_refl _) (.cells #[] 67)
  have hne : ∀ W, (binOp BinOp.eql 55 (.slice (some ad) n c) (.slice none 0 0)).run Tryz.prog W = .ok (.bool false) W := fun W => by kernel_rfl
  clear h
  go_enter Tryz.func57, Tryz.ntmps57
  go_wp2_with (at_builtin
               go_must (
                 refine wpList_append_any _ rfl (.tmp 5) (.tmp 6) 55 rfl w.heap.size 67 i0 z0 4 32 Tryz.underlying55 hi0 hz0 hz1 hz2 hzs (by omega) _ 0 [] rfl own0 w.heap.size (some ad) n c (flat4 l) rfl hR (one_flat4 l) (by simp only [maxLen]; omega) (by omega) (by simp) ?_
                 intro v2 w2 own2 hg2 hp2))
  go_ret
  exact ⟨v2, rfl, by simpa using own2, hbw.trans ((Below.refl _ _).grown hg2 (by simp) (fun b e => own_ge own0 b e))⟩
theorem plan2 : Tl.PlanOk Tl.l2 1 1 [1, 0] := by
  have h := (Tl.solve_sol (o := [1, 0]) (l := Tl.l2) (w := 1) ⟨by decide, by decide⟩ Tl.l2_solve1).1
  have h2 := Tl.sol_steps h
  rw [Tl.l2_steps] at h2
  exact Tl.sol_plan h (by omega) h2.2
theorem make2_c (A : Option Addr) (c : Nat) (w : World) (h : IR4 w A 2 Tl.l2) :
    Calls Tryz.prog 58 #[.agg #[.slice A 2 c, .int .i64 1]] w fun e w' => ∃ (g : Nat) (Ac : Option Addr) (nc cc : Nat), e = .returned (.tuple #[.agg #[.int .i64 1, .slice (some ⟨g, 0, none⟩) 2 2, .slice Ac nc cc], .int .i64 0]) ∧ w'.ownsRow w.heap.size 3 1 (.slice (some ⟨g, 0, none⟩) 2 2) 2 (ints64 [1, 0]) ∧ Below w.heap.size w w' := by
  refine (cmake_c A 2 c 1 Tl.l2 w (Tl.l2_ok 1 (by omega)) (by omega) h).mono ?_
  rintro e w' ⟨o, ho, hb, h1 | ⟨b, K, g, v, ch, h1, h2, h3, h4, _⟩⟩
  · rw [Tl.l2_ord ho, Tl.l2_solve1] at h1
    cases h1.1
  · rw [Tl.l2_ord ho, Tl.l2_solve1] at h1
    cases h1
    rw [Tl.l2_steps] at h2
    obtain ⟨Ac, cc, rfl, _, _⟩ := own_form h4
    exact ⟨g, Ac, _, cc, h2, h3, hb⟩
/-- What sheet leaves at the small train. -/
def ShR (w : World) (e : Ending) (w' : World) : Prop :=
  ∃ (A : Option Addr) (c g : Nat) (Ac : Option Addr) (nc cc gt : Nat), e = .returned (.tuple #[.agg #[.slice A 2 c, .int .i64 1, .int .i64 1, .slice (some ⟨g, 0, none⟩) 2 2, .slice Ac nc cc, .slice (some ⟨gt, 0, none⟩) 2 2], .slice none 0 0, .int .i64 0]) ∧
    w'.ownsRow w.heap.size 67 4 (.slice A 2 c) 2 (flat4 Tl.l2) ∧ w'.ownsRow w.heap.size 3 1 (.slice (some ⟨g, 0, none⟩) 2 2) 2 (ints64 [1, 0]) ∧ Below w.heap.size w w'
set_option maxRecDepth 100000 in
set_option maxHeartbeats 4000000 in
theorem sheet_c (A T : Option Addr) (c d : Nat) (w : World) (h : IR4 w A 2 Tl.l2) (hT : NR w T 2 [300, 300]) :
    Calls Tryz.prog 40 #[.slice A 2 c, .int .i64 1, .slice T 2 d] w (ShR w) := by
  obtain ⟨W0, hW0⟩ : ∃ W0, w.alloc (.cells #[.slice none 0 0, .int .i64 0, .int .i64 0, .slice none 0 0, .slice none 0 0, .slice none 0 0] 63) = W0 := ⟨_, rfl⟩
  have hX : Blk W0 w.heap.size 63 #[.slice none 0 0, .int .i64 0, .int .i64 0, .slice none 0 0, .slice none 0 0, .slice none 0 0] := by rw [← hW0]; exact Blk.new w _ _
  have hb0 : Below w.heap.size w W0 := by rw [← hW0]; exact (Below.refl _ _).alloc (Nat.le_refl _) _
  have h0 := h.below hb0
  have hT0 := hT.below hb0
  have HC := Lib.hid (clone_c A 2 c Tl.l2 W0 (by omega) (by omega) h0)
  obtain ⟨B, hB⟩ : ∃ B, w.heap.size = B := ⟨_, rfl⟩
  rw [hB] at hX hb0
  have hs0 : B ≤ W0.heap.size := by have := hX.lt; omega
  have hsA := hs0
  clear h hT
  go_enter Tryz.func40, Tryz.ntmps40
  go_wp2_with fail
  clear hW0
  refine HC.out.mono ?_
  rintro e w1 ⟨v, rfl, own1, hb1⟩
  obtain ⟨A1, c1, rfl, _, _⟩ := own_form own1
  replace hX := hX.below hb1 hX.lt
  replace hT0 := hT0.below hb1
  replace hb0 := hb0.trans (hb1.mono hs0)
  replace hs0 := Nat.le_trans hs0 hb1.size
  clear hb1 HC h0
  have hbn := (Below.refl w1.heap.size w1).alloc (Nat.le_refl _) (.cells #[.slice A1 2 c1, .int .i64 1] 57)
  have hJ := Blk.new w1 57 #[.slice A1 2 c1, .int .i64 1]
  replace hX := hX.alloc (.cells #[.slice A1 2 c1, .int .i64 1] 57)
  replace hb0 := hb0.alloc hs0 (.cells #[.slice A1 2 c1, .int .i64 1] 57)
  replace own1 := own_below own1 hbn
  replace hT0 := hT0.below hbn
  replace hs0 := Nat.le_trans hs0 hbn.size
  have HM := Lib.hid (make2_c A1 c1 _ (own_IR4 own1))
  obtain ⟨jb, hjb⟩ : ∃ jb, w1.heap.size = jb := ⟨_, rfl⟩
  rw [hjb] at hJ
  have j0 := hJ.cell 0
  have j1 := hJ.cell 1
  simp at j0 j1
  clear hbn
  go_wp2_with fail
  clear j0 j1
  generalize w1.alloc (.cells #[.slice A1 2 c1, .int .i64 1] 57) = w2 at *
  have hsK := hs0
  refine HM.out.mono ?_
  rintro e w3 ⟨g, Ac, nc, cc, rfl, hK, hb3⟩
  replace hX := hX.below hb3 hX.lt
  replace hJ := hJ.below hb3 hJ.lt
  replace own1 := own_below own1 hb3
  replace hT0 := hT0.below hb3
  replace hb0 := hb0.trans (hb3.mono hs0)
  replace hs0 := Nat.le_trans hs0 hb3.size
  clear hb3 HM
  have hbn := (Below.refl w3.heap.size w3).alloc (Nat.le_refl _) (.cells #[.int .i64 1, .slice (some ⟨g, 0, none⟩) 2 2, .slice Ac nc cc] 61)
  have hP := Blk.new w3 61 #[.int .i64 1, .slice (some ⟨g, 0, none⟩) 2 2, .slice Ac nc cc]
  replace hX := hX.alloc (.cells #[.int .i64 1, .slice (some ⟨g, 0, none⟩) 2 2, .slice Ac nc cc] 61)
  replace hJ := hJ.alloc (.cells #[.int .i64 1, .slice (some ⟨g, 0, none⟩) 2 2, .slice Ac nc cc] 61)
  replace hb0 := hb0.alloc hs0 (.cells #[.int .i64 1, .slice (some ⟨g, 0, none⟩) 2 2, .slice Ac nc cc] 61)
  replace own1 := own_below own1 hbn
  replace hT0 := hT0.below hbn
  replace hK := own_below hK hbn
  replace hs0 := Nat.le_trans hs0 hbn.size
  have HLo := Lib.hid (rloads_c A1 (some ⟨g, 0, none⟩) 2 c1 1 1 2 Tl.l2 [1, 0] _ (Tl.l2_ok 1 (by omega)) plan2 (own_IR4 own1) (NR.of_own hK))
  unfold jobV planV at HLo
  obtain ⟨pb, hpb⟩ : ∃ pb, w3.heap.size = pb := ⟨_, rfl⟩
  rw [hpb] at hP
  have j0 := hJ.cell 0
  have j1 := hJ.cell 1
  have p0 := hP.cell 0
  have p1 := hP.cell 1
  simp at j0 j1 p0 p1
  clear hbn
  go_wp2_with fail
  clear j0 j1 p0 p1
  generalize w3.alloc (.cells #[.int .i64 1, .slice (some ⟨g, 0, none⟩) 2 2, .slice Ac nc cc] 61) = w4 at *
  refine HLo.out.mono ?_
  rintro e w5 ⟨gl, rfl, ownl, hb5⟩
  rw [Tl.l2_nTn, Tl.l2_loads] at ownl
  simp only [Tl.l2_nTn]
  have hNL : NR w5 (some ⟨gl, 0, none⟩) 2 [100, 200] := NR.of_own ownl
  replace hX := hX.below hb5 hX.lt
  replace hJ := hJ.below hb5 hJ.lt
  replace hP := hP.below hb5 hP.lt
  replace own1 := own_below own1 hb5
  replace hT0 := hT0.below hb5
  replace hK := own_below hK hb5
  replace hb0 := hb0.trans (hb5.mono hs0)
  replace hs0 := Nat.le_trans hs0 hb5.size
  clear hb5 HLo ownl
  have HMt := Lib.hid (match_c (some ⟨gl, 0, none⟩) T 2 2 2 d 300 [100, 200] [300, 300] w5 hNL hT0 (by omega) (by omega) (by omega) (by omega)
    (fun x hx => by
      rcases (show x = 0 ∨ x = 1 by omega) with rfl | rfl
      · exact ⟨by decide, by decide⟩
      · exact ⟨by decide, by decide⟩)
    (fun t ht => by
      rcases (show t = 0 ∨ t = 1 by omega) with rfl | rfl
      · rfl
      · rfl) (by omega))
  go_wp2_with fail
  refine HMt.out.mono ?_
  rintro e w6 ⟨gt, lv, rfl, _, hb6⟩
  unfold nilS
  replace hX := hX.below hb6 hX.lt
  replace hJ := hJ.below hb6 hJ.lt
  replace hP := hP.below hb6 hP.lt
  replace own1 := own_below own1 hb6
  replace hK := own_below hK hb6
  replace hb0 := hb0.trans (hb6.mono hs0)
  clear hb6 HMt hNL hT0
  have x0 := hX.cell 0
  have x1 := hX.cell 1
  have x2 := hX.cell 2
  have x3 := hX.cell 3
  have x4 := hX.cell 4
  have x5 := hX.cell 5
  have j0 := hJ.cell 0
  have j1 := hJ.cell 1
  have p0 := hP.cell 0
  have p1 := hP.cell 1
  have p2 := hP.cell 2
  simp at x0 x1 x2 x3 x4 x5 j0 j1 p0 p1 p2
  have zx := fun i => hX.frozen i
  have n1 : ¬ (B = jb) := fun e => by subst e; exact hX.ne_ hJ (by decide) rfl
  have n2 : ¬ (B = pb) := fun e => by subst e; exact hX.ne_ hP (by decide) rfl
  have n3 : ¬ (jb = B) := fun e => n1 e.symm
  have n4 : ¬ (pb = B) := fun e => n2 e.symm
  have hX6 := (((((hX.set_ 0 (.slice A1 2 c1)).set_ 1 (.int .i64 1)).set_ 2 (.int .i64 1)).set_ 3 (.slice (some ⟨g, 0, none⟩) 2 2)).set_ 4 (.slice Ac nc cc)).set_ 5 (.slice (some ⟨gt, 0, none⟩) 2 2)
  have q0 := hX6.cell 0
  have q1 := hX6.cell 1
  have q2 := hX6.cell 2
  have q3 := hX6.cell 3
  have q4 := hX6.cell 4
  have q5 := hX6.cell 5
  simp at q0 q1 q2 q3 q4 q5
  have ni := own_blk_ne own1 hX (by decide)
  have nk := own_blk_ne hK hX (by decide)
  have oi := own_set_other (j := 5) (own_set_other (j := 4) (own_set_other (j := 3) (own_set_other (j := 2) (own_set_other (j := 1) (own_set_other (j := 0) own1 ni (.slice A1 2 c1)) ni (.int .i64 1)) ni (.int .i64 1)) ni (.slice (some ⟨g, 0, none⟩) 2 2)) ni (.slice Ac nc cc)) ni (.slice (some ⟨gt, 0, none⟩) 2 2)
  have ok := own_set_other (j := 5) (own_set_other (j := 4) (own_set_other (j := 3) (own_set_other (j := 2) (own_set_other (j := 1) (own_set_other (j := 0) hK nk (.slice A1 2 c1)) nk (.int .i64 1)) nk (.int .i64 1)) nk (.slice (some ⟨g, 0, none⟩) 2 2)) nk (.slice Ac nc cc)) nk (.slice (some ⟨gt, 0, none⟩) 2 2)
  have hb6 := (((((hb0.setCell (p := ⟨B, 0, none⟩) (Nat.le_refl _) (.slice A1 2 c1)).setCell (p := ⟨B, 1, none⟩) (Nat.le_refl _) (.int .i64 1)).setCell (p := ⟨B, 2, none⟩) (Nat.le_refl _) (.int .i64 1)).setCell (p := ⟨B, 3, none⟩) (Nat.le_refl _) (.slice (some ⟨g, 0, none⟩) 2 2)).setCell (p := ⟨B, 4, none⟩) (Nat.le_refl _) (.slice Ac nc cc)).setCell (p := ⟨B, 5, none⟩) (Nat.le_refl _) (.slice (some ⟨gt, 0, none⟩) 2 2)
  have hE : ShR w (.returned (.tuple #[.agg #[.slice A1 2 c1, .int .i64 1, .int .i64 1, .slice (some ⟨g, 0, none⟩) 2 2, .slice Ac nc cc, .slice (some ⟨gt, 0, none⟩) 2 2], .slice none 0 0, .int .i64 0])) _ := ⟨A1, c1, g, Ac, nc, cc, gt, rfl, by rw [hB]; exact own_more oi hsA, by rw [hB]; exact own_more ok hsK, by rw [hB]; exact hb6⟩
  clear hX hX6 hJ hP own1 hK oi ok hb0 hb6 ni nk
  go_wp2_with fail
  exact bodyPost_ret (v := .tuple #[.agg #[.slice A1 2 c1, .int .i64 1, .int .i64 1, .slice (some ⟨g, 0, none⟩) 2 2, .slice Ac nc cc, .slice (some ⟨gt, 0, none⟩) 2 2], .slice none 0 0, .int .i64 0]) (by simp [results, Tryz.results40, go_sem, q0, q1, q2, q3, q4, q5]) rfl hE
set_option maxRecDepth 100000 in
set_option maxHeartbeats 4000000 in
theorem plan_c (A T : Option Addr) (c d : Nat) (w : World) (h : IR4 w A 2 Tl.l2) (hT : NR w T 2 [300, 300]) :
    Calls Tryz.prog 18 #[.slice A 2 c, .slice T 2 d] w (ShR w) := by
  obtain ⟨W0, hW0⟩ : ∃ W0, w.alloc (.cells #[.slice none 0 0, .int .i64 0, .int .i64 0, .slice none 0 0, .slice none 0 0, .slice none 0 0] 63) = W0 := ⟨_, rfl⟩
  have hX : Blk W0 w.heap.size 63 #[.slice none 0 0, .int .i64 0, .int .i64 0, .slice none 0 0, .slice none 0 0, .slice none 0 0] := by rw [← hW0]; exact Blk.new w _ _
  have hb0 : Below w.heap.size w W0 := by rw [← hW0]; exact (Below.refl _ _).alloc (Nat.le_refl _) _
  have h0 := h.below hb0
  have hT0 := hT.below hb0
  have HC := Lib.hid (schemes_c A c W0 h0)
  obtain ⟨B, hB⟩ : ∃ B, w.heap.size = B := ⟨_, rfl⟩
  rw [hB] at hX hb0
  have hs0 : B ≤ W0.heap.size := by have := hX.lt; omega
  clear h hT
  go_enter Tryz.func18, Tryz.ntmps18
  go_wp2_with fail
  clear hW0
  refine HC.out.mono ?_
  rintro e w1 ⟨g0, cap0, rfl, hS, hb1⟩
  replace hX := hX.below hb1 hX.lt
  replace h0 := h0.below hb1
  replace hT0 := hT0.below hb1
  replace hb0 := hb0.trans (hb1.mono hs0)
  replace hs0 := Nat.le_trans hs0 hb1.size
  clear hb1 HC
  go_wp2_with fail
  go_loopw [5, 6, 9, 26] (fun v5 v6 v9 p wr => v5 = .slice none 0 0 ∧ v6 = .int .i64 0 ∧ v9 = .slice none 0 0 ∧ p = .int .i64 0 ∧ wr = w1) (fun _ _ _ _ _ => 0)
  case atStart => exact ⟨rfl, rfl, rfl, rfl, rfl⟩
  case round =>
    obtain ⟨rfl, rfl, rfl, rfl, rfl⟩ := hrel
    have e0 := hS.cell 0 _ rfl
    have e1 := hS.cell 1 _ rfl
    have e2 := hS.cell 2 _ rfl
    have e3 := hS.cell 3 _ rfl
    simp at e0 e1 e2 e3
    have hbn := (Below.refl wr.heap.size wr).alloc (Nat.le_refl _) (.cells #[.int .i64 1, .int .i64 1, .int .i64 3, .int .i64 2] 99)
    have HSh := Lib.hid (sheet_c A T c d _ (h0.below hbn) (hT0.below hbn))
    replace hX := hX.alloc (.cells #[.int .i64 1, .int .i64 1, .int .i64 3, .int .i64 2] 99)
    replace hb0 := hb0.alloc hs0 (.cells #[.int .i64 1, .int .i64 1, .int .i64 3, .int .i64 2] 99)
    replace hs0 := Nat.le_trans hs0 hbn.size
    clear hS hbn
    go_wp2_with fail
    clear e0 e1 e2 e3
    generalize wr.alloc (.cells #[.int .i64 1, .int .i64 1, .int .i64 3, .int .i64 2] 99) = w2 at *
    refine HSh.out.mono ?_
    rintro e w3 ⟨A3, c3, g, Ac, nc, cc, gt, rfl, own1, hK, hb3⟩
    have hsA := hs0
    replace hX := hX.below hb3 hX.lt
    replace hb0 := hb0.trans (hb3.mono hs0)
    replace hs0 := Nat.le_trans hs0 hb3.size
    clear hb3 HSh
    obtain ⟨w5, hw5⟩ : ∃ w5, w3.alloc (.cells #[.slice A3 2 c3, .int .i64 1, .int .i64 1, .slice (some ⟨g, 0, none⟩) 2 2, .slice Ac nc cc, .slice (some ⟨gt, 0, none⟩) 2 2] 63) = w5 := ⟨_, rfl⟩
    have hX5 : Blk w5 B 63 #[.slice none 0 0, .int .i64 0, .int .i64 0, .slice none 0 0, .slice none 0 0, .slice none 0 0] := by rw [← hw5]; exact hX.alloc _
    have hY5 : Blk w5 w3.heap.size 63 #[.slice A3 2 c3, .int .i64 1, .int .i64 1, .slice (some ⟨g, 0, none⟩) 2 2, .slice Ac nc cc, .slice (some ⟨gt, 0, none⟩) 2 2] := by rw [← hw5]; exact Blk.new w3 _ _
    have hb5 : Below B w w5 := by rw [← hw5]; exact hb0.alloc hs0 _
    have own5 : w5.ownsRow w2.heap.size 67 4 (.slice A3 2 c3) 2 (flat4 Tl.l2) := by rw [← hw5]; exact own1.alloc _
    have hK5 : w5.ownsRow w2.heap.size 3 1 (.slice (some ⟨g, 0, none⟩) 2 2) 2 (ints64 [1, 0]) := by rw [← hw5]; exact hK.alloc _
    have hlt := hX.lt
    obtain ⟨sb, hsb⟩ : ∃ sb, w3.heap.size = sb := ⟨_, rfl⟩
    rw [hsb] at hY5 hlt
    have n1 : ¬ (B = sb) := by omega
    have n2 : ¬ (sb = B) := by omega
    have y0 := hY5.cell 0
    have y1 := hY5.cell 1
    have y2 := hY5.cell 2
    have y3 := hY5.cell 3
    have y4 := hY5.cell 4
    have y5 := hY5.cell 5
    simp at y0 y1 y2 y3 y4 y5
    have x0 := hX5.cell 0
    have x1 := hX5.cell 1
    have x2 := hX5.cell 2
    have x3 := hX5.cell 3
    have x4 := hX5.cell 4
    have x5 := hX5.cell 5
    simp at x0 x1 x2 x3 x4 x5
    have zx := fun i => hX5.frozen i
    have hX6 := (((((hX5.set_ 0 (.slice A3 2 c3)).set_ 1 (.int .i64 1)).set_ 2 (.int .i64 1)).set_ 3 (.slice (some ⟨g, 0, none⟩) 2 2)).set_ 4 (.slice Ac nc cc)).set_ 5 (.slice (some ⟨gt, 0, none⟩) 2 2)
    have q0 := hX6.cell 0
    have q1 := hX6.cell 1
    have q2 := hX6.cell 2
    have q3 := hX6.cell 3
    have q4 := hX6.cell 4
    have q5 := hX6.cell 5
    simp at q0 q1 q2 q3 q4 q5
    have ni := own_blk_ne own5 hX5 (by decide)
    have nk := own_blk_ne hK5 hX5 (by decide)
    have oi := own_set_other (j := 5) (own_set_other (j := 4) (own_set_other (j := 3) (own_set_other (j := 2) (own_set_other (j := 1) (own_set_other (j := 0) own5 ni (.slice A3 2 c3)) ni (.int .i64 1)) ni (.int .i64 1)) ni (.slice (some ⟨g, 0, none⟩) 2 2)) ni (.slice Ac nc cc)) ni (.slice (some ⟨gt, 0, none⟩) 2 2)
    have ok := own_set_other (j := 5) (own_set_other (j := 4) (own_set_other (j := 3) (own_set_other (j := 2) (own_set_other (j := 1) (own_set_other (j := 0) hK5 nk (.slice A3 2 c3)) nk (.int .i64 1)) nk (.int .i64 1)) nk (.slice (some ⟨g, 0, none⟩) 2 2)) nk (.slice Ac nc cc)) nk (.slice (some ⟨gt, 0, none⟩) 2 2)
    have hb6 := (((((hb5.setCell (p := ⟨B, 0, none⟩) (Nat.le_refl _) (.slice A3 2 c3)).setCell (p := ⟨B, 1, none⟩) (Nat.le_refl _) (.int .i64 1)).setCell (p := ⟨B, 2, none⟩) (Nat.le_refl _) (.int .i64 1)).setCell (p := ⟨B, 3, none⟩) (Nat.le_refl _) (.slice (some ⟨g, 0, none⟩) 2 2)).setCell (p := ⟨B, 4, none⟩) (Nat.le_refl _) (.slice Ac nc cc)).setCell (p := ⟨B, 5, none⟩) (Nat.le_refl _) (.slice (some ⟨gt, 0, none⟩) 2 2)
    have hE : ShR w (.returned (.tuple #[.agg #[.slice A3 2 c3, .int .i64 1, .int .i64 1, .slice (some ⟨g, 0, none⟩) 2 2, .slice Ac nc cc, .slice (some ⟨gt, 0, none⟩) 2 2], .slice none 0 0, .int .i64 0])) _ := ⟨A3, c3, g, Ac, nc, cc, gt, rfl, by rw [hB]; exact own_more oi hsA, by rw [hB]; exact own_more ok hsA, by rw [hB]; exact hb6⟩
    clear hX hX5 hX6 hY5 own1 own5 hK hK5 oi ok hb0 hb5 hb6 ni nk h0 hT0
    go_upto_region 12 with fail
    clear hw5 hsb
    go_wp2_with fail
    exact bodyPost_ret (v := .tuple #[.agg #[.slice A3 2 c3, .int .i64 1, .int .i64 1, .slice (some ⟨g, 0, none⟩) 2 2, .slice Ac nc cc, .slice (some ⟨gt, 0, none⟩) 2 2], .slice none 0 0, .int .i64 0]) (by simp [results, Tryz.results18, go_sem, q0, q1, q2, q3, q4, q5]) rfl hE
end Go.Proofs.YtocohkgdkebmdaaGreat
namespace Go.Proofs.YtocohkgdkebmdaaGreat
open Go.RowKit
set_option maxHeartbeats 400000 in
theorem ints_q (A B : Option Addr) (n c d : Nat) (l : List Int) (w : World) (hn : n ≤ maxLen) (ha : IR .i64 w A n l) (hb : IR .i64 w B n l) :
    Calls Tryz.prog 12 #[.slice A n c, .slice B n d] w fun e w' => e = .returned (.bool true) ∧ ∃ q, w' = w.drewN q := by
  unfold maxLen at hn
  go_enter Tryz.func12, Tryz.ntmps12
  go_wp2_with fail
  go_loopw [5] (fun p wr => ∃ k : Nat, k ≤ n ∧ p = .int .i64 k ∧ ∃ q, wr = w.drewN q) (fun p _ => n - (intOf p).toNat)
  case atStart => exact ⟨0, by omega, rfl, 0, rfl⟩
  case round =>
    obtain ⟨k, hk, rfl, q, rfl⟩ := hrel
    by_cases hlt : k < n
    · obtain ⟨ad, rfl, _, hca⟩ := ha.at_ hlt
      obtain ⟨bd, rfl, _, hcb⟩ := hb.at_ hlt
      go_wp2_with fail
      go_quiet (fail)
      go_wp2_with fail
      go_roundw
      case rel => exact ⟨k + 1, by omega, by go_num, _, rfl⟩
      case measure => simp [intOf]; omega
    · go_wp2_with fail
      go_ret
      exact ⟨rfl, q, rfl⟩
set_option maxHeartbeats 1000000 in
theorem lists_c (A B : Option Addr) (n c d : Nat) (L : List (List Nat)) (vs vs' : List Value) (w : World) (hn : n ≤ 1000000) (ha : LLR w A n L vs) (hb : LLR w B n L vs') (hL : ∀ i, (L.getD i []).length ≤ 1000000) :
    Calls Tryz.prog 20 #[.slice A n c, .slice B n d] w fun e w' => e = .returned (.bool true) ∧ Below w.heap.size w w' := by
  go_enter Tryz.func20, Tryz.ntmps20
  go_wp2_with fail
  go_loopw [4, 5] (fun v p wr => v = .bool false ∧ ∃ k : Nat, k ≤ n ∧ p = .int .i64 k ∧ Below w.heap.size w wr) (fun _ p _ => n - (intOf p).toNat)
  case atStart => exact ⟨rfl, 0, by omega, rfl, Below.refl _ _⟩
  case round =>
    obtain ⟨rfl, k, hk, rfl, hbr⟩ := hrel
    by_cases hlt : k < n
    · obtain ⟨ad, Ai, ci, rfl, _, k1, h1⟩ := (ha.below hbr).at_ hlt
      obtain ⟨bd, Bi, di, rfl, _, k2, h2⟩ := (hb.below hbr).at_ hlt
      have hm := hL k
      obtain ⟨m, hmE⟩ : ∃ m, (L.getD k []).length = m := ⟨_, rfl⟩
      rw [hmE] at k1 k2 h1 h2 hm
      have HI : Hid (∀ q, Calls Tryz.prog 12 #[.slice Ai m ci, .slice Bi m di] (wr.drewN q) fun e w' => e = .returned (.bool true) ∧ ∃ p, w' = (wr.drewN q).drewN p) := Lib.hid fun q => ints_q Ai Bi m ci di _ (wr.drewN q) (by unfold maxLen; omega) h1 h2
      clear h1 h2 hmE
      go_wp2_with fail
      go_quiet (first | (go_at_call 12; exact Calls.quiet_of (HI.out _)))
      go_wp2_with fail
      go_roundw
      case rel => exact ⟨rfl, k + 1, by omega, by go_num, below_drewN hbr _⟩
      case measure => simp [intOf]; omega
    · go_wp2_with fail
      go_ret
      exact ⟨rfl, hbr⟩
end Go.Proofs.YtocohkgdkebmdaaGreat
