/- The walk of the reference's line: its kind. -/
import Derived.Test.YtmjdjcpmkdninaaDoorLyT3
import Derived.Test.YtmjdjcpmkdninaaDoorLyP2
import Derived.Test.YtmjdjcpmkdninaaDoorLyR5
import Derived.Deep.RegionWith
import Derived.BigRegion
namespace Go.Proofs.YtmjdjcpmkdninaaDoor
open Go.RowKit
namespace Ly
/-- The kind among the first k. -/
def kindUp (o : Option Int) (k : Nat) : Int := match o with
  | some j => if j < (k : Int) then j else -1
  | none => -1
theorem kindOf_some {s : List UInt8} {j : Int} (h : kindOf s = some j) : (0 ≤ j ∧ j ≤ 4) ∧ s = kindW j := by
  unfold kindOf at h
  repeat' split at h
  all_goals first | (cases h; done) | (cases Option.some.inj h; subst_vars; exact ⟨by decide, rfl⟩)
theorem kindUp_hit {s : List UInt8} {k : Nat} (hk : k ≤ 4) (h : s = kindW k) : kindUp (kindOf s) (k + 1) = k := by
  rw [h, kindOf_W (by omega)]
  unfold kindUp
  simp only
  rw [if_pos (by omega)]
theorem kindUp_miss {s : List UInt8} {k : Nat} (h : s ≠ kindW k) : kindUp (kindOf s) (k + 1) = kindUp (kindOf s) k := by
  unfold kindUp
  cases hj : kindOf s with
  | none => rfl
  | some j =>
    obtain ⟨_, he⟩ := kindOf_some hj
    have hne : j ≠ (k : Int) := fun e => h (by rw [he, e])
    simp only
    by_cases h1 : j < (k : Int)
    · rw [if_pos h1, if_pos (by omega)]
    · rw [if_neg h1, if_neg (by omega)]
theorem kindUp_zero (o : Option Int) (h : ∀ j, o = some j → 0 ≤ j) : kindUp o 0 = -1 := by
  cases o with
  | none => rfl
  | some j =>
    unfold kindUp
    simp only
    rw [if_neg (by have := h j rfl; omega)]
end Ly
/-- The result's block, the element's block. -/
def RLX (w W : World) (x : LE) : Prop := Blk W w.heap.size 48 (LEc leZ) ∧ Blk W (w.heap.size + 1) 48 (LEc x) ∧ Below w.heap.size w W
theorem RLX.below {w W W' : World} {x : LE} (h : RLX w W x) (hb : Below W.heap.size W W') : RLX w W' x := ⟨h.1.below hb h.1.lt, h.2.1.below hb h.2.1.lt, below_step h.2.2 hb⟩
def RL1 (w : World) (o : Option Int) (vi : Value) (W : World) : Prop := ∃ k : Nat, k ≤ 5 ∧ vi = .int .i64 (k : Int) ∧ RLX w W ⟨Ly.kindUp o k, ⟨#[]⟩, 0, 0, 0, 0, 0, 0⟩
theorem sl_int9 : SlT Tryd.prog 35 3 1 8 := slT_of (z := .int .i64 0) Tryd.underlying35 (by kernel_rfl) rfl (by omega)
theorem range_push (t : Nat) (f : Nat → Int) (n : Int) : (List.range (t + 1)).map (fun j => if j = t then n else f j) = (List.range t).map f ++ [n] := by
  rw [List.range_succ, List.map_append]
  congr 1
  · refine List.map_congr_left fun j hj => ?_
    rw [if_neg (by have := List.mem_range.1 hj; omega)]
  · simp
theorem far_cell {w : World} {g j b o : Nat} {u : Value} (h : g ≠ b) : (w.setCell ⟨b, o, none⟩ u).cell? ⟨g, j, none⟩ = w.cell? ⟨g, j, none⟩ := World.cell?_of_block (w := w) (Below.heap_setCell w ⟨b, o, none⟩ u g h)
def RL2 (w : World) (Ws : List (List UInt8)) (N : Nat) (x : LE) (va vv vi : Value) (W : World) : Prop := ∃ (t : Nat) (f : Nat → Int) (q : Bool), t + 3 ≤ N ∧ va = .bool (!q) ∧ vi = .int .i64 ((t + 3 : Nat) : Int) ∧ Hid (Ly.NumS Ws t f q) ∧ W.ownsRow (w.heap.size + 2) 3 1 vv t (((List.range t).map f).map (Value.int .i64)) ∧ RLX w W x
set_option maxRecDepth 100000 in
set_option maxHeartbeats 16000000 in
theorem rlline_c {A : Option Addr} {nl cl : Nat} (g n c B : Nat) (l : List LE) (Ws : List (List UInt8)) (w : World) (hn1 : 1 ≤ n) (hn2 : n ≤ 1000000) (own : w.ownsRow B 9 1 (.slice (some ⟨g, 0, none⟩) n c) n ((Ws.map baOf).map Value.string)) (hws : ∀ j, (baOf (Ly.wd Ws j)).size ≤ 1000000) (hnl : nl ≤ 1000000) (hl : LR w A nl l) :
    Calls Tryd.prog 51 #[.slice A nl cl, .slice (some ⟨g, 0, none⟩) n c] w (LElemR l Ws w) := by
  have hWn : Ws.length = n := by have := own.1; simpa using this
  have hnc : n ≤ c := by
    obtain ⟨A', cc, hv, hv1, _⟩ := own_form own
    injection hv with _ _ e1
    omega
  have hgl : g < w.heap.size := own_lt own g rfl
  have Hc := Lib.hid (fun j (hj : j < n) => own_wd own hj)
  have HWn := Lib.hid hWn
  have Hws := Lib.hid hws
  have Hl := Lib.hid hl
  clear own hWn hws hl
  have hn0i : (0 : Int) < (n : Int) := by omega
  obtain ⟨s0, hs0⟩ : ∃ s0, baOf (Ly.wd Ws 0) = s0 := ⟨_, rfl⟩
  have hs0z : s0.size ≤ 1000000 := by rw [← hs0]; exact Hws.out 0
  obtain ⟨o, ho⟩ : ∃ o, Ly.kindOf (Ly.wd Ws 0) = o := ⟨_, rfl⟩
  have HO := Lib.hid ho
  have HS0 := Lib.hid hs0
  have hmiss : Hid (∀ k : Nat, Ly.wd Ws 0 ≠ Ly.kindW k → Ly.kindUp o (k + 1) = Ly.kindUp o k) := Lib.hid (fun k h => by rw [← ho]; exact Ly.kindUp_miss h)
  have hhit : Hid (∀ k : Nat, k ≤ 4 → Ly.wd Ws 0 = Ly.kindW k → Ly.kindUp o (k + 1) = k) := Lib.hid (fun k hk h => by rw [← ho]; exact Ly.kindUp_hit hk h)
  have hstart : Hid (Ly.kindUp o 0 = -1) := Lib.hid (Ly.kindUp_zero o (fun j hj => (Ly.kindOf_some (ho.trans hj)).1.1))
  clear ho hs0
  go_enter Tryd.func51, Tryd.ntmps51
  go_wp2_with fail
  go_loopw [7] (fun vi W => RL1 w o vi W) (fun vi _ => 5 - (intOf vi).toNat)
  case atStart =>
    refine (show RL1 _ _ _ _ from ⟨0, by omega, rfl, ?_, ?_, ?_⟩)
    · exact (Blk.new w _ _).alloc _
    · rw [hstart.out]
      have := Blk.new (w.alloc (.cells (LEc leZ) 48)) 48 (LEc ⟨-1, ⟨#[]⟩, 0, 0, 0, 0, 0, 0⟩)
      simpa [LEc, leZ] using this
    · exact ((Below.refl _ _).alloc (Nat.le_refl _) _).alloc (by simp) _
  case round =>
    obtain ⟨k, hk, rfl, hR, hX, hb⟩ := hrel
    have hle := hb.size
    by_cases hlt : k < 5
    · have hk4 : (0 : Int) ≤ (k : Int) ∧ (k : Int) ≤ 4 := by omega
      have HK := Lib.hid (fun W => kindsK_c (k : Int) hk4 W)
      obtain ⟨kw, hkw⟩ : ∃ kw, baOf (Ly.kindW k) = kw := ⟨_, rfl⟩
      rw [hkw, Int.toNat_natCast] at HK
      have c0 : Hid (∀ W, Below w.heap.size w W → W.cell? ⟨g, 0, none⟩ = some (.string s0)) := Lib.hid (fun W h => by rw [← HS0.out]; exact (h.cell (p := ⟨g, 0, none⟩) hgl).trans (Hc.out 0 hn1))
      have Hkw := Lib.hid hkw
      have Hst : Hid (Ly.wd Ws 0 = Ly.kindW k ↔ s0.toList = kw.toList) := Lib.hid (by
        rw [← HS0.out, ← Hkw.out, Lib.toList_data, Lib.toList_data]; exact Iff.rfl)
      clear hkw
      go_upto_region 5 with fail
      go_cut [30] from 19 to 32 (fun b W => b = .bool (s0.toList == kw.toList) ∧ RLX w W ⟨Ly.kindUp o k, ⟨#[]⟩, 0, 0, 0, 0, 0, 0⟩)
      case first =>
        have cA := c0.out _ hb
        go_region_with (go_at_call 40
                        with_reducible refine (HK.out _).mono ?_
                        rintro e w3 ⟨g3, rfl, hc3, hb3⟩
                        have d0 := keep_cell_d hb3 cA)
        all_goals
          go_wp2_with fail
          go_meet
          exact ⟨rfl, RLX.below ⟨hR, hX, hb⟩ (below_drew' hb3)⟩
      case rest =>
        obtain ⟨rfl, hR2, hX2, hb2⟩ := hcut
        clear hR hX hb hle HK
        have x0 := hX2.cell 0
        have y0 := hX2.frozen 0
        by_cases e : Ly.wd Ws 0 = Ly.kindW k
        · have eb : (s0.toList == kw.toList) = true := beq_iff_eq.2 (Hst.out.1 e)
          have Hk' := Lib.hid (hhit.out k (by omega) e)
          clear e
          rw [eb]
          go_wp2_with fail
          go_roundw
          case rel =>
            refine (show RL1 _ _ _ _ from ⟨k + 1, by omega, by go_num, ?_, ?_, ?_⟩)
            · exact hR2.far (by simp) _
            · rw [Hk'.out]; exact hX2.set_ 0 _
            · exact hb2.setCell (by simp) _
          case measure => simp [intOf]; omega
        · have eb : (s0.toList == kw.toList) = false := beq_eq_false_iff_ne.2 (fun h => e (Hst.out.2 h))
          have Hk' := Lib.hid (hmiss.out k e)
          clear e
          rw [eb]
          go_wp2_with fail
          go_roundw
          case rel => exact (show RL1 _ _ _ _ from ⟨k + 1, by omega, by go_num, by rw [Hk'.out]; exact ⟨hR2, hX2, hb2⟩⟩)
          case measure => simp [intOf]; omega
    · obtain rfl : k = 5 := by omega
      -- BEHIND
      have hkup : Hid (∀ j, o = some j → Ly.kindUp o 5 = j) := Lib.hid (fun j hj => by obtain ⟨⟨_, h2⟩, _⟩ := Ly.kindOf_some (HO.out.trans hj); rw [hj]; unfold Ly.kindUp; simp only; rw [if_pos (by omega)])
      clear hmiss hhit hstart hk hlt
      have x0 : wr.cell? ⟨w.heap.size + 1, 0, none⟩ = some (.int .i64 (Ly.kindUp o 5)) := hX.cell 0
      go_upto_block 2 with fail
      clear x0
      go_cut [8] from 33 (fun a W => ∃ kk : Int, o = some kk ∧ a = .int .i64 ((Ly.wantW kk : Nat) : Int) ∧ W = wr)
      case first =>
        cases o with
        | none =>
          rw [show Ly.kindUp none 5 = -1 from rfl]
          have hX2 : Blk wr (w.heap.size + 1) 48 (LEc ⟨-1, ⟨#[]⟩, 0, 0, 0, 0, 0, 0⟩) := hX
          have r0 : wr.cell? ⟨w.heap.size, 0, none⟩ = some (.int .i64 0) := hR.cell 0
          have z0 : wr.frozen? ⟨w.heap.size, 0, none⟩ = false := hR.frozen 0
          have x0 : wr.cell? ⟨w.heap.size + 1, 0, none⟩ = some (.int .i64 (-1)) := hX2.cell 0
          have y0 : wr.frozen? ⟨w.heap.size + 1, 0, none⟩ = false := hX2.frozen 0
          have r1 : wr.cell? ⟨w.heap.size, 1, none⟩ = some (.string ⟨#[]⟩) := hR.cell 1
          have z1 : wr.frozen? ⟨w.heap.size, 1, none⟩ = false := hR.frozen 1
          have x1 : wr.cell? ⟨w.heap.size + 1, 1, none⟩ = some (.string (⟨#[]⟩)) := hX2.cell 1
          have y1 : wr.frozen? ⟨w.heap.size + 1, 1, none⟩ = false := hX2.frozen 1
          have r2 : wr.cell? ⟨w.heap.size, 2, none⟩ = some (.int .i64 0) := hR.cell 2
          have z2 : wr.frozen? ⟨w.heap.size, 2, none⟩ = false := hR.frozen 2
          have x2 : wr.cell? ⟨w.heap.size + 1, 2, none⟩ = some (.int .i64 (0)) := hX2.cell 2
          have y2 : wr.frozen? ⟨w.heap.size + 1, 2, none⟩ = false := hX2.frozen 2
          have r3 : wr.cell? ⟨w.heap.size, 3, none⟩ = some (.int .i64 0) := hR.cell 3
          have z3 : wr.frozen? ⟨w.heap.size, 3, none⟩ = false := hR.frozen 3
          have x3 : wr.cell? ⟨w.heap.size + 1, 3, none⟩ = some (.int .i64 (0)) := hX2.cell 3
          have y3 : wr.frozen? ⟨w.heap.size + 1, 3, none⟩ = false := hX2.frozen 3
          have r4 : wr.cell? ⟨w.heap.size, 4, none⟩ = some (.int .i64 0) := hR.cell 4
          have z4 : wr.frozen? ⟨w.heap.size, 4, none⟩ = false := hR.frozen 4
          have x4 : wr.cell? ⟨w.heap.size + 1, 4, none⟩ = some (.int .i64 (0)) := hX2.cell 4
          have y4 : wr.frozen? ⟨w.heap.size + 1, 4, none⟩ = false := hX2.frozen 4
          have r5 : wr.cell? ⟨w.heap.size, 5, none⟩ = some (.int .i64 0) := hR.cell 5
          have z5 : wr.frozen? ⟨w.heap.size, 5, none⟩ = false := hR.frozen 5
          have x5 : wr.cell? ⟨w.heap.size + 1, 5, none⟩ = some (.int .i64 (0)) := hX2.cell 5
          have y5 : wr.frozen? ⟨w.heap.size + 1, 5, none⟩ = false := hX2.frozen 5
          have r6 : wr.cell? ⟨w.heap.size, 6, none⟩ = some (.int .i64 0) := hR.cell 6
          have z6 : wr.frozen? ⟨w.heap.size, 6, none⟩ = false := hR.frozen 6
          have x6 : wr.cell? ⟨w.heap.size + 1, 6, none⟩ = some (.int .i64 (0)) := hX2.cell 6
          have y6 : wr.frozen? ⟨w.heap.size + 1, 6, none⟩ = false := hX2.frozen 6
          have r7 : wr.cell? ⟨w.heap.size, 7, none⟩ = some (.int .i64 0) := hR.cell 7
          have z7 : wr.frozen? ⟨w.heap.size, 7, none⟩ = false := hR.frozen 7
          have x7 : wr.cell? ⟨w.heap.size + 1, 7, none⟩ = some (.int .i64 (0)) := hX2.cell 7
          have y7 : wr.frozen? ⟨w.heap.size + 1, 7, none⟩ = false := hX2.frozen 7
          have HQ := Lib.hid (lelem_end (l := l) hR hb ⟨-1, ⟨#[]⟩, 0, 0, 0, 0, 0, 0⟩ 6 (Ly.el_none HO.out _))
          clear hR hX hX2 hb Hl HO hkup
          go_wp2_with fail
          obtain ⟨hB, hE⟩ := HQ.out
          change bodyPost _ _ _ _ _ (store8 wr w.heap.size ⟨-1, ⟨#[]⟩, 0, 0, 0, 0, 0, 0⟩)
          generalize store8 wr w.heap.size ⟨-1, ⟨#[]⟩, 0, 0, 0, 0, 0, 0⟩ = WW at hB hE ⊢
          have q0 : WW.cell? ⟨w.heap.size, 0, none⟩ = some (.int .i64 (-1)) := hB.cell 0
          have q1 : WW.cell? ⟨w.heap.size, 1, none⟩ = some (.string (⟨#[]⟩)) := hB.cell 1
          have q2 : WW.cell? ⟨w.heap.size, 2, none⟩ = some (.int .i64 (0)) := hB.cell 2
          have q3 : WW.cell? ⟨w.heap.size, 3, none⟩ = some (.int .i64 (0)) := hB.cell 3
          have q4 : WW.cell? ⟨w.heap.size, 4, none⟩ = some (.int .i64 (0)) := hB.cell 4
          have q5 : WW.cell? ⟨w.heap.size, 5, none⟩ = some (.int .i64 (0)) := hB.cell 5
          have q6 : WW.cell? ⟨w.heap.size, 6, none⟩ = some (.int .i64 (0)) := hB.cell 6
          have q7 : WW.cell? ⟨w.heap.size, 7, none⟩ = some (.int .i64 (0)) := hB.cell 7
          exact bodyPost_ret (v := .tuple #[leV ⟨-1, ⟨#[]⟩, 0, 0, 0, 0, 0, 0⟩, .int .i64 6]) (by simp [results, leV, Tryd.results51, go_sem, q0, q1, q2, q3, q4, q5, q6, q7]) rfl hE
        | some kk =>
          rw [hkup.out kk rfl] at hX ⊢
          have hk4 := (Ly.kindOf_some HO.out).1
          have r0 : wr.cell? ⟨w.heap.size, 0, none⟩ = some (.int .i64 0) := hR.cell 0
          have z0 : wr.frozen? ⟨w.heap.size, 0, none⟩ = false := hR.frozen 0
          have x0 : wr.cell? ⟨w.heap.size + 1, 0, none⟩ = some (.int .i64 (kk)) := hX.cell 0
          have y0 : wr.frozen? ⟨w.heap.size + 1, 0, none⟩ = false := hX.frozen 0
          have r1 : wr.cell? ⟨w.heap.size, 1, none⟩ = some (.string ⟨#[]⟩) := hR.cell 1
          have z1 : wr.frozen? ⟨w.heap.size, 1, none⟩ = false := hR.frozen 1
          have x1 : wr.cell? ⟨w.heap.size + 1, 1, none⟩ = some (.string (⟨#[]⟩)) := hX.cell 1
          have y1 : wr.frozen? ⟨w.heap.size + 1, 1, none⟩ = false := hX.frozen 1
          have r2 : wr.cell? ⟨w.heap.size, 2, none⟩ = some (.int .i64 0) := hR.cell 2
          have z2 : wr.frozen? ⟨w.heap.size, 2, none⟩ = false := hR.frozen 2
          have x2 : wr.cell? ⟨w.heap.size + 1, 2, none⟩ = some (.int .i64 (0)) := hX.cell 2
          have y2 : wr.frozen? ⟨w.heap.size + 1, 2, none⟩ = false := hX.frozen 2
          have r3 : wr.cell? ⟨w.heap.size, 3, none⟩ = some (.int .i64 0) := hR.cell 3
          have z3 : wr.frozen? ⟨w.heap.size, 3, none⟩ = false := hR.frozen 3
          have x3 : wr.cell? ⟨w.heap.size + 1, 3, none⟩ = some (.int .i64 (0)) := hX.cell 3
          have y3 : wr.frozen? ⟨w.heap.size + 1, 3, none⟩ = false := hX.frozen 3
          have r4 : wr.cell? ⟨w.heap.size, 4, none⟩ = some (.int .i64 0) := hR.cell 4
          have z4 : wr.frozen? ⟨w.heap.size, 4, none⟩ = false := hR.frozen 4
          have x4 : wr.cell? ⟨w.heap.size + 1, 4, none⟩ = some (.int .i64 (0)) := hX.cell 4
          have y4 : wr.frozen? ⟨w.heap.size + 1, 4, none⟩ = false := hX.frozen 4
          have r5 : wr.cell? ⟨w.heap.size, 5, none⟩ = some (.int .i64 0) := hR.cell 5
          have z5 : wr.frozen? ⟨w.heap.size, 5, none⟩ = false := hR.frozen 5
          have x5 : wr.cell? ⟨w.heap.size + 1, 5, none⟩ = some (.int .i64 (0)) := hX.cell 5
          have y5 : wr.frozen? ⟨w.heap.size + 1, 5, none⟩ = false := hX.frozen 5
          have r6 : wr.cell? ⟨w.heap.size, 6, none⟩ = some (.int .i64 0) := hR.cell 6
          have z6 : wr.frozen? ⟨w.heap.size, 6, none⟩ = false := hR.frozen 6
          have x6 : wr.cell? ⟨w.heap.size + 1, 6, none⟩ = some (.int .i64 (0)) := hX.cell 6
          have y6 : wr.frozen? ⟨w.heap.size + 1, 6, none⟩ = false := hX.frozen 6
          have r7 : wr.cell? ⟨w.heap.size, 7, none⟩ = some (.int .i64 0) := hR.cell 7
          have z7 : wr.frozen? ⟨w.heap.size, 7, none⟩ = false := hR.frozen 7
          have x7 : wr.cell? ⟨w.heap.size + 1, 7, none⟩ = some (.int .i64 (0)) := hX.cell 7
          have y7 : wr.frozen? ⟨w.heap.size + 1, 7, none⟩ = false := hX.frozen 7
          have e1 : (kk == -1) = false := beq_eq_false_iff_ne.2 (by omega)
          rcases (show kk = 0 ∨ kk = 2 ∨ (kk ≠ 0 ∧ kk ≠ 2) by omega) with rfl | rfl | ⟨h0, h2⟩
          · go_wp2_with fail
            go_meet
            exact ⟨_, rfl, rfl, rfl⟩
          · go_wp2_with fail
            go_meet
            exact ⟨_, rfl, rfl, rfl⟩
          · have e2 : (kk == 0) = false := beq_eq_false_iff_ne.2 h0
            have e3 : (kk == 2) = false := beq_eq_false_iff_ne.2 h2
            have Hw : Hid (Ly.wantW kk = 6) := Lib.hid (by unfold Ly.wantW; rw [if_neg h0, if_neg h2])
            clear h0 h2
            go_wp2_with fail
            go_meet
            exact ⟨_, rfl, by rw [Hw.out]; rfl, rfl⟩
      case rest =>
        obtain ⟨kk, rfl, rfl, rfl⟩ := hcut
        rw [hkup.out kk rfl] at hX
        have hk4 := (Ly.kindOf_some HO.out).1
        clear hkup
        have r0 : wc.cell? ⟨w.heap.size, 0, none⟩ = some (.int .i64 0) := hR.cell 0
        have z0 : wc.frozen? ⟨w.heap.size, 0, none⟩ = false := hR.frozen 0
        have x0 : wc.cell? ⟨w.heap.size + 1, 0, none⟩ = some (.int .i64 (kk)) := hX.cell 0
        have y0 : wc.frozen? ⟨w.heap.size + 1, 0, none⟩ = false := hX.frozen 0
        have r1 : wc.cell? ⟨w.heap.size, 1, none⟩ = some (.string ⟨#[]⟩) := hR.cell 1
        have z1 : wc.frozen? ⟨w.heap.size, 1, none⟩ = false := hR.frozen 1
        have x1 : wc.cell? ⟨w.heap.size + 1, 1, none⟩ = some (.string (⟨#[]⟩)) := hX.cell 1
        have y1 : wc.frozen? ⟨w.heap.size + 1, 1, none⟩ = false := hX.frozen 1
        have r2 : wc.cell? ⟨w.heap.size, 2, none⟩ = some (.int .i64 0) := hR.cell 2
        have z2 : wc.frozen? ⟨w.heap.size, 2, none⟩ = false := hR.frozen 2
        have x2 : wc.cell? ⟨w.heap.size + 1, 2, none⟩ = some (.int .i64 (0)) := hX.cell 2
        have y2 : wc.frozen? ⟨w.heap.size + 1, 2, none⟩ = false := hX.frozen 2
        have r3 : wc.cell? ⟨w.heap.size, 3, none⟩ = some (.int .i64 0) := hR.cell 3
        have z3 : wc.frozen? ⟨w.heap.size, 3, none⟩ = false := hR.frozen 3
        have x3 : wc.cell? ⟨w.heap.size + 1, 3, none⟩ = some (.int .i64 (0)) := hX.cell 3
        have y3 : wc.frozen? ⟨w.heap.size + 1, 3, none⟩ = false := hX.frozen 3
        have r4 : wc.cell? ⟨w.heap.size, 4, none⟩ = some (.int .i64 0) := hR.cell 4
        have z4 : wc.frozen? ⟨w.heap.size, 4, none⟩ = false := hR.frozen 4
        have x4 : wc.cell? ⟨w.heap.size + 1, 4, none⟩ = some (.int .i64 (0)) := hX.cell 4
        have y4 : wc.frozen? ⟨w.heap.size + 1, 4, none⟩ = false := hX.frozen 4
        have r5 : wc.cell? ⟨w.heap.size, 5, none⟩ = some (.int .i64 0) := hR.cell 5
        have z5 : wc.frozen? ⟨w.heap.size, 5, none⟩ = false := hR.frozen 5
        have x5 : wc.cell? ⟨w.heap.size + 1, 5, none⟩ = some (.int .i64 (0)) := hX.cell 5
        have y5 : wc.frozen? ⟨w.heap.size + 1, 5, none⟩ = false := hX.frozen 5
        have r6 : wc.cell? ⟨w.heap.size, 6, none⟩ = some (.int .i64 0) := hR.cell 6
        have z6 : wc.frozen? ⟨w.heap.size, 6, none⟩ = false := hR.frozen 6
        have x6 : wc.cell? ⟨w.heap.size + 1, 6, none⟩ = some (.int .i64 (0)) := hX.cell 6
        have y6 : wc.frozen? ⟨w.heap.size + 1, 6, none⟩ = false := hX.frozen 6
        have r7 : wc.cell? ⟨w.heap.size, 7, none⟩ = some (.int .i64 0) := hR.cell 7
        have z7 : wc.frozen? ⟨w.heap.size, 7, none⟩ = false := hR.frozen 7
        have x7 : wc.cell? ⟨w.heap.size + 1, 7, none⟩ = some (.int .i64 (0)) := hX.cell 7
        have y7 : wc.frozen? ⟨w.heap.size + 1, 7, none⟩ = false := hX.frozen 7
        by_cases hnw : n = Ly.wantW kk
        · have e1 : ((n : Int) != (Ly.wantW kk : Int)) = false := by simp; omega
          have Hnw : Hid (Ws.length = Ly.wantW kk) := Lib.hid (HWn.out.trans hnw)
          have hn2i : 2 ≤ n := by rw [hnw]; unfold Ly.wantW; split <;> (try split) <;> omega
          have hn1i : (1 : Int) < (n : Int) := by omega
          have c1 : ∀ W, Below w.heap.size w W → W.cell? ⟨g, 1, none⟩ = some (.string (baOf (Ly.wd Ws 1))) := fun W h => (h.cell (p := ⟨g, 1, none⟩) hgl).trans (Hc.out 1 (by omega))
          have C1 := Lib.hid c1
          clear c1
          have c1 := C1.out _ hb
          go_upto_region 18 with fail
          clear c1
          obtain ⟨w5, hw5⟩ : ∃ W, wc.setCell ⟨w.heap.size + 1, 1, none⟩ (.string (baOf (Ly.wd Ws 1))) = W := ⟨_, rfl⟩
          have hR5 : Blk w5 w.heap.size 48 (LEc leZ) := by rw [← hw5]; exact hR.far (by simp) _
          have hX5 : Blk w5 (w.heap.size + 1) 48 (LEc ⟨kk, baOf (Ly.wd Ws 1), 0, 0, 0, 0, 0, 0⟩) := by rw [← hw5]; exact hX.set_ 1 _
          have hb5 : Below w.heap.size w w5 := by rw [← hw5]; exact hb.setCell (by simp) _
          rw [hw5]
          clear hw5 hR hX hb r0 z0 x0 y0 r1 z1 x1 y1 r2 z2 x2 y2 r3 z3 x3 y3 r4 z4 x4 y4 r5 z5 x5 y5 r6 z6 x6 y6 r7 z7 x7 y7
          have c1 := C1.out _ hb5
          obtain ⟨nb, hnb⟩ : ∃ nb, Pl.nameOk (baOf (Ly.wd Ws 1)) = nb := ⟨_, rfl⟩
          have Hnb := Lib.hid hnb
          have HNm : Hid (∀ W : World, Calls Tryd.prog 61 #[.string (baOf (Ly.wd Ws 1))] W fun e w' => e = .returned (.bool nb) ∧ W = w') := Lib.hid (fun W => by
            have := name06_c (baOf (Ly.wd Ws 1)) W (by have := Hws.out 1; unfold maxLen; omega)
            rw [hnb] at this
            exact this)
          clear hnb
          by_cases hk0 : kk = 0
          · subst hk0
            have r0 : w5.cell? ⟨w.heap.size, 0, none⟩ = some (.int .i64 0) := hR5.cell 0
            have z0 : w5.frozen? ⟨w.heap.size, 0, none⟩ = false := hR5.frozen 0
            have x0 : w5.cell? ⟨w.heap.size + 1, 0, none⟩ = some (.int .i64 (0)) := hX5.cell 0
            have y0 : w5.frozen? ⟨w.heap.size + 1, 0, none⟩ = false := hX5.frozen 0
            have r1 : w5.cell? ⟨w.heap.size, 1, none⟩ = some (.string ⟨#[]⟩) := hR5.cell 1
            have z1 : w5.frozen? ⟨w.heap.size, 1, none⟩ = false := hR5.frozen 1
            have x1 : w5.cell? ⟨w.heap.size + 1, 1, none⟩ = some (.string (baOf (Ly.wd Ws 1))) := hX5.cell 1
            have y1 : w5.frozen? ⟨w.heap.size + 1, 1, none⟩ = false := hX5.frozen 1
            have r2 : w5.cell? ⟨w.heap.size, 2, none⟩ = some (.int .i64 0) := hR5.cell 2
            have z2 : w5.frozen? ⟨w.heap.size, 2, none⟩ = false := hR5.frozen 2
            have x2 : w5.cell? ⟨w.heap.size + 1, 2, none⟩ = some (.int .i64 (0)) := hX5.cell 2
            have y2 : w5.frozen? ⟨w.heap.size + 1, 2, none⟩ = false := hX5.frozen 2
            have r3 : w5.cell? ⟨w.heap.size, 3, none⟩ = some (.int .i64 0) := hR5.cell 3
            have z3 : w5.frozen? ⟨w.heap.size, 3, none⟩ = false := hR5.frozen 3
            have x3 : w5.cell? ⟨w.heap.size + 1, 3, none⟩ = some (.int .i64 (0)) := hX5.cell 3
            have y3 : w5.frozen? ⟨w.heap.size + 1, 3, none⟩ = false := hX5.frozen 3
            have r4 : w5.cell? ⟨w.heap.size, 4, none⟩ = some (.int .i64 0) := hR5.cell 4
            have z4 : w5.frozen? ⟨w.heap.size, 4, none⟩ = false := hR5.frozen 4
            have x4 : w5.cell? ⟨w.heap.size + 1, 4, none⟩ = some (.int .i64 (0)) := hX5.cell 4
            have y4 : w5.frozen? ⟨w.heap.size + 1, 4, none⟩ = false := hX5.frozen 4
            have r5 : w5.cell? ⟨w.heap.size, 5, none⟩ = some (.int .i64 0) := hR5.cell 5
            have z5 : w5.frozen? ⟨w.heap.size, 5, none⟩ = false := hR5.frozen 5
            have x5 : w5.cell? ⟨w.heap.size + 1, 5, none⟩ = some (.int .i64 (0)) := hX5.cell 5
            have y5 : w5.frozen? ⟨w.heap.size + 1, 5, none⟩ = false := hX5.frozen 5
            have r6 : w5.cell? ⟨w.heap.size, 6, none⟩ = some (.int .i64 0) := hR5.cell 6
            have z6 : w5.frozen? ⟨w.heap.size, 6, none⟩ = false := hR5.frozen 6
            have x6 : w5.cell? ⟨w.heap.size + 1, 6, none⟩ = some (.int .i64 (0)) := hX5.cell 6
            have y6 : w5.frozen? ⟨w.heap.size + 1, 6, none⟩ = false := hX5.frozen 6
            have r7 : w5.cell? ⟨w.heap.size, 7, none⟩ = some (.int .i64 0) := hR5.cell 7
            have z7 : w5.frozen? ⟨w.heap.size, 7, none⟩ = false := hR5.frozen 7
            have x7 : w5.cell? ⟨w.heap.size + 1, 7, none⟩ = some (.int .i64 (0)) := hX5.cell 7
            have y7 : w5.frozen? ⟨w.heap.size + 1, 7, none⟩ = false := hX5.frozen 7
            go_upto_region 20 with fail
            clear c1
            obtain ⟨w6, hw6⟩ : ∃ W, w5.setCell ⟨w.heap.size + 1, 2, none⟩ (.int .i64 (-1)) = W := ⟨_, rfl⟩
            have hR6 : Blk w6 w.heap.size 48 (LEc leZ) := by rw [← hw6]; exact hR5.far (by simp) _
            have hX6 : Blk w6 (w.heap.size + 1) 48 (LEc ⟨0, baOf (Ly.wd Ws 1), -1, 0, 0, 0, 0, 0⟩) := by rw [← hw6]; exact hX5.set_ 2 _
            have hb6 : Below w.heap.size w w6 := by rw [← hw6]; exact hb5.setCell (by simp) _
            rw [hw6]
            clear hw6 hR5 hX5 hb5 r0 z0 x0 y0 r1 z1 x1 y1 r2 z2 x2 y2 r3 z3 x3 y3 r4 z4 x4 y4 r5 z5 x5 y5 r6 z6 x6 y6 r7 z7 x7 y7
            have c1 := C1.out _ hb6
            have r0 : w6.cell? ⟨w.heap.size, 0, none⟩ = some (.int .i64 0) := hR6.cell 0
            have z0 : w6.frozen? ⟨w.heap.size, 0, none⟩ = false := hR6.frozen 0
            have x0 : w6.cell? ⟨w.heap.size + 1, 0, none⟩ = some (.int .i64 (0)) := hX6.cell 0
            have y0 : w6.frozen? ⟨w.heap.size + 1, 0, none⟩ = false := hX6.frozen 0
            have r1 : w6.cell? ⟨w.heap.size, 1, none⟩ = some (.string ⟨#[]⟩) := hR6.cell 1
            have z1 : w6.frozen? ⟨w.heap.size, 1, none⟩ = false := hR6.frozen 1
            have x1 : w6.cell? ⟨w.heap.size + 1, 1, none⟩ = some (.string (baOf (Ly.wd Ws 1))) := hX6.cell 1
            have y1 : w6.frozen? ⟨w.heap.size + 1, 1, none⟩ = false := hX6.frozen 1
            have r2 : w6.cell? ⟨w.heap.size, 2, none⟩ = some (.int .i64 0) := hR6.cell 2
            have z2 : w6.frozen? ⟨w.heap.size, 2, none⟩ = false := hR6.frozen 2
            have x2 : w6.cell? ⟨w.heap.size + 1, 2, none⟩ = some (.int .i64 (-1)) := hX6.cell 2
            have y2 : w6.frozen? ⟨w.heap.size + 1, 2, none⟩ = false := hX6.frozen 2
            have r3 : w6.cell? ⟨w.heap.size, 3, none⟩ = some (.int .i64 0) := hR6.cell 3
            have z3 : w6.frozen? ⟨w.heap.size, 3, none⟩ = false := hR6.frozen 3
            have x3 : w6.cell? ⟨w.heap.size + 1, 3, none⟩ = some (.int .i64 (0)) := hX6.cell 3
            have y3 : w6.frozen? ⟨w.heap.size + 1, 3, none⟩ = false := hX6.frozen 3
            have r4 : w6.cell? ⟨w.heap.size, 4, none⟩ = some (.int .i64 0) := hR6.cell 4
            have z4 : w6.frozen? ⟨w.heap.size, 4, none⟩ = false := hR6.frozen 4
            have x4 : w6.cell? ⟨w.heap.size + 1, 4, none⟩ = some (.int .i64 (0)) := hX6.cell 4
            have y4 : w6.frozen? ⟨w.heap.size + 1, 4, none⟩ = false := hX6.frozen 4
            have r5 : w6.cell? ⟨w.heap.size, 5, none⟩ = some (.int .i64 0) := hR6.cell 5
            have z5 : w6.frozen? ⟨w.heap.size, 5, none⟩ = false := hR6.frozen 5
            have x5 : w6.cell? ⟨w.heap.size + 1, 5, none⟩ = some (.int .i64 (0)) := hX6.cell 5
            have y5 : w6.frozen? ⟨w.heap.size + 1, 5, none⟩ = false := hX6.frozen 5
            have r6 : w6.cell? ⟨w.heap.size, 6, none⟩ = some (.int .i64 0) := hR6.cell 6
            have z6 : w6.frozen? ⟨w.heap.size, 6, none⟩ = false := hR6.frozen 6
            have x6 : w6.cell? ⟨w.heap.size + 1, 6, none⟩ = some (.int .i64 (0)) := hX6.cell 6
            have y6 : w6.frozen? ⟨w.heap.size + 1, 6, none⟩ = false := hX6.frozen 6
            have r7 : w6.cell? ⟨w.heap.size, 7, none⟩ = some (.int .i64 0) := hR6.cell 7
            have z7 : w6.frozen? ⟨w.heap.size, 7, none⟩ = false := hR6.frozen 7
            have x7 : w6.cell? ⟨w.heap.size + 1, 7, none⟩ = some (.int .i64 (0)) := hX6.cell 7
            have y7 : w6.frozen? ⟨w.heap.size + 1, 7, none⟩ = false := hX6.frozen 7
            go_wp2_with fail
            refine (HNm.out _).mono ?_
            rintro e w7 ⟨rfl, rfl⟩
            clear HNm
            cases nb
            case false =>
              have HQ := Lib.hid (lelem_end (l := l) hR6 hb6 ⟨0, baOf (Ly.wd Ws 1), -1, 0, 0, 0, 0, 0⟩ 7 (Ly.el_name HO.out Hnw.out Ly.NumS.start (by rw [Hnw.out]; decide) Hnb.out _))
              clear hR6 hX6 hb6 Hl C1 Hc
              go_wp2_with fail
              obtain ⟨hB, hE⟩ := HQ.out
              change bodyPost _ _ _ _ _ (store8 w6 w.heap.size ⟨0, baOf (Ly.wd Ws 1), -1, 0, 0, 0, 0, 0⟩)
              generalize store8 w6 w.heap.size ⟨0, baOf (Ly.wd Ws 1), -1, 0, 0, 0, 0, 0⟩ = WW at hB hE ⊢
              have q0 : WW.cell? ⟨w.heap.size, 0, none⟩ = some (.int .i64 (0)) := hB.cell 0
              have q1 : WW.cell? ⟨w.heap.size, 1, none⟩ = some (.string (baOf (Ly.wd Ws 1))) := hB.cell 1
              have q2 : WW.cell? ⟨w.heap.size, 2, none⟩ = some (.int .i64 (-1)) := hB.cell 2
              have q3 : WW.cell? ⟨w.heap.size, 3, none⟩ = some (.int .i64 (0)) := hB.cell 3
              have q4 : WW.cell? ⟨w.heap.size, 4, none⟩ = some (.int .i64 (0)) := hB.cell 4
              have q5 : WW.cell? ⟨w.heap.size, 5, none⟩ = some (.int .i64 (0)) := hB.cell 5
              have q6 : WW.cell? ⟨w.heap.size, 6, none⟩ = some (.int .i64 (0)) := hB.cell 6
              have q7 : WW.cell? ⟨w.heap.size, 7, none⟩ = some (.int .i64 (0)) := hB.cell 7
              exact bodyPost_ret (v := .tuple #[leV ⟨0, baOf (Ly.wd Ws 1), -1, 0, 0, 0, 0, 0⟩, .int .i64 7]) (by simp [results, leV, Tryd.results51, go_sem, q0, q1, q2, q3, q4, q5, q6, q7]) rfl hE
            case true =>
              have HQ := Lib.hid (lelem_end (l := l) hR6 hb6 ⟨0, baOf (Ly.wd Ws 1), -1, 0, 0, 0, 0, 0⟩ 0 (Ly.el_crest HO.out Hnw.out Hnb.out))
              clear hR6 hX6 hb6 Hl C1 Hc
              go_wp2_with fail
              obtain ⟨hB, hE⟩ := HQ.out
              change bodyPost _ _ _ _ _ (store8 w6 w.heap.size ⟨0, baOf (Ly.wd Ws 1), -1, 0, 0, 0, 0, 0⟩)
              generalize store8 w6 w.heap.size ⟨0, baOf (Ly.wd Ws 1), -1, 0, 0, 0, 0, 0⟩ = WW at hB hE ⊢
              have q0 : WW.cell? ⟨w.heap.size, 0, none⟩ = some (.int .i64 (0)) := hB.cell 0
              have q1 : WW.cell? ⟨w.heap.size, 1, none⟩ = some (.string (baOf (Ly.wd Ws 1))) := hB.cell 1
              have q2 : WW.cell? ⟨w.heap.size, 2, none⟩ = some (.int .i64 (-1)) := hB.cell 2
              have q3 : WW.cell? ⟨w.heap.size, 3, none⟩ = some (.int .i64 (0)) := hB.cell 3
              have q4 : WW.cell? ⟨w.heap.size, 4, none⟩ = some (.int .i64 (0)) := hB.cell 4
              have q5 : WW.cell? ⟨w.heap.size, 5, none⟩ = some (.int .i64 (0)) := hB.cell 5
              have q6 : WW.cell? ⟨w.heap.size, 6, none⟩ = some (.int .i64 (0)) := hB.cell 6
              have q7 : WW.cell? ⟨w.heap.size, 7, none⟩ = some (.int .i64 (0)) := hB.cell 7
              exact bodyPost_ret (v := .tuple #[leV ⟨0, baOf (Ly.wd Ws 1), -1, 0, 0, 0, 0, 0⟩, .int .i64 0]) (by simp [results, leV, Tryd.results51, go_sem, q0, q1, q2, q3, q4, q5, q6, q7]) rfl hE
          · have e0 : (kk == 0) = false := beq_eq_false_iff_ne.2 hk0
            have r0 : w5.cell? ⟨w.heap.size, 0, none⟩ = some (.int .i64 0) := hR5.cell 0
            have z0 : w5.frozen? ⟨w.heap.size, 0, none⟩ = false := hR5.frozen 0
            have x0 : w5.cell? ⟨w.heap.size + 1, 0, none⟩ = some (.int .i64 (kk)) := hX5.cell 0
            have y0 : w5.frozen? ⟨w.heap.size + 1, 0, none⟩ = false := hX5.frozen 0
            have r1 : w5.cell? ⟨w.heap.size, 1, none⟩ = some (.string ⟨#[]⟩) := hR5.cell 1
            have z1 : w5.frozen? ⟨w.heap.size, 1, none⟩ = false := hR5.frozen 1
            have x1 : w5.cell? ⟨w.heap.size + 1, 1, none⟩ = some (.string (baOf (Ly.wd Ws 1))) := hX5.cell 1
            have y1 : w5.frozen? ⟨w.heap.size + 1, 1, none⟩ = false := hX5.frozen 1
            have r2 : w5.cell? ⟨w.heap.size, 2, none⟩ = some (.int .i64 0) := hR5.cell 2
            have z2 : w5.frozen? ⟨w.heap.size, 2, none⟩ = false := hR5.frozen 2
            have x2 : w5.cell? ⟨w.heap.size + 1, 2, none⟩ = some (.int .i64 (0)) := hX5.cell 2
            have y2 : w5.frozen? ⟨w.heap.size + 1, 2, none⟩ = false := hX5.frozen 2
            have r3 : w5.cell? ⟨w.heap.size, 3, none⟩ = some (.int .i64 0) := hR5.cell 3
            have z3 : w5.frozen? ⟨w.heap.size, 3, none⟩ = false := hR5.frozen 3
            have x3 : w5.cell? ⟨w.heap.size + 1, 3, none⟩ = some (.int .i64 (0)) := hX5.cell 3
            have y3 : w5.frozen? ⟨w.heap.size + 1, 3, none⟩ = false := hX5.frozen 3
            have r4 : w5.cell? ⟨w.heap.size, 4, none⟩ = some (.int .i64 0) := hR5.cell 4
            have z4 : w5.frozen? ⟨w.heap.size, 4, none⟩ = false := hR5.frozen 4
            have x4 : w5.cell? ⟨w.heap.size + 1, 4, none⟩ = some (.int .i64 (0)) := hX5.cell 4
            have y4 : w5.frozen? ⟨w.heap.size + 1, 4, none⟩ = false := hX5.frozen 4
            have r5 : w5.cell? ⟨w.heap.size, 5, none⟩ = some (.int .i64 0) := hR5.cell 5
            have z5 : w5.frozen? ⟨w.heap.size, 5, none⟩ = false := hR5.frozen 5
            have x5 : w5.cell? ⟨w.heap.size + 1, 5, none⟩ = some (.int .i64 (0)) := hX5.cell 5
            have y5 : w5.frozen? ⟨w.heap.size + 1, 5, none⟩ = false := hX5.frozen 5
            have r6 : w5.cell? ⟨w.heap.size, 6, none⟩ = some (.int .i64 0) := hR5.cell 6
            have z6 : w5.frozen? ⟨w.heap.size, 6, none⟩ = false := hR5.frozen 6
            have x6 : w5.cell? ⟨w.heap.size + 1, 6, none⟩ = some (.int .i64 (0)) := hX5.cell 6
            have y6 : w5.frozen? ⟨w.heap.size + 1, 6, none⟩ = false := hX5.frozen 6
            have r7 : w5.cell? ⟨w.heap.size, 7, none⟩ = some (.int .i64 0) := hR5.cell 7
            have z7 : w5.frozen? ⟨w.heap.size, 7, none⟩ = false := hR5.frozen 7
            have x7 : w5.cell? ⟨w.heap.size + 1, 7, none⟩ = some (.int .i64 (0)) := hX5.cell 7
            have y7 : w5.frozen? ⟨w.heap.size + 1, 7, none⟩ = false := hX5.frozen 7
            have hN3 : 3 ≤ Ly.wantW kk ∧ Ly.wantW kk ≤ 7 := by unfold Ly.wantW; rw [if_neg hk0]; split <;> omega
            obtain ⟨N, hN⟩ : ∃ N, Ly.wantW kk = N := ⟨_, rfl⟩
            have HN := Lib.hid hN
            rw [hN] at hnw hN3 Hnw ⊢
            subst hnw
            clear hN
            go_wp2_with fail
            go_loopw [5, 9, 10, 11] (fun _ va vv vi W => RL2 w Ws n ⟨kk, baOf (Ly.wd Ws 1), 0, 0, 0, 0, 0, 0⟩ va vv vi W) (fun _ _ _ vi _ => n - (intOf vi).toNat)
            case atStart => exact (show RL2 _ _ _ _ _ _ _ _ from ⟨0, fun _ => 0, false, by omega, rfl, rfl, Lib.hid Ly.NumS.start, World.ownsRow_nil _ _ _ _, hR5, hX5, hb5⟩)
            case round =>
              clear hR5 hX5 hb5 c1 r0 z0 x0 y0 r1 z1 x1 y1 r2 z2 x2 y2 r3 z3 x3 y3 r4 z4 x4 y4 r5 z5 x5 y5 r6 z6 x6 y6 r7 z7 x7 y7
              obtain ⟨t, f, q, htn, rfl, rfl, HS, own, hR, hX, hb⟩ := hrel
              have hsz : w.heap.size + 2 ≤ wr.heap.size := hX.lt
              by_cases hlt : t + 3 < n
              · have ct := (hb.cell (p := ⟨g, t + 3, none⟩) hgl).trans (Hc.out (t + 3) hlt)
                have HNum := Lib.hid (fun W => rlnumber_c (baOf (Ly.wd Ws (t + 3))) W (Hws.out (t + 3)))
                unfold LNum2R at HNum
                simp only [baOf_data] at HNum
                have hti : ((t : Int) + 3) < (n : Int) := by omega
                go_wp2_with fail
                refine (HNum.out _).mono ?_
                rintro e w3 ⟨nn, qq, okk, rfl, hnum, hb3⟩
                clear HNum ct
                have own3 := own_below own hb3
                have hR3 := hR.below hb3 hR.lt
                have hX3 := hX.below hb3 hX.lt
                have hbw := below_step hb hb3
                have hsz3 : w.heap.size + 2 ≤ w3.heap.size := hX3.lt
                clear own hR hX hb hb3 hsz
                have h63 : t + 1 ≤ maxLen := by unfold maxLen; omega
                have h8 : (t + 1) * 8 ≤ 140737488355328 := by omega
                rcases hnum with ⟨hz, rfl⟩ | ⟨hz, rfl, rfl⟩ | ⟨v', hz, rfl, rfl, rfl⟩
                · have Hz := Lib.hid hz
                  clear hz
                  have r0 : w3.cell? ⟨w.heap.size, 0, none⟩ = some (.int .i64 0) := hR3.cell 0
                  have z0 : w3.frozen? ⟨w.heap.size, 0, none⟩ = false := hR3.frozen 0
                  have x0 : w3.cell? ⟨w.heap.size + 1, 0, none⟩ = some (.int .i64 (kk)) := hX3.cell 0
                  have y0 : w3.frozen? ⟨w.heap.size + 1, 0, none⟩ = false := hX3.frozen 0
                  have r1 : w3.cell? ⟨w.heap.size, 1, none⟩ = some (.string ⟨#[]⟩) := hR3.cell 1
                  have z1 : w3.frozen? ⟨w.heap.size, 1, none⟩ = false := hR3.frozen 1
                  have x1 : w3.cell? ⟨w.heap.size + 1, 1, none⟩ = some (.string (baOf (Ly.wd Ws 1))) := hX3.cell 1
                  have y1 : w3.frozen? ⟨w.heap.size + 1, 1, none⟩ = false := hX3.frozen 1
                  have r2 : w3.cell? ⟨w.heap.size, 2, none⟩ = some (.int .i64 0) := hR3.cell 2
                  have z2 : w3.frozen? ⟨w.heap.size, 2, none⟩ = false := hR3.frozen 2
                  have x2 : w3.cell? ⟨w.heap.size + 1, 2, none⟩ = some (.int .i64 (0)) := hX3.cell 2
                  have y2 : w3.frozen? ⟨w.heap.size + 1, 2, none⟩ = false := hX3.frozen 2
                  have r3 : w3.cell? ⟨w.heap.size, 3, none⟩ = some (.int .i64 0) := hR3.cell 3
                  have z3 : w3.frozen? ⟨w.heap.size, 3, none⟩ = false := hR3.frozen 3
                  have x3 : w3.cell? ⟨w.heap.size + 1, 3, none⟩ = some (.int .i64 (0)) := hX3.cell 3
                  have y3 : w3.frozen? ⟨w.heap.size + 1, 3, none⟩ = false := hX3.frozen 3
                  have r4 : w3.cell? ⟨w.heap.size, 4, none⟩ = some (.int .i64 0) := hR3.cell 4
                  have z4 : w3.frozen? ⟨w.heap.size, 4, none⟩ = false := hR3.frozen 4
                  have x4 : w3.cell? ⟨w.heap.size + 1, 4, none⟩ = some (.int .i64 (0)) := hX3.cell 4
                  have y4 : w3.frozen? ⟨w.heap.size + 1, 4, none⟩ = false := hX3.frozen 4
                  have r5 : w3.cell? ⟨w.heap.size, 5, none⟩ = some (.int .i64 0) := hR3.cell 5
                  have z5 : w3.frozen? ⟨w.heap.size, 5, none⟩ = false := hR3.frozen 5
                  have x5 : w3.cell? ⟨w.heap.size + 1, 5, none⟩ = some (.int .i64 (0)) := hX3.cell 5
                  have y5 : w3.frozen? ⟨w.heap.size + 1, 5, none⟩ = false := hX3.frozen 5
                  have r6 : w3.cell? ⟨w.heap.size, 6, none⟩ = some (.int .i64 0) := hR3.cell 6
                  have z6 : w3.frozen? ⟨w.heap.size, 6, none⟩ = false := hR3.frozen 6
                  have x6 : w3.cell? ⟨w.heap.size + 1, 6, none⟩ = some (.int .i64 (0)) := hX3.cell 6
                  have y6 : w3.frozen? ⟨w.heap.size + 1, 6, none⟩ = false := hX3.frozen 6
                  have r7 : w3.cell? ⟨w.heap.size, 7, none⟩ = some (.int .i64 0) := hR3.cell 7
                  have z7 : w3.frozen? ⟨w.heap.size, 7, none⟩ = false := hR3.frozen 7
                  have x7 : w3.cell? ⟨w.heap.size + 1, 7, none⟩ = some (.int .i64 (0)) := hX3.cell 7
                  have y7 : w3.frozen? ⟨w.heap.size + 1, 7, none⟩ = false := hX3.frozen 7
                  have HQ := Lib.hid (lelem_end (l := l) hR3 hbw ⟨kk, baOf (Ly.wd Ws 1), 0, 0, 0, 0, 0, 0⟩ 6 (Ly.el_num HO.out (Hnw.out.trans HN.out.symm) (by rw [Hnw.out]; exact hlt) Hz.out _))
                  clear hR3 hX3 hbw own3 Hl C1 Hc
                  go_wp2_with fail
                  obtain ⟨hB, hE⟩ := HQ.out
                  change bodyPost _ _ _ _ _ (store8 w3 w.heap.size ⟨kk, baOf (Ly.wd Ws 1), 0, 0, 0, 0, 0, 0⟩)
                  generalize store8 w3 w.heap.size ⟨kk, baOf (Ly.wd Ws 1), 0, 0, 0, 0, 0, 0⟩ = WW at hB hE ⊢
                  have q0 : WW.cell? ⟨w.heap.size, 0, none⟩ = some (.int .i64 (kk)) := hB.cell 0
                  have q1 : WW.cell? ⟨w.heap.size, 1, none⟩ = some (.string (baOf (Ly.wd Ws 1))) := hB.cell 1
                  have q2 : WW.cell? ⟨w.heap.size, 2, none⟩ = some (.int .i64 (0)) := hB.cell 2
                  have q3 : WW.cell? ⟨w.heap.size, 3, none⟩ = some (.int .i64 (0)) := hB.cell 3
                  have q4 : WW.cell? ⟨w.heap.size, 4, none⟩ = some (.int .i64 (0)) := hB.cell 4
                  have q5 : WW.cell? ⟨w.heap.size, 5, none⟩ = some (.int .i64 (0)) := hB.cell 5
                  have q6 : WW.cell? ⟨w.heap.size, 6, none⟩ = some (.int .i64 (0)) := hB.cell 6
                  have q7 : WW.cell? ⟨w.heap.size, 7, none⟩ = some (.int .i64 (0)) := hB.cell 7
                  exact bodyPost_ret (v := .tuple #[leV ⟨kk, baOf (Ly.wd Ws 1), 0, 0, 0, 0, 0, 0⟩, .int .i64 6]) (by simp [results, leV, Tryd.results51, go_sem, q0, q1, q2, q3, q4, q5, q6, q7]) rfl hE
                · have HS' := Lib.hid (HS.out.step hz (n := nn) (by intro v hv; cases hv) (b' := true) (by simp))
                  clear hz
                  cases q
                  · go_wp2_with (at_builtin
                                 go_must (
                                 refine wpList_push sl_int9 rfl (.tmp 83) (.tmp 85) rfl (w.heap.size + 2) _ _ _ rfl own3 1 1 rfl rfl rfl h63 h8 hsz3 ?_
                                 intro v' w' own' hgr
                                 have hb' := hgr.below (own_ge own3) hsz3))
                    go_roundw
                    case rel => exact ⟨_, _, _, _, (show RL2 w Ws n _ _ _ _ _ from ⟨t + 1, _, true, by omega, rfl, by go_num, HS', by rw [range_push]; simpa using own', hR3.below hb' (by omega), hX3.below hb' (by omega), hbw.trans (hb'.mono (by omega))⟩), rfl, rfl, rfl, rfl⟩
                    case measure => simp [intOf]; omega
                  · go_wp2_with (at_builtin
                                 go_must (
                                 refine wpList_push sl_int9 rfl (.tmp 83) (.tmp 85) rfl (w.heap.size + 2) _ _ _ rfl own3 1 1 rfl rfl rfl h63 h8 hsz3 ?_
                                 intro v' w' own' hgr
                                 have hb' := hgr.below (own_ge own3) hsz3))
                    go_roundw
                    case rel => exact ⟨_, _, _, _, (show RL2 w Ws n _ _ _ _ _ from ⟨t + 1, _, true, by omega, rfl, by go_num, HS', by rw [range_push]; simpa using own', hR3.below hb' (by omega), hX3.below hb' (by omega), hbw.trans (hb'.mono (by omega))⟩), rfl, rfl, rfl, rfl⟩
                    case measure => simp [intOf]; omega
                · have HS' := Lib.hid (HS.out.step hz (n := nn) (by intro u hu; exact Option.some.inj hu) (b' := q) (by simp))
                  clear hz
                  cases q
                  · go_wp2_with (at_builtin
                                 go_must (
                                 refine wpList_push sl_int9 rfl (.tmp 83) (.tmp 85) rfl (w.heap.size + 2) _ _ _ rfl own3 1 1 rfl rfl rfl h63 h8 hsz3 ?_
                                 intro v' w' own' hgr
                                 have hb' := hgr.below (own_ge own3) hsz3))
                    go_roundw
                    case rel => exact ⟨_, _, _, _, (show RL2 w Ws n _ _ _ _ _ from ⟨t + 1, _, false, by omega, rfl, by go_num, HS', by rw [range_push]; simpa using own', hR3.below hb' (by omega), hX3.below hb' (by omega), hbw.trans (hb'.mono (by omega))⟩), rfl, rfl, rfl, rfl⟩
                    case measure => simp [intOf]; omega
                  · go_wp2_with (at_builtin
                                 go_must (
                                 refine wpList_push sl_int9 rfl (.tmp 83) (.tmp 85) rfl (w.heap.size + 2) _ _ _ rfl own3 1 1 rfl rfl rfl h63 h8 hsz3 ?_
                                 intro v' w' own' hgr
                                 have hb' := hgr.below (own_ge own3) hsz3))
                    go_roundw
                    case rel => exact ⟨_, _, _, _, (show RL2 w Ws n _ _ _ _ _ from ⟨t + 1, _, true, by omega, rfl, by go_num, HS', by rw [range_push]; simpa using own', hR3.below hb' (by omega), hX3.below hb' (by omega), hbw.trans (hb'.mono (by omega))⟩), rfl, rfl, rfl, rfl⟩
                    case measure => simp [intOf]; omega
              · obtain rfl : n = t + 3 := by omega
                have hnt := Lib.hid (Hnw.out.trans HN.out.symm)
                cases q
                · have c2 := (hb.cell (p := ⟨g, 2, none⟩) hgl).trans (Hc.out 2 (by omega))
                  have h2i : (2 : Int) < ((t + 3 : Nat) : Int) := by omega
                  have HPar := Lib.hid (fun W (hw : Below w.heap.size w W) => rlparent_c (c := cl) l (baOf (Ly.wd Ws 2)) W (Hws.out 2) hnl (Hl.out.below hw))
                  simp only [baOf_data] at HPar
                  go_wp2_with fail
                  refine (HPar.out _ hb).mono ?_
                  rintro e w3 ⟨rfl, hb3⟩
                  clear HPar
                  have own3 := own_below own hb3
                  have hR3 := hR.below hb3 hR.lt
                  have hX3 := hX.below hb3 hX.lt
                  have hbw := below_step hb hb3
                  clear own hR hX hb hb3 hsz c2
                  have c1 := C1.out _ hbw
                  obtain ⟨oi, hoi⟩ : ∃ oi, Ly.idxGo (Ly.sufOf (Ly.wd Ws 2)).1 l 0 = oi := ⟨_, rfl⟩
                  obtain ⟨sd, hsd⟩ : ∃ sd, (Ly.sufOf (Ly.wd Ws 2)).2 = sd := ⟨_, rfl⟩
                  have Hoi := Lib.hid hoi
                  have Hsd := Lib.hid hsd
                  rw [hoi, hsd]
                  clear hoi hsd
                  have HE7 : Hid (∀ x, oi = none ∨ nb = false → LElemQ (Ly.elemB l Ws) x 7) := Lib.hid (fun x hh => by
                    by_cases h : nb = false
                    · exact Ly.el_name HO.out hnt.out HS.out (Nat.le_of_eq Hnw.out) (Hnb.out.trans h) x
                    · have hnb : nb = true := by simpa using h
                      have hon : oi = none := hh.resolve_right h
                      exact Ly.el_par HO.out hk0 hnt.out HS.out (Nat.le_of_eq Hnw.out) (Hnb.out.trans hnb) (Hoi.out.trans hon) x)
                  cases oi with
                  | none =>
                    unfold ParR
                    have r0 : w3.cell? ⟨w.heap.size, 0, none⟩ = some (.int .i64 0) := hR3.cell 0
                    have z0 : w3.frozen? ⟨w.heap.size, 0, none⟩ = false := hR3.frozen 0
                    have x0 : w3.cell? ⟨w.heap.size + 1, 0, none⟩ = some (.int .i64 (kk)) := hX3.cell 0
                    have y0 : w3.frozen? ⟨w.heap.size + 1, 0, none⟩ = false := hX3.frozen 0
                    have r1 : w3.cell? ⟨w.heap.size, 1, none⟩ = some (.string ⟨#[]⟩) := hR3.cell 1
                    have z1 : w3.frozen? ⟨w.heap.size, 1, none⟩ = false := hR3.frozen 1
                    have x1 : w3.cell? ⟨w.heap.size + 1, 1, none⟩ = some (.string (baOf (Ly.wd Ws 1))) := hX3.cell 1
                    have y1 : w3.frozen? ⟨w.heap.size + 1, 1, none⟩ = false := hX3.frozen 1
                    have r2 : w3.cell? ⟨w.heap.size, 2, none⟩ = some (.int .i64 0) := hR3.cell 2
                    have z2 : w3.frozen? ⟨w.heap.size, 2, none⟩ = false := hR3.frozen 2
                    have x2 : w3.cell? ⟨w.heap.size + 1, 2, none⟩ = some (.int .i64 (0)) := hX3.cell 2
                    have y2 : w3.frozen? ⟨w.heap.size + 1, 2, none⟩ = false := hX3.frozen 2
                    have r3 : w3.cell? ⟨w.heap.size, 3, none⟩ = some (.int .i64 0) := hR3.cell 3
                    have z3 : w3.frozen? ⟨w.heap.size, 3, none⟩ = false := hR3.frozen 3
                    have x3 : w3.cell? ⟨w.heap.size + 1, 3, none⟩ = some (.int .i64 (0)) := hX3.cell 3
                    have y3 : w3.frozen? ⟨w.heap.size + 1, 3, none⟩ = false := hX3.frozen 3
                    have r4 : w3.cell? ⟨w.heap.size, 4, none⟩ = some (.int .i64 0) := hR3.cell 4
                    have z4 : w3.frozen? ⟨w.heap.size, 4, none⟩ = false := hR3.frozen 4
                    have x4 : w3.cell? ⟨w.heap.size + 1, 4, none⟩ = some (.int .i64 (0)) := hX3.cell 4
                    have y4 : w3.frozen? ⟨w.heap.size + 1, 4, none⟩ = false := hX3.frozen 4
                    have r5 : w3.cell? ⟨w.heap.size, 5, none⟩ = some (.int .i64 0) := hR3.cell 5
                    have z5 : w3.frozen? ⟨w.heap.size, 5, none⟩ = false := hR3.frozen 5
                    have x5 : w3.cell? ⟨w.heap.size + 1, 5, none⟩ = some (.int .i64 (0)) := hX3.cell 5
                    have y5 : w3.frozen? ⟨w.heap.size + 1, 5, none⟩ = false := hX3.frozen 5
                    have r6 : w3.cell? ⟨w.heap.size, 6, none⟩ = some (.int .i64 0) := hR3.cell 6
                    have z6 : w3.frozen? ⟨w.heap.size, 6, none⟩ = false := hR3.frozen 6
                    have x6 : w3.cell? ⟨w.heap.size + 1, 6, none⟩ = some (.int .i64 (0)) := hX3.cell 6
                    have y6 : w3.frozen? ⟨w.heap.size + 1, 6, none⟩ = false := hX3.frozen 6
                    have r7 : w3.cell? ⟨w.heap.size, 7, none⟩ = some (.int .i64 0) := hR3.cell 7
                    have z7 : w3.frozen? ⟨w.heap.size, 7, none⟩ = false := hR3.frozen 7
                    have x7 : w3.cell? ⟨w.heap.size + 1, 7, none⟩ = some (.int .i64 (0)) := hX3.cell 7
                    have y7 : w3.frozen? ⟨w.heap.size + 1, 7, none⟩ = false := hX3.frozen 7
                    have HQ := Lib.hid (lelem_end (l := l) hR3 hbw ⟨kk, baOf (Ly.wd Ws 1), 0, 0, 0, 0, 0, 0⟩ 7 (HE7.out _ (.inl rfl)))
                    clear hR3 hX3 hbw own3 Hl C1 Hc
                    go_wp2_with fail
                    obtain ⟨hB, hE⟩ := HQ.out
                    change bodyPost _ _ _ _ _ (store8 w3 w.heap.size ⟨kk, baOf (Ly.wd Ws 1), 0, 0, 0, 0, 0, 0⟩)
                    generalize store8 w3 w.heap.size ⟨kk, baOf (Ly.wd Ws 1), 0, 0, 0, 0, 0, 0⟩ = WW at hB hE ⊢
                    have q0 : WW.cell? ⟨w.heap.size, 0, none⟩ = some (.int .i64 (kk)) := hB.cell 0
                    have q1 : WW.cell? ⟨w.heap.size, 1, none⟩ = some (.string (baOf (Ly.wd Ws 1))) := hB.cell 1
                    have q2 : WW.cell? ⟨w.heap.size, 2, none⟩ = some (.int .i64 (0)) := hB.cell 2
                    have q3 : WW.cell? ⟨w.heap.size, 3, none⟩ = some (.int .i64 (0)) := hB.cell 3
                    have q4 : WW.cell? ⟨w.heap.size, 4, none⟩ = some (.int .i64 (0)) := hB.cell 4
                    have q5 : WW.cell? ⟨w.heap.size, 5, none⟩ = some (.int .i64 (0)) := hB.cell 5
                    have q6 : WW.cell? ⟨w.heap.size, 6, none⟩ = some (.int .i64 (0)) := hB.cell 6
                    have q7 : WW.cell? ⟨w.heap.size, 7, none⟩ = some (.int .i64 (0)) := hB.cell 7
                    exact bodyPost_ret (v := .tuple #[leV ⟨kk, baOf (Ly.wd Ws 1), 0, 0, 0, 0, 0, 0⟩, .int .i64 7]) (by simp [results, leV, Tryd.results51, go_sem, q0, q1, q2, q3, q4, q5, q6, q7]) rfl hE
                  | some i =>
                    unfold ParR
                    have r0 : w3.cell? ⟨w.heap.size, 0, none⟩ = some (.int .i64 0) := hR3.cell 0
                    have z0 : w3.frozen? ⟨w.heap.size, 0, none⟩ = false := hR3.frozen 0
                    have x0 : w3.cell? ⟨w.heap.size + 1, 0, none⟩ = some (.int .i64 (kk)) := hX3.cell 0
                    have y0 : w3.frozen? ⟨w.heap.size + 1, 0, none⟩ = false := hX3.frozen 0
                    have r1 : w3.cell? ⟨w.heap.size, 1, none⟩ = some (.string ⟨#[]⟩) := hR3.cell 1
                    have z1 : w3.frozen? ⟨w.heap.size, 1, none⟩ = false := hR3.frozen 1
                    have x1 : w3.cell? ⟨w.heap.size + 1, 1, none⟩ = some (.string (baOf (Ly.wd Ws 1))) := hX3.cell 1
                    have y1 : w3.frozen? ⟨w.heap.size + 1, 1, none⟩ = false := hX3.frozen 1
                    have r2 : w3.cell? ⟨w.heap.size, 2, none⟩ = some (.int .i64 0) := hR3.cell 2
                    have z2 : w3.frozen? ⟨w.heap.size, 2, none⟩ = false := hR3.frozen 2
                    have x2 : w3.cell? ⟨w.heap.size + 1, 2, none⟩ = some (.int .i64 (0)) := hX3.cell 2
                    have y2 : w3.frozen? ⟨w.heap.size + 1, 2, none⟩ = false := hX3.frozen 2
                    have r3 : w3.cell? ⟨w.heap.size, 3, none⟩ = some (.int .i64 0) := hR3.cell 3
                    have z3 : w3.frozen? ⟨w.heap.size, 3, none⟩ = false := hR3.frozen 3
                    have x3 : w3.cell? ⟨w.heap.size + 1, 3, none⟩ = some (.int .i64 (0)) := hX3.cell 3
                    have y3 : w3.frozen? ⟨w.heap.size + 1, 3, none⟩ = false := hX3.frozen 3
                    have r4 : w3.cell? ⟨w.heap.size, 4, none⟩ = some (.int .i64 0) := hR3.cell 4
                    have z4 : w3.frozen? ⟨w.heap.size, 4, none⟩ = false := hR3.frozen 4
                    have x4 : w3.cell? ⟨w.heap.size + 1, 4, none⟩ = some (.int .i64 (0)) := hX3.cell 4
                    have y4 : w3.frozen? ⟨w.heap.size + 1, 4, none⟩ = false := hX3.frozen 4
                    have r5 : w3.cell? ⟨w.heap.size, 5, none⟩ = some (.int .i64 0) := hR3.cell 5
                    have z5 : w3.frozen? ⟨w.heap.size, 5, none⟩ = false := hR3.frozen 5
                    have x5 : w3.cell? ⟨w.heap.size + 1, 5, none⟩ = some (.int .i64 (0)) := hX3.cell 5
                    have y5 : w3.frozen? ⟨w.heap.size + 1, 5, none⟩ = false := hX3.frozen 5
                    have r6 : w3.cell? ⟨w.heap.size, 6, none⟩ = some (.int .i64 0) := hR3.cell 6
                    have z6 : w3.frozen? ⟨w.heap.size, 6, none⟩ = false := hR3.frozen 6
                    have x6 : w3.cell? ⟨w.heap.size + 1, 6, none⟩ = some (.int .i64 (0)) := hX3.cell 6
                    have y6 : w3.frozen? ⟨w.heap.size + 1, 6, none⟩ = false := hX3.frozen 6
                    have r7 : w3.cell? ⟨w.heap.size, 7, none⟩ = some (.int .i64 0) := hR3.cell 7
                    have z7 : w3.frozen? ⟨w.heap.size, 7, none⟩ = false := hR3.frozen 7
                    have x7 : w3.cell? ⟨w.heap.size + 1, 7, none⟩ = some (.int .i64 (0)) := hX3.cell 7
                    have y7 : w3.frozen? ⟨w.heap.size + 1, 7, none⟩ = false := hX3.frozen 7
                    go_wp2_with fail
                    refine (HNm.out _).mono ?_
                    rintro e w7 ⟨rfl, rfl⟩
                    clear HNm
                    cases nb
                    case false =>
                      have HQ := Lib.hid (lelem_end (l := l) hR3 hbw ⟨kk, baOf (Ly.wd Ws 1), 0, 0, 0, 0, 0, 0⟩ 7 (HE7.out _ (.inr rfl)))
                      clear hR3 hX3 hbw own3 Hl C1 Hc
                      go_wp2_with fail
                      obtain ⟨hB, hE⟩ := HQ.out
                      change bodyPost _ _ _ _ _ (store8 w3 w.heap.size ⟨kk, baOf (Ly.wd Ws 1), 0, 0, 0, 0, 0, 0⟩)
                      generalize store8 w3 w.heap.size ⟨kk, baOf (Ly.wd Ws 1), 0, 0, 0, 0, 0, 0⟩ = WW at hB hE ⊢
                      have q0 : WW.cell? ⟨w.heap.size, 0, none⟩ = some (.int .i64 (kk)) := hB.cell 0
                      have q1 : WW.cell? ⟨w.heap.size, 1, none⟩ = some (.string (baOf (Ly.wd Ws 1))) := hB.cell 1
                      have q2 : WW.cell? ⟨w.heap.size, 2, none⟩ = some (.int .i64 (0)) := hB.cell 2
                      have q3 : WW.cell? ⟨w.heap.size, 3, none⟩ = some (.int .i64 (0)) := hB.cell 3
                      have q4 : WW.cell? ⟨w.heap.size, 4, none⟩ = some (.int .i64 (0)) := hB.cell 4
                      have q5 : WW.cell? ⟨w.heap.size, 5, none⟩ = some (.int .i64 (0)) := hB.cell 5
                      have q6 : WW.cell? ⟨w.heap.size, 6, none⟩ = some (.int .i64 (0)) := hB.cell 6
                      have q7 : WW.cell? ⟨w.heap.size, 7, none⟩ = some (.int .i64 (0)) := hB.cell 7
                      exact bodyPost_ret (v := .tuple #[leV ⟨kk, baOf (Ly.wd Ws 1), 0, 0, 0, 0, 0, 0⟩, .int .i64 7]) (by simp [results, leV, Tryd.results51, go_sem, q0, q1, q2, q3, q4, q5, q6, q7]) rfl hE
                    case true =>
                      have ht3 : 3 ≤ t ∧ (kk = 2 ∧ t = 4 ∨ kk ≠ 2 ∧ t = 3) := by
                        have h := HN.out
                        unfold Ly.wantW at h
                        rw [if_neg hk0] at h
                        by_cases h2 : kk = 2
                        · rw [if_pos h2] at h; omega
                        · rw [if_neg h2] at h; omega
                      obtain ⟨gv, cap, rfl, hg1, hg2⟩ := own3.form (by omega)
                      have hv : ∀ j, j < t → w3.cell? ⟨gv, j, none⟩ = some (.int .i64 (f j)) := fun j hj => by
                        rw [own3.cellAt j (by omega), List.getElem?_map, List.getElem?_map, List.getElem?_range hj]
                        rfl
                      have v0 := hv 0 (by omega)
                      have v1 := hv 1 (by omega)
                      have v2 := hv 2 (by omega)
                      have t0 : (0 : Int) < (t : Int) := by omega
                      have t1 : (1 : Int) < (t : Int) := by omega
                      have t2 : (2 : Int) < (t : Int) := by omega
                      go_wp2_with fail
                      go_region
                      have HE0 : Hid (LElemQ (Ly.elemB l Ws) ⟨kk, baOf (Ly.wd Ws 1), (i : Int), sd, f 0, f 1, f 2, f 3⟩ 0) := Lib.hid (by
                        have := Ly.el_ok HO.out hk0 hnt.out HS.out Hnw.out ht3.2 Hnb.out Hoi.out
                        rw [Hsd.out] at this
                        exact this)
                      have hgv : gv ≠ w.heap.size + 1 := by omega
                      obtain ⟨w8, hw8⟩ : ∃ W, (((((w3.setCell ⟨w.heap.size + 1, 2, none⟩ (.int .i64 (i : Int))).setCell ⟨w.heap.size + 1, 3, none⟩ (.int .i64 sd)).setCell ⟨w.heap.size + 1, 4, none⟩ (.int .i64 (f 0))).setCell ⟨w.heap.size + 1, 5, none⟩ (.int .i64 (f 1))).setCell ⟨w.heap.size + 1, 6, none⟩ (.int .i64 (f 2))).drew = W := ⟨_, rfl⟩
                      have hR8 : Blk w8 w.heap.size 48 (LEc leZ) := by
                        rw [← hw8]
                        exact (((((hR3.far (by simp) _).far (by simp) _).far (by simp) _).far (by simp) _).far (by simp) _).drew
                      have hX8 : Blk w8 (w.heap.size + 1) 48 (LEc ⟨kk, baOf (Ly.wd Ws 1), (i : Int), sd, f 0, f 1, f 2, 0⟩) := by
                        rw [← hw8]
                        exact (((((hX3.set_ 2 _).set_ 3 _).set_ 4 _).set_ 5 _).set_ 6 _).drew
                      have hb8 : Below w.heap.size w w8 := by
                        rw [← hw8]
                        exact Below.drew (((((hbw.setCell (by simp) _).setCell (by simp) _).setCell (by simp) _).setCell (by simp) _).setCell (by simp) _)
                      have HV3 : Hid (∀ j, j < t → w8.cell? ⟨gv, j, none⟩ = some (.int .i64 (f j))) := Lib.hid (fun j hj => by
                        rw [← hw8]
                        exact (far_cell hgv).trans ((far_cell hgv).trans ((far_cell hgv).trans ((far_cell hgv).trans ((far_cell hgv).trans (hv j hj))))))
                      rw [hw8]
                      clear hw8 hR3 hX3 hbw own3 hv v0 v1 v2 r0 z0 x0 y0 r1 z1 x1 y1 r2 z2 x2 y2 r3 z3 x3 y3 r4 z4 x4 y4 r5 z5 x5 y5 r6 z6 x6 y6 r7 z7 x7 y7
                      have r0 : w8.cell? ⟨w.heap.size, 0, none⟩ = some (.int .i64 0) := hR8.cell 0
                      have z0 : w8.frozen? ⟨w.heap.size, 0, none⟩ = false := hR8.frozen 0
                      have x0 : w8.cell? ⟨w.heap.size + 1, 0, none⟩ = some (.int .i64 (kk)) := hX8.cell 0
                      have y0 : w8.frozen? ⟨w.heap.size + 1, 0, none⟩ = false := hX8.frozen 0
                      have r1 : w8.cell? ⟨w.heap.size, 1, none⟩ = some (.string ⟨#[]⟩) := hR8.cell 1
                      have z1 : w8.frozen? ⟨w.heap.size, 1, none⟩ = false := hR8.frozen 1
                      have x1 : w8.cell? ⟨w.heap.size + 1, 1, none⟩ = some (.string (baOf (Ly.wd Ws 1))) := hX8.cell 1
                      have y1 : w8.frozen? ⟨w.heap.size + 1, 1, none⟩ = false := hX8.frozen 1
                      have r2 : w8.cell? ⟨w.heap.size, 2, none⟩ = some (.int .i64 0) := hR8.cell 2
                      have z2 : w8.frozen? ⟨w.heap.size, 2, none⟩ = false := hR8.frozen 2
                      have x2 : w8.cell? ⟨w.heap.size + 1, 2, none⟩ = some (.int .i64 ((i : Int))) := hX8.cell 2
                      have y2 : w8.frozen? ⟨w.heap.size + 1, 2, none⟩ = false := hX8.frozen 2
                      have r3 : w8.cell? ⟨w.heap.size, 3, none⟩ = some (.int .i64 0) := hR8.cell 3
                      have z3 : w8.frozen? ⟨w.heap.size, 3, none⟩ = false := hR8.frozen 3
                      have x3 : w8.cell? ⟨w.heap.size + 1, 3, none⟩ = some (.int .i64 (sd)) := hX8.cell 3
                      have y3 : w8.frozen? ⟨w.heap.size + 1, 3, none⟩ = false := hX8.frozen 3
                      have r4 : w8.cell? ⟨w.heap.size, 4, none⟩ = some (.int .i64 0) := hR8.cell 4
                      have z4 : w8.frozen? ⟨w.heap.size, 4, none⟩ = false := hR8.frozen 4
                      have x4 : w8.cell? ⟨w.heap.size + 1, 4, none⟩ = some (.int .i64 (f 0)) := hX8.cell 4
                      have y4 : w8.frozen? ⟨w.heap.size + 1, 4, none⟩ = false := hX8.frozen 4
                      have r5 : w8.cell? ⟨w.heap.size, 5, none⟩ = some (.int .i64 0) := hR8.cell 5
                      have z5 : w8.frozen? ⟨w.heap.size, 5, none⟩ = false := hR8.frozen 5
                      have x5 : w8.cell? ⟨w.heap.size + 1, 5, none⟩ = some (.int .i64 (f 1)) := hX8.cell 5
                      have y5 : w8.frozen? ⟨w.heap.size + 1, 5, none⟩ = false := hX8.frozen 5
                      have r6 : w8.cell? ⟨w.heap.size, 6, none⟩ = some (.int .i64 0) := hR8.cell 6
                      have z6 : w8.frozen? ⟨w.heap.size, 6, none⟩ = false := hR8.frozen 6
                      have x6 : w8.cell? ⟨w.heap.size + 1, 6, none⟩ = some (.int .i64 (f 2)) := hX8.cell 6
                      have y6 : w8.frozen? ⟨w.heap.size + 1, 6, none⟩ = false := hX8.frozen 6
                      have r7 : w8.cell? ⟨w.heap.size, 7, none⟩ = some (.int .i64 0) := hR8.cell 7
                      have z7 : w8.frozen? ⟨w.heap.size, 7, none⟩ = false := hR8.frozen 7
                      have x7 : w8.cell? ⟨w.heap.size + 1, 7, none⟩ = some (.int .i64 (0)) := hX8.cell 7
                      have y7 : w8.frozen? ⟨w.heap.size + 1, 7, none⟩ = false := hX8.frozen 7
                      by_cases h2 : kk = 2
                      · have e2 : (kk == 2) = true := by rw [h2]; rfl
                        have t4 : t = 4 := by omega
                        have t3 : (3 : Int) < (t : Int) := by omega
                        have v3 := HV3.out 3 (by omega)
                        clear h2 t4 ht3
                        go_upto_region 41 with fail
                        clear v3
                        obtain ⟨w9, hw9⟩ : ∃ W, w8.setCell ⟨w.heap.size + 1, 7, none⟩ (.int .i64 (f 3)) = W := ⟨_, rfl⟩
                        have hR9 : Blk w9 w.heap.size 48 (LEc leZ) := by rw [← hw9]; exact hR8.far (by simp) _
                        have hX9 : Blk w9 (w.heap.size + 1) 48 (LEc ⟨kk, baOf (Ly.wd Ws 1), (i : Int), sd, f 0, f 1, f 2, f 3⟩) := by rw [← hw9]; exact hX8.set_ 7 _
                        have hb9 : Below w.heap.size w w9 := by rw [← hw9]; exact hb8.setCell (by simp) _
                        rw [hw9]
                        clear hw9 hR8 hX8 hb8 r0 z0 x0 y0 r1 z1 x1 y1 r2 z2 x2 y2 r3 z3 x3 y3 r4 z4 x4 y4 r5 z5 x5 y5 r6 z6 x6 y6 r7 z7 x7 y7
                        have r0 : w9.cell? ⟨w.heap.size, 0, none⟩ = some (.int .i64 0) := hR9.cell 0
                        have z0 : w9.frozen? ⟨w.heap.size, 0, none⟩ = false := hR9.frozen 0
                        have x0 : w9.cell? ⟨w.heap.size + 1, 0, none⟩ = some (.int .i64 (kk)) := hX9.cell 0
                        have y0 : w9.frozen? ⟨w.heap.size + 1, 0, none⟩ = false := hX9.frozen 0
                        have r1 : w9.cell? ⟨w.heap.size, 1, none⟩ = some (.string ⟨#[]⟩) := hR9.cell 1
                        have z1 : w9.frozen? ⟨w.heap.size, 1, none⟩ = false := hR9.frozen 1
                        have x1 : w9.cell? ⟨w.heap.size + 1, 1, none⟩ = some (.string (baOf (Ly.wd Ws 1))) := hX9.cell 1
                        have y1 : w9.frozen? ⟨w.heap.size + 1, 1, none⟩ = false := hX9.frozen 1
                        have r2 : w9.cell? ⟨w.heap.size, 2, none⟩ = some (.int .i64 0) := hR9.cell 2
                        have z2 : w9.frozen? ⟨w.heap.size, 2, none⟩ = false := hR9.frozen 2
                        have x2 : w9.cell? ⟨w.heap.size + 1, 2, none⟩ = some (.int .i64 ((i : Int))) := hX9.cell 2
                        have y2 : w9.frozen? ⟨w.heap.size + 1, 2, none⟩ = false := hX9.frozen 2
                        have r3 : w9.cell? ⟨w.heap.size, 3, none⟩ = some (.int .i64 0) := hR9.cell 3
                        have z3 : w9.frozen? ⟨w.heap.size, 3, none⟩ = false := hR9.frozen 3
                        have x3 : w9.cell? ⟨w.heap.size + 1, 3, none⟩ = some (.int .i64 (sd)) := hX9.cell 3
                        have y3 : w9.frozen? ⟨w.heap.size + 1, 3, none⟩ = false := hX9.frozen 3
                        have r4 : w9.cell? ⟨w.heap.size, 4, none⟩ = some (.int .i64 0) := hR9.cell 4
                        have z4 : w9.frozen? ⟨w.heap.size, 4, none⟩ = false := hR9.frozen 4
                        have x4 : w9.cell? ⟨w.heap.size + 1, 4, none⟩ = some (.int .i64 (f 0)) := hX9.cell 4
                        have y4 : w9.frozen? ⟨w.heap.size + 1, 4, none⟩ = false := hX9.frozen 4
                        have r5 : w9.cell? ⟨w.heap.size, 5, none⟩ = some (.int .i64 0) := hR9.cell 5
                        have z5 : w9.frozen? ⟨w.heap.size, 5, none⟩ = false := hR9.frozen 5
                        have x5 : w9.cell? ⟨w.heap.size + 1, 5, none⟩ = some (.int .i64 (f 1)) := hX9.cell 5
                        have y5 : w9.frozen? ⟨w.heap.size + 1, 5, none⟩ = false := hX9.frozen 5
                        have r6 : w9.cell? ⟨w.heap.size, 6, none⟩ = some (.int .i64 0) := hR9.cell 6
                        have z6 : w9.frozen? ⟨w.heap.size, 6, none⟩ = false := hR9.frozen 6
                        have x6 : w9.cell? ⟨w.heap.size + 1, 6, none⟩ = some (.int .i64 (f 2)) := hX9.cell 6
                        have y6 : w9.frozen? ⟨w.heap.size + 1, 6, none⟩ = false := hX9.frozen 6
                        have r7 : w9.cell? ⟨w.heap.size, 7, none⟩ = some (.int .i64 0) := hR9.cell 7
                        have z7 : w9.frozen? ⟨w.heap.size, 7, none⟩ = false := hR9.frozen 7
                        have x7 : w9.cell? ⟨w.heap.size + 1, 7, none⟩ = some (.int .i64 (f 3)) := hX9.cell 7
                        have y7 : w9.frozen? ⟨w.heap.size + 1, 7, none⟩ = false := hX9.frozen 7
                        have HQ := Lib.hid (lelem_end (l := l) hR9 hb9 ⟨kk, baOf (Ly.wd Ws 1), (i : Int), sd, f 0, f 1, f 2, f 3⟩ 0 (HE0.out))
                        clear hR9 hX9 hb9 Hl C1 Hc HV3
                        go_wp2_with fail
                        obtain ⟨hB, hE⟩ := HQ.out
                        change bodyPost _ _ _ _ _ (store8 w9 w.heap.size ⟨kk, baOf (Ly.wd Ws 1), (i : Int), sd, f 0, f 1, f 2, f 3⟩)
                        generalize store8 w9 w.heap.size ⟨kk, baOf (Ly.wd Ws 1), (i : Int), sd, f 0, f 1, f 2, f 3⟩ = WW at hB hE ⊢
                        have q0 : WW.cell? ⟨w.heap.size, 0, none⟩ = some (.int .i64 (kk)) := hB.cell 0
                        have q1 : WW.cell? ⟨w.heap.size, 1, none⟩ = some (.string (baOf (Ly.wd Ws 1))) := hB.cell 1
                        have q2 : WW.cell? ⟨w.heap.size, 2, none⟩ = some (.int .i64 ((i : Int))) := hB.cell 2
                        have q3 : WW.cell? ⟨w.heap.size, 3, none⟩ = some (.int .i64 (sd)) := hB.cell 3
                        have q4 : WW.cell? ⟨w.heap.size, 4, none⟩ = some (.int .i64 (f 0)) := hB.cell 4
                        have q5 : WW.cell? ⟨w.heap.size, 5, none⟩ = some (.int .i64 (f 1)) := hB.cell 5
                        have q6 : WW.cell? ⟨w.heap.size, 6, none⟩ = some (.int .i64 (f 2)) := hB.cell 6
                        have q7 : WW.cell? ⟨w.heap.size, 7, none⟩ = some (.int .i64 (f 3)) := hB.cell 7
                        exact bodyPost_ret (v := .tuple #[leV ⟨kk, baOf (Ly.wd Ws 1), (i : Int), sd, f 0, f 1, f 2, f 3⟩, .int .i64 0]) (by simp [results, leV, Tryd.results51, go_sem, q0, q1, q2, q3, q4, q5, q6, q7]) rfl hE
                      · have e2 : (kk == 2) = false := beq_eq_false_iff_ne.2 h2
                        have f3 : f 3 = 0 := HS.out.2.1 3 (by omega)
                        rw [f3] at HE0
                        have HQ := Lib.hid (lelem_end (l := l) hR8 hb8 ⟨kk, baOf (Ly.wd Ws 1), (i : Int), sd, f 0, f 1, f 2, 0⟩ 0 (HE0.out))
                        clear hR8 hX8 hb8 Hl C1 Hc HV3
                        go_wp2_with fail
                        obtain ⟨hB, hE⟩ := HQ.out
                        change bodyPost _ _ _ _ _ (store8 w8 w.heap.size ⟨kk, baOf (Ly.wd Ws 1), (i : Int), sd, f 0, f 1, f 2, 0⟩)
                        generalize store8 w8 w.heap.size ⟨kk, baOf (Ly.wd Ws 1), (i : Int), sd, f 0, f 1, f 2, 0⟩ = WW at hB hE ⊢
                        have q0 : WW.cell? ⟨w.heap.size, 0, none⟩ = some (.int .i64 (kk)) := hB.cell 0
                        have q1 : WW.cell? ⟨w.heap.size, 1, none⟩ = some (.string (baOf (Ly.wd Ws 1))) := hB.cell 1
                        have q2 : WW.cell? ⟨w.heap.size, 2, none⟩ = some (.int .i64 ((i : Int))) := hB.cell 2
                        have q3 : WW.cell? ⟨w.heap.size, 3, none⟩ = some (.int .i64 (sd)) := hB.cell 3
                        have q4 : WW.cell? ⟨w.heap.size, 4, none⟩ = some (.int .i64 (f 0)) := hB.cell 4
                        have q5 : WW.cell? ⟨w.heap.size, 5, none⟩ = some (.int .i64 (f 1)) := hB.cell 5
                        have q6 : WW.cell? ⟨w.heap.size, 6, none⟩ = some (.int .i64 (f 2)) := hB.cell 6
                        have q7 : WW.cell? ⟨w.heap.size, 7, none⟩ = some (.int .i64 (0)) := hB.cell 7
                        exact bodyPost_ret (v := .tuple #[leV ⟨kk, baOf (Ly.wd Ws 1), (i : Int), sd, f 0, f 1, f 2, 0⟩, .int .i64 0]) (by simp [results, leV, Tryd.results51, go_sem, q0, q1, q2, q3, q4, q5, q6, q7]) rfl hE
                · have dummy := hsz
                  have r0 : wr.cell? ⟨w.heap.size, 0, none⟩ = some (.int .i64 0) := hR.cell 0
                  have z0 : wr.frozen? ⟨w.heap.size, 0, none⟩ = false := hR.frozen 0
                  have x0 : wr.cell? ⟨w.heap.size + 1, 0, none⟩ = some (.int .i64 (kk)) := hX.cell 0
                  have y0 : wr.frozen? ⟨w.heap.size + 1, 0, none⟩ = false := hX.frozen 0
                  have r1 : wr.cell? ⟨w.heap.size, 1, none⟩ = some (.string ⟨#[]⟩) := hR.cell 1
                  have z1 : wr.frozen? ⟨w.heap.size, 1, none⟩ = false := hR.frozen 1
                  have x1 : wr.cell? ⟨w.heap.size + 1, 1, none⟩ = some (.string (baOf (Ly.wd Ws 1))) := hX.cell 1
                  have y1 : wr.frozen? ⟨w.heap.size + 1, 1, none⟩ = false := hX.frozen 1
                  have r2 : wr.cell? ⟨w.heap.size, 2, none⟩ = some (.int .i64 0) := hR.cell 2
                  have z2 : wr.frozen? ⟨w.heap.size, 2, none⟩ = false := hR.frozen 2
                  have x2 : wr.cell? ⟨w.heap.size + 1, 2, none⟩ = some (.int .i64 (0)) := hX.cell 2
                  have y2 : wr.frozen? ⟨w.heap.size + 1, 2, none⟩ = false := hX.frozen 2
                  have r3 : wr.cell? ⟨w.heap.size, 3, none⟩ = some (.int .i64 0) := hR.cell 3
                  have z3 : wr.frozen? ⟨w.heap.size, 3, none⟩ = false := hR.frozen 3
                  have x3 : wr.cell? ⟨w.heap.size + 1, 3, none⟩ = some (.int .i64 (0)) := hX.cell 3
                  have y3 : wr.frozen? ⟨w.heap.size + 1, 3, none⟩ = false := hX.frozen 3
                  have r4 : wr.cell? ⟨w.heap.size, 4, none⟩ = some (.int .i64 0) := hR.cell 4
                  have z4 : wr.frozen? ⟨w.heap.size, 4, none⟩ = false := hR.frozen 4
                  have x4 : wr.cell? ⟨w.heap.size + 1, 4, none⟩ = some (.int .i64 (0)) := hX.cell 4
                  have y4 : wr.frozen? ⟨w.heap.size + 1, 4, none⟩ = false := hX.frozen 4
                  have r5 : wr.cell? ⟨w.heap.size, 5, none⟩ = some (.int .i64 0) := hR.cell 5
                  have z5 : wr.frozen? ⟨w.heap.size, 5, none⟩ = false := hR.frozen 5
                  have x5 : wr.cell? ⟨w.heap.size + 1, 5, none⟩ = some (.int .i64 (0)) := hX.cell 5
                  have y5 : wr.frozen? ⟨w.heap.size + 1, 5, none⟩ = false := hX.frozen 5
                  have r6 : wr.cell? ⟨w.heap.size, 6, none⟩ = some (.int .i64 0) := hR.cell 6
                  have z6 : wr.frozen? ⟨w.heap.size, 6, none⟩ = false := hR.frozen 6
                  have x6 : wr.cell? ⟨w.heap.size + 1, 6, none⟩ = some (.int .i64 (0)) := hX.cell 6
                  have y6 : wr.frozen? ⟨w.heap.size + 1, 6, none⟩ = false := hX.frozen 6
                  have r7 : wr.cell? ⟨w.heap.size, 7, none⟩ = some (.int .i64 0) := hR.cell 7
                  have z7 : wr.frozen? ⟨w.heap.size, 7, none⟩ = false := hR.frozen 7
                  have x7 : wr.cell? ⟨w.heap.size + 1, 7, none⟩ = some (.int .i64 (0)) := hX.cell 7
                  have y7 : wr.frozen? ⟨w.heap.size + 1, 7, none⟩ = false := hX.frozen 7
                  have HQ := Lib.hid (lelem_end (l := l) hR hb ⟨kk, baOf (Ly.wd Ws 1), 0, 0, 0, 0, 0, 0⟩ 2 (Ly.el_range HO.out hnt.out HS.out Hnw.out _))
                  clear hR hX hb own Hl C1 Hc dummy
                  go_wp2_with fail
                  obtain ⟨hB, hE⟩ := HQ.out
                  change bodyPost _ _ _ _ _ (store8 wr w.heap.size ⟨kk, baOf (Ly.wd Ws 1), 0, 0, 0, 0, 0, 0⟩)
                  generalize store8 wr w.heap.size ⟨kk, baOf (Ly.wd Ws 1), 0, 0, 0, 0, 0, 0⟩ = WW at hB hE ⊢
                  have q0 : WW.cell? ⟨w.heap.size, 0, none⟩ = some (.int .i64 (kk)) := hB.cell 0
                  have q1 : WW.cell? ⟨w.heap.size, 1, none⟩ = some (.string (baOf (Ly.wd Ws 1))) := hB.cell 1
                  have q2 : WW.cell? ⟨w.heap.size, 2, none⟩ = some (.int .i64 (0)) := hB.cell 2
                  have q3 : WW.cell? ⟨w.heap.size, 3, none⟩ = some (.int .i64 (0)) := hB.cell 3
                  have q4 : WW.cell? ⟨w.heap.size, 4, none⟩ = some (.int .i64 (0)) := hB.cell 4
                  have q5 : WW.cell? ⟨w.heap.size, 5, none⟩ = some (.int .i64 (0)) := hB.cell 5
                  have q6 : WW.cell? ⟨w.heap.size, 6, none⟩ = some (.int .i64 (0)) := hB.cell 6
                  have q7 : WW.cell? ⟨w.heap.size, 7, none⟩ = some (.int .i64 (0)) := hB.cell 7
                  exact bodyPost_ret (v := .tuple #[leV ⟨kk, baOf (Ly.wd Ws 1), 0, 0, 0, 0, 0, 0⟩, .int .i64 2]) (by simp [results, leV, Tryd.results51, go_sem, q0, q1, q2, q3, q4, q5, q6, q7]) rfl hE
        · have e1 : ((n : Int) != (Ly.wantW kk : Int)) = true := by simp; omega
          have HQ := Lib.hid (lelem_end (l := l) hR hb ⟨kk, ⟨#[]⟩, 0, 0, 0, 0, 0, 0⟩ 6 (Ly.el_count HO.out (by rw [HWn.out]; exact hnw) _))
          clear hR hX hb Hl HO
          go_wp2_with fail
          obtain ⟨hB, hE⟩ := HQ.out
          change bodyPost _ _ _ _ _ (store8 wc w.heap.size ⟨kk, ⟨#[]⟩, 0, 0, 0, 0, 0, 0⟩)
          generalize store8 wc w.heap.size ⟨kk, ⟨#[]⟩, 0, 0, 0, 0, 0, 0⟩ = WW at hB hE ⊢
          have q0 : WW.cell? ⟨w.heap.size, 0, none⟩ = some (.int .i64 (kk)) := hB.cell 0
          have q1 : WW.cell? ⟨w.heap.size, 1, none⟩ = some (.string (⟨#[]⟩)) := hB.cell 1
          have q2 : WW.cell? ⟨w.heap.size, 2, none⟩ = some (.int .i64 (0)) := hB.cell 2
          have q3 : WW.cell? ⟨w.heap.size, 3, none⟩ = some (.int .i64 (0)) := hB.cell 3
          have q4 : WW.cell? ⟨w.heap.size, 4, none⟩ = some (.int .i64 (0)) := hB.cell 4
          have q5 : WW.cell? ⟨w.heap.size, 5, none⟩ = some (.int .i64 (0)) := hB.cell 5
          have q6 : WW.cell? ⟨w.heap.size, 6, none⟩ = some (.int .i64 (0)) := hB.cell 6
          have q7 : WW.cell? ⟨w.heap.size, 7, none⟩ = some (.int .i64 (0)) := hB.cell 7
          exact bodyPost_ret (v := .tuple #[leV ⟨kk, ⟨#[]⟩, 0, 0, 0, 0, 0, 0⟩, .int .i64 6]) (by simp [results, leV, Tryd.results51, go_sem, q0, q1, q2, q3, q4, q5, q6, q7]) rfl hE
end Go.Proofs.YtmjdjcpmkdninaaDoor
