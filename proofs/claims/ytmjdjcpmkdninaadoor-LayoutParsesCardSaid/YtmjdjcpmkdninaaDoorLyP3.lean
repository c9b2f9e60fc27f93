/- The walk of layout's element (printed by wip/tools/mkle.py). -/
import Derived.Test.YtmjdjcpmkdninaaDoorLyP2
namespace Go.Proofs.YtmjdjcpmkdninaaDoor
open Go.RowKit
theorem below_drew2 {B : Nat} {a w : World} (h : Below B a w) : Below B a w.drew := ⟨h.os, h.tape, h.output, h.size, h.block⟩
theorem lelem_zero {l : List LE} {Ws : List (List UInt8)} {w W : World} (hb : Blk W w.heap.size 48 #[.int .i64 0, .string ⟨#[]⟩, .int .i64 0, .int .i64 0, .int .i64 0, .int .i64 0, .int .i64 0, .int .i64 0]) (hw : Below w.heap.size w W) (er : Int) (hq : LElemQ (Ly.elemB l Ws) ⟨0, ⟨#[]⟩, 0, 0, 0, 0, 0, 0⟩ er) :
    Blk W w.heap.size 48 #[.int .i64 0, .string ⟨#[]⟩, .int .i64 0, .int .i64 0, .int .i64 0, .int .i64 0, .int .i64 0, .int .i64 0] ∧ LElemR l Ws w (.returned (.tuple #[leV ⟨0, ⟨#[]⟩, 0, 0, 0, 0, 0, 0⟩, .int .i64 er])) W :=
  ⟨hb, _, er, rfl, hq, hw⟩
def LEI (w : World) (Ws : List (List UInt8)) (N : Nat) (k : Int) (vo vi : Value) (wr : World) : Prop := ∃ (t : Nat) (f : Nat → Int) (q : Bool), t ≤ N ∧ vi = .int .i64 t ∧ vo = .bool q ∧ Hid (Ly.NumS Ws t f q) ∧ Blk wr w.heap.size 48 #[.int .i64 0, .string ⟨#[]⟩, .int .i64 0, .int .i64 0, .int .i64 0, .int .i64 0, .int .i64 0, .int .i64 0] ∧ Blk wr (w.heap.size + 1) 48 #[.int .i64 k, .string (baOf (Ly.wd Ws 1)), .int .i64 (-1), .int .i64 0, .int .i64 0, .int .i64 0, .int .i64 0, .int .i64 0] ∧ ArrAt wr (w.heap.size + 1 + 1) 4 f ∧ Below w.heap.size w wr
set_option maxRecDepth 100000 in
set_option maxHeartbeats 4000000 in
theorem lelem_n (g n c b m B : Nat) (l : List LE) (Ws : List (List UInt8)) (w : World) (hn1 : 1 ≤ n) (hn2 : n ≤ 1000000) (own : w.ownsRow B 9 1 (.slice (some ⟨g, 0, none⟩) n c) n ((Ws.map baOf).map Value.string)) (hws : ∀ j, (baOf (Ly.wd Ws j)).size ≤ 1000000) (hM : MapO keyS 3 w b m (idxOf l)) (hok : ∀ x ∈ l, Pl.nameOk x.nm = true) (ho : Ly.kindOf (Ly.wd Ws 0) = none) :
    Calls Tryd.prog 35 #[.slice (some ⟨g, 0, none⟩) n c, .map (some b)] w (LElemR l Ws w) := by
  have hWn : Ws.length = n := by have := own.1; simpa using this
  have hnc : n ≤ c := by
    obtain ⟨A', cc, hv, hv1, _⟩ := own_form own
    injection hv with _ _ e1
    omega
  have hgl : g < w.heap.size := own_lt own g rfl
  have Hc := Lib.hid (fun j (hj : j < n) => own_wd own hj)
  have HWn := Lib.hid hWn
  have Hws := Lib.hid hws
  have Hok := Lib.hid hok
  have HM := Lib.hid hM
  clear own hWn hws hok hM
  have hb0 := Blk.new w 48 #[.int .i64 0, .string ⟨#[]⟩, .int .i64 0, .int .i64 0, .int .i64 0, .int .i64 0, .int .i64 0, .int .i64 0]
  have hw0 : Below w.heap.size w (w.alloc (.cells #[.int .i64 0, .string ⟨#[]⟩, .int .i64 0, .int .i64 0, .int .i64 0, .int .i64 0, .int .i64 0, .int .i64 0] 48)) := (Below.refl _ _).alloc (Nat.le_refl _) _
  have c0 := cell_alloc (Hc.out 0 hn1)
  have HK : Hid (∀ W : World, Calls Tryd.prog 46 #[.string (baOf (Ly.wd Ws 0))] W fun e w' => e = .returned (.tuple #[.int .i64 0, .bool false]) ∧ W = w') := Lib.hid (fun W => by
    have := lkind_c (baOf (Ly.wd Ws 0)) W
    rw [baOf_data, ho] at this
    exact this)
  have hn0i : (0 : Int) < (n : Int) := by omega
  go_enter Tryd.func35, Tryd.ntmps35
  go_wp2_with fail
  refine (HK.out _).mono ?_
  rintro e w1 ⟨rfl, rfl⟩
  clear HK
  have r0 : (w.alloc (.cells #[.int .i64 0, .string ⟨#[]⟩, .int .i64 0, .int .i64 0, .int .i64 0, .int .i64 0, .int .i64 0, .int .i64 0] 48)).cell? ⟨w.heap.size, 0, none⟩ = some (.int .i64 0) := hb0.cell 0
  have z0 : (w.alloc (.cells #[.int .i64 0, .string ⟨#[]⟩, .int .i64 0, .int .i64 0, .int .i64 0, .int .i64 0, .int .i64 0, .int .i64 0] 48)).frozen? ⟨w.heap.size, 0, none⟩ = false := hb0.frozen 0
  have r1 : (w.alloc (.cells #[.int .i64 0, .string ⟨#[]⟩, .int .i64 0, .int .i64 0, .int .i64 0, .int .i64 0, .int .i64 0, .int .i64 0] 48)).cell? ⟨w.heap.size, 1, none⟩ = some (.string ⟨#[]⟩) := hb0.cell 1
  have z1 : (w.alloc (.cells #[.int .i64 0, .string ⟨#[]⟩, .int .i64 0, .int .i64 0, .int .i64 0, .int .i64 0, .int .i64 0, .int .i64 0] 48)).frozen? ⟨w.heap.size, 1, none⟩ = false := hb0.frozen 1
  have r2 : (w.alloc (.cells #[.int .i64 0, .string ⟨#[]⟩, .int .i64 0, .int .i64 0, .int .i64 0, .int .i64 0, .int .i64 0, .int .i64 0] 48)).cell? ⟨w.heap.size, 2, none⟩ = some (.int .i64 0) := hb0.cell 2
  have z2 : (w.alloc (.cells #[.int .i64 0, .string ⟨#[]⟩, .int .i64 0, .int .i64 0, .int .i64 0, .int .i64 0, .int .i64 0, .int .i64 0] 48)).frozen? ⟨w.heap.size, 2, none⟩ = false := hb0.frozen 2
  have r3 : (w.alloc (.cells #[.int .i64 0, .string ⟨#[]⟩, .int .i64 0, .int .i64 0, .int .i64 0, .int .i64 0, .int .i64 0, .int .i64 0] 48)).cell? ⟨w.heap.size, 3, none⟩ = some (.int .i64 0) := hb0.cell 3
  have z3 : (w.alloc (.cells #[.int .i64 0, .string ⟨#[]⟩, .int .i64 0, .int .i64 0, .int .i64 0, .int .i64 0, .int .i64 0, .int .i64 0] 48)).frozen? ⟨w.heap.size, 3, none⟩ = false := hb0.frozen 3
  have r4 : (w.alloc (.cells #[.int .i64 0, .string ⟨#[]⟩, .int .i64 0, .int .i64 0, .int .i64 0, .int .i64 0, .int .i64 0, .int .i64 0] 48)).cell? ⟨w.heap.size, 4, none⟩ = some (.int .i64 0) := hb0.cell 4
  have z4 : (w.alloc (.cells #[.int .i64 0, .string ⟨#[]⟩, .int .i64 0, .int .i64 0, .int .i64 0, .int .i64 0, .int .i64 0, .int .i64 0] 48)).frozen? ⟨w.heap.size, 4, none⟩ = false := hb0.frozen 4
  have r5 : (w.alloc (.cells #[.int .i64 0, .string ⟨#[]⟩, .int .i64 0, .int .i64 0, .int .i64 0, .int .i64 0, .int .i64 0, .int .i64 0] 48)).cell? ⟨w.heap.size, 5, none⟩ = some (.int .i64 0) := hb0.cell 5
  have z5 : (w.alloc (.cells #[.int .i64 0, .string ⟨#[]⟩, .int .i64 0, .int .i64 0, .int .i64 0, .int .i64 0, .int .i64 0, .int .i64 0] 48)).frozen? ⟨w.heap.size, 5, none⟩ = false := hb0.frozen 5
  have r6 : (w.alloc (.cells #[.int .i64 0, .string ⟨#[]⟩, .int .i64 0, .int .i64 0, .int .i64 0, .int .i64 0, .int .i64 0, .int .i64 0] 48)).cell? ⟨w.heap.size, 6, none⟩ = some (.int .i64 0) := hb0.cell 6
  have z6 : (w.alloc (.cells #[.int .i64 0, .string ⟨#[]⟩, .int .i64 0, .int .i64 0, .int .i64 0, .int .i64 0, .int .i64 0, .int .i64 0] 48)).frozen? ⟨w.heap.size, 6, none⟩ = false := hb0.frozen 6
  have r7 : (w.alloc (.cells #[.int .i64 0, .string ⟨#[]⟩, .int .i64 0, .int .i64 0, .int .i64 0, .int .i64 0, .int .i64 0, .int .i64 0] 48)).cell? ⟨w.heap.size, 7, none⟩ = some (.int .i64 0) := hb0.cell 7
  have z7 : (w.alloc (.cells #[.int .i64 0, .string ⟨#[]⟩, .int .i64 0, .int .i64 0, .int .i64 0, .int .i64 0, .int .i64 0, .int .i64 0] 48)).frozen? ⟨w.heap.size, 7, none⟩ = false := hb0.frozen 7
  have HQ := Lib.hid (lelem_zero (l := l) hb0 hw0 6 (Ly.el_none ho _))
  clear ho hb0 hw0
  go_wp2_with fail
  obtain ⟨hB, hE⟩ := HQ.out
  generalize (w.alloc (.cells #[.int .i64 0, .string ⟨#[]⟩, .int .i64 0, .int .i64 0, .int .i64 0, .int .i64 0, .int .i64 0, .int .i64 0] 48)) = WW at hB hE ⊢
  have q0 : WW.cell? ⟨w.heap.size, 0, none⟩ = some (.int .i64 (0)) := hB.cell 0
  have q1 : WW.cell? ⟨w.heap.size, 1, none⟩ = some (.string (⟨#[]⟩)) := hB.cell 1
  have q2 : WW.cell? ⟨w.heap.size, 2, none⟩ = some (.int .i64 (0)) := hB.cell 2
  have q3 : WW.cell? ⟨w.heap.size, 3, none⟩ = some (.int .i64 (0)) := hB.cell 3
  have q4 : WW.cell? ⟨w.heap.size, 4, none⟩ = some (.int .i64 (0)) := hB.cell 4
  have q5 : WW.cell? ⟨w.heap.size, 5, none⟩ = some (.int .i64 (0)) := hB.cell 5
  have q6 : WW.cell? ⟨w.heap.size, 6, none⟩ = some (.int .i64 (0)) := hB.cell 6
  have q7 : WW.cell? ⟨w.heap.size, 7, none⟩ = some (.int .i64 (0)) := hB.cell 7
  exact bodyPost_ret (v := .tuple #[leV ⟨0, ⟨#[]⟩, 0, 0, 0, 0, 0, 0⟩, .int .i64 6]) (by simp [results, leV, Tryd.results35, go_sem, q0, q1, q2, q3, q4, q5, q6, q7]) rfl hE
set_option maxRecDepth 100000 in
set_option maxHeartbeats 4000000 in
theorem lelem_0 (g n c b m B : Nat) (l : List LE) (Ws : List (List UInt8)) (w : World) (hn1 : 1 ≤ n) (hn2 : n ≤ 1000000) (own : w.ownsRow B 9 1 (.slice (some ⟨g, 0, none⟩) n c) n ((Ws.map baOf).map Value.string)) (hws : ∀ j, (baOf (Ly.wd Ws j)).size ≤ 1000000) (hM : MapO keyS 3 w b m (idxOf l)) (hok : ∀ x ∈ l, Pl.nameOk x.nm = true) (ho : Ly.kindOf (Ly.wd Ws 0) = some 0) :
    Calls Tryd.prog 35 #[.slice (some ⟨g, 0, none⟩) n c, .map (some b)] w (LElemR l Ws w) := by
  have hWn : Ws.length = n := by have := own.1; simpa using this
  have hnc : n ≤ c := by
    obtain ⟨A', cc, hv, hv1, _⟩ := own_form own
    injection hv with _ _ e1
    omega
  have hgl : g < w.heap.size := own_lt own g rfl
  have Hc := Lib.hid (fun j (hj : j < n) => own_wd own hj)
  have HWn := Lib.hid hWn
  have Hws := Lib.hid hws
  have Hok := Lib.hid hok
  have HM := Lib.hid hM
  clear own hWn hws hok hM
  have hb0 := Blk.new w 48 #[.int .i64 0, .string ⟨#[]⟩, .int .i64 0, .int .i64 0, .int .i64 0, .int .i64 0, .int .i64 0, .int .i64 0]
  have hw0 : Below w.heap.size w (w.alloc (.cells #[.int .i64 0, .string ⟨#[]⟩, .int .i64 0, .int .i64 0, .int .i64 0, .int .i64 0, .int .i64 0, .int .i64 0] 48)) := (Below.refl _ _).alloc (Nat.le_refl _) _
  have c0 := cell_alloc (Hc.out 0 hn1)
  have HK : Hid (∀ W : World, Calls Tryd.prog 46 #[.string (baOf (Ly.wd Ws 0))] W fun e w' => e = .returned (.tuple #[.int .i64 0, .bool true]) ∧ W = w') := Lib.hid (fun W => by
    have := lkind_c (baOf (Ly.wd Ws 0)) W
    rw [baOf_data, ho] at this
    exact this)
  have hn0i : (0 : Int) < (n : Int) := by omega
  go_enter Tryd.func35, Tryd.ntmps35
  go_wp2_with fail
  refine (HK.out _).mono ?_
  rintro e w1 ⟨rfl, rfl⟩
  clear HK
  have r0 : (w.alloc (.cells #[.int .i64 0, .string ⟨#[]⟩, .int .i64 0, .int .i64 0, .int .i64 0, .int .i64 0, .int .i64 0, .int .i64 0] 48)).cell? ⟨w.heap.size, 0, none⟩ = some (.int .i64 0) := hb0.cell 0
  have z0 : (w.alloc (.cells #[.int .i64 0, .string ⟨#[]⟩, .int .i64 0, .int .i64 0, .int .i64 0, .int .i64 0, .int .i64 0, .int .i64 0] 48)).frozen? ⟨w.heap.size, 0, none⟩ = false := hb0.frozen 0
  have r1 : (w.alloc (.cells #[.int .i64 0, .string ⟨#[]⟩, .int .i64 0, .int .i64 0, .int .i64 0, .int .i64 0, .int .i64 0, .int .i64 0] 48)).cell? ⟨w.heap.size, 1, none⟩ = some (.string ⟨#[]⟩) := hb0.cell 1
  have z1 : (w.alloc (.cells #[.int .i64 0, .string ⟨#[]⟩, .int .i64 0, .int .i64 0, .int .i64 0, .int .i64 0, .int .i64 0, .int .i64 0] 48)).frozen? ⟨w.heap.size, 1, none⟩ = false := hb0.frozen 1
  have r2 : (w.alloc (.cells #[.int .i64 0, .string ⟨#[]⟩, .int .i64 0, .int .i64 0, .int .i64 0, .int .i64 0, .int .i64 0, .int .i64 0] 48)).cell? ⟨w.heap.size, 2, none⟩ = some (.int .i64 0) := hb0.cell 2
  have z2 : (w.alloc (.cells #[.int .i64 0, .string ⟨#[]⟩, .int .i64 0, .int .i64 0, .int .i64 0, .int .i64 0, .int .i64 0, .int .i64 0] 48)).frozen? ⟨w.heap.size, 2, none⟩ = false := hb0.frozen 2
  have r3 : (w.alloc (.cells #[.int .i64 0, .string ⟨#[]⟩, .int .i64 0, .int .i64 0, .int .i64 0, .int .i64 0, .int .i64 0, .int .i64 0] 48)).cell? ⟨w.heap.size, 3, none⟩ = some (.int .i64 0) := hb0.cell 3
  have z3 : (w.alloc (.cells #[.int .i64 0, .string ⟨#[]⟩, .int .i64 0, .int .i64 0, .int .i64 0, .int .i64 0, .int .i64 0, .int .i64 0] 48)).frozen? ⟨w.heap.size, 3, none⟩ = false := hb0.frozen 3
  have r4 : (w.alloc (.cells #[.int .i64 0, .string ⟨#[]⟩, .int .i64 0, .int .i64 0, .int .i64 0, .int .i64 0, .int .i64 0, .int .i64 0] 48)).cell? ⟨w.heap.size, 4, none⟩ = some (.int .i64 0) := hb0.cell 4
  have z4 : (w.alloc (.cells #[.int .i64 0, .string ⟨#[]⟩, .int .i64 0, .int .i64 0, .int .i64 0, .int .i64 0, .int .i64 0, .int .i64 0] 48)).frozen? ⟨w.heap.size, 4, none⟩ = false := hb0.frozen 4
  have r5 : (w.alloc (.cells #[.int .i64 0, .string ⟨#[]⟩, .int .i64 0, .int .i64 0, .int .i64 0, .int .i64 0, .int .i64 0, .int .i64 0] 48)).cell? ⟨w.heap.size, 5, none⟩ = some (.int .i64 0) := hb0.cell 5
  have z5 : (w.alloc (.cells #[.int .i64 0, .string ⟨#[]⟩, .int .i64 0, .int .i64 0, .int .i64 0, .int .i64 0, .int .i64 0, .int .i64 0] 48)).frozen? ⟨w.heap.size, 5, none⟩ = false := hb0.frozen 5
  have r6 : (w.alloc (.cells #[.int .i64 0, .string ⟨#[]⟩, .int .i64 0, .int .i64 0, .int .i64 0, .int .i64 0, .int .i64 0, .int .i64 0] 48)).cell? ⟨w.heap.size, 6, none⟩ = some (.int .i64 0) := hb0.cell 6
  have z6 : (w.alloc (.cells #[.int .i64 0, .string ⟨#[]⟩, .int .i64 0, .int .i64 0, .int .i64 0, .int .i64 0, .int .i64 0, .int .i64 0] 48)).frozen? ⟨w.heap.size, 6, none⟩ = false := hb0.frozen 6
  have r7 : (w.alloc (.cells #[.int .i64 0, .string ⟨#[]⟩, .int .i64 0, .int .i64 0, .int .i64 0, .int .i64 0, .int .i64 0, .int .i64 0] 48)).cell? ⟨w.heap.size, 7, none⟩ = some (.int .i64 0) := hb0.cell 7
  have z7 : (w.alloc (.cells #[.int .i64 0, .string ⟨#[]⟩, .int .i64 0, .int .i64 0, .int .i64 0, .int .i64 0, .int .i64 0, .int .i64 0] 48)).frozen? ⟨w.heap.size, 7, none⟩ = false := hb0.frozen 7
  have Ho := Lib.hid ho
  clear ho
  have Hw := Lib.hid (show Ly.wantW 0 = 2 from rfl)
  by_cases hnw : n = 2
  case neg =>
    have d1 : ((n : Int) != 2) = true := by simp; omega
    have HQ := Lib.hid (lelem_zero (l := l) hb0 hw0 6 (Ly.el_count Ho.out (by rw [HWn.out, Hw.out]; exact hnw) _))
    clear hb0 hw0 hnw
    go_wp2_with fail
    obtain ⟨hB, hE⟩ := HQ.out
    generalize (w.alloc (.cells #[.int .i64 0, .string ⟨#[]⟩, .int .i64 0, .int .i64 0, .int .i64 0, .int .i64 0, .int .i64 0, .int .i64 0] 48)) = WW at hB hE ⊢
    have q0 : WW.cell? ⟨w.heap.size, 0, none⟩ = some (.int .i64 (0)) := hB.cell 0
    have q1 : WW.cell? ⟨w.heap.size, 1, none⟩ = some (.string (⟨#[]⟩)) := hB.cell 1
    have q2 : WW.cell? ⟨w.heap.size, 2, none⟩ = some (.int .i64 (0)) := hB.cell 2
    have q3 : WW.cell? ⟨w.heap.size, 3, none⟩ = some (.int .i64 (0)) := hB.cell 3
    have q4 : WW.cell? ⟨w.heap.size, 4, none⟩ = some (.int .i64 (0)) := hB.cell 4
    have q5 : WW.cell? ⟨w.heap.size, 5, none⟩ = some (.int .i64 (0)) := hB.cell 5
    have q6 : WW.cell? ⟨w.heap.size, 6, none⟩ = some (.int .i64 (0)) := hB.cell 6
    have q7 : WW.cell? ⟨w.heap.size, 7, none⟩ = some (.int .i64 (0)) := hB.cell 7
    exact bodyPost_ret (v := .tuple #[leV ⟨0, ⟨#[]⟩, 0, 0, 0, 0, 0, 0⟩, .int .i64 6]) (by simp [results, leV, Tryd.results35, go_sem, q0, q1, q2, q3, q4, q5, q6, q7]) rfl hE
  case pos =>
    subst hnw
    have Hnw := Lib.hid (show Ws.length = Ly.wantW 0 by rw [HWn.out, Hw.out])
    have d1 : ((2 : Int) != 2) = false := rfl
    have c1 := cell_alloc (Hc.out 1 (by omega))
    have hb2 := ((hb0.alloc (.cells #[.int .i64 0, .string (baOf (Ly.wd Ws 1)), .int .i64 (-1), .int .i64 0, .int .i64 0, .int .i64 0, .int .i64 0, .int .i64 0] 48)).alloc (.cells #[.int .i64 0, .int .i64 0, .int .i64 0, .int .i64 0] 84))
    have hx2 := (Blk.new (w.alloc (.cells #[.int .i64 0, .string ⟨#[]⟩, .int .i64 0, .int .i64 0, .int .i64 0, .int .i64 0, .int .i64 0, .int .i64 0] 48)) 48 #[.int .i64 0, .string (baOf (Ly.wd Ws 1)), .int .i64 (-1), .int .i64 0, .int .i64 0, .int .i64 0, .int .i64 0, .int .i64 0]).alloc (.cells #[.int .i64 0, .int .i64 0, .int .i64 0, .int .i64 0] 84)
    have hN2 := zeros_at ((w.alloc (.cells #[.int .i64 0, .string ⟨#[]⟩, .int .i64 0, .int .i64 0, .int .i64 0, .int .i64 0, .int .i64 0, .int .i64 0] 48)).alloc (.cells #[.int .i64 0, .string (baOf (Ly.wd Ws 1)), .int .i64 (-1), .int .i64 0, .int .i64 0, .int .i64 0, .int .i64 0, .int .i64 0] 48)) 84 4 #[.int .i64 0, .int .i64 0, .int .i64 0, .int .i64 0] rfl
    have hw2 : Below w.heap.size w (((w.alloc (.cells #[.int .i64 0, .string ⟨#[]⟩, .int .i64 0, .int .i64 0, .int .i64 0, .int .i64 0, .int .i64 0, .int .i64 0] 48)).alloc (.cells #[.int .i64 0, .string (baOf (Ly.wd Ws 1)), .int .i64 (-1), .int .i64 0, .int .i64 0, .int .i64 0, .int .i64 0, .int .i64 0] 48)).alloc (.cells #[.int .i64 0, .int .i64 0, .int .i64 0, .int .i64 0] 84)) := (hw0.alloc (by simp) _).alloc (by simp; omega) _
    have hz1 : (w.alloc (.cells #[.int .i64 0, .string ⟨#[]⟩, .int .i64 0, .int .i64 0, .int .i64 0, .int .i64 0, .int .i64 0, .int .i64 0] 48)).heap.size = w.heap.size + 1 := by simp
    have hz2 : ((w.alloc (.cells #[.int .i64 0, .string ⟨#[]⟩, .int .i64 0, .int .i64 0, .int .i64 0, .int .i64 0, .int .i64 0, .int .i64 0] 48)).alloc (.cells #[.int .i64 0, .string (baOf (Ly.wd Ws 1)), .int .i64 (-1), .int .i64 0, .int .i64 0, .int .i64 0, .int .i64 0, .int .i64 0] 48)).heap.size = w.heap.size + 1 + 1 := by simp
    rw [hz1] at hx2
    rw [hz2] at hN2
    clear hz1 hz2
    clear hb0 hw0
    clear r0 z0 r1 z1 r2 z2 r3 z3 r4 z4 r5 z5 r6 z6 r7 z7
    obtain ⟨A4, hA4⟩ : ∃ A4, (if c = 2 then some (⟨g, 0, none⟩ : Addr) else some ⟨g, 2, none⟩) = A4 := ⟨_, rfl⟩
    have hmin : (min 3 2 : Int) = 2 := rfl
    go_wp2_with fail
    go_loopw [11, 48] (fun vo vi wr => LEI w Ws 0 0 vo vi wr) (fun _ vi _ => 0 + 1 - (intOf vi).toNat)
    case atStart => exact (show LEI _ _ _ _ _ _ _ from ⟨0, _, false, by omega, rfl, rfl, Lib.hid Ly.NumS.start, hb2, hx2, hN2, hw2⟩)
    case round =>
      obtain ⟨t, f, q, ht, rfl, rfl, HS, hb3, hx3, hN3, hw3⟩ := hrel
      have hMr := HM.out.below hw3
      have hszr := hN3.1
      have r0 : wr.cell? ⟨w.heap.size, 0, none⟩ = some (.int .i64 0) := hb3.cell 0
      have z0 : wr.frozen? ⟨w.heap.size, 0, none⟩ = false := hb3.frozen 0
      have r1 : wr.cell? ⟨w.heap.size, 1, none⟩ = some (.string ⟨#[]⟩) := hb3.cell 1
      have z1 : wr.frozen? ⟨w.heap.size, 1, none⟩ = false := hb3.frozen 1
      have r2 : wr.cell? ⟨w.heap.size, 2, none⟩ = some (.int .i64 0) := hb3.cell 2
      have z2 : wr.frozen? ⟨w.heap.size, 2, none⟩ = false := hb3.frozen 2
      have r3 : wr.cell? ⟨w.heap.size, 3, none⟩ = some (.int .i64 0) := hb3.cell 3
      have z3 : wr.frozen? ⟨w.heap.size, 3, none⟩ = false := hb3.frozen 3
      have r4 : wr.cell? ⟨w.heap.size, 4, none⟩ = some (.int .i64 0) := hb3.cell 4
      have z4 : wr.frozen? ⟨w.heap.size, 4, none⟩ = false := hb3.frozen 4
      have r5 : wr.cell? ⟨w.heap.size, 5, none⟩ = some (.int .i64 0) := hb3.cell 5
      have z5 : wr.frozen? ⟨w.heap.size, 5, none⟩ = false := hb3.frozen 5
      have r6 : wr.cell? ⟨w.heap.size, 6, none⟩ = some (.int .i64 0) := hb3.cell 6
      have z6 : wr.frozen? ⟨w.heap.size, 6, none⟩ = false := hb3.frozen 6
      have r7 : wr.cell? ⟨w.heap.size, 7, none⟩ = some (.int .i64 0) := hb3.cell 7
      have z7 : wr.frozen? ⟨w.heap.size, 7, none⟩ = false := hb3.frozen 7
      have x0 : wr.cell? ⟨w.heap.size + 1, 0, none⟩ = some (.int .i64 0) := hx3.cell 0
      have y0 : wr.frozen? ⟨w.heap.size + 1, 0, none⟩ = false := hx3.frozen 0
      have x1 : wr.cell? ⟨w.heap.size + 1, 1, none⟩ = some (.string (baOf (Ly.wd Ws 1))) := hx3.cell 1
      have y1 : wr.frozen? ⟨w.heap.size + 1, 1, none⟩ = false := hx3.frozen 1
      have x2 : wr.cell? ⟨w.heap.size + 1, 2, none⟩ = some (.int .i64 (-1)) := hx3.cell 2
      have y2 : wr.frozen? ⟨w.heap.size + 1, 2, none⟩ = false := hx3.frozen 2
      have x3 : wr.cell? ⟨w.heap.size + 1, 3, none⟩ = some (.int .i64 0) := hx3.cell 3
      have y3 : wr.frozen? ⟨w.heap.size + 1, 3, none⟩ = false := hx3.frozen 3
      have x4 : wr.cell? ⟨w.heap.size + 1, 4, none⟩ = some (.int .i64 0) := hx3.cell 4
      have y4 : wr.frozen? ⟨w.heap.size + 1, 4, none⟩ = false := hx3.frozen 4
      have x5 : wr.cell? ⟨w.heap.size + 1, 5, none⟩ = some (.int .i64 0) := hx3.cell 5
      have y5 : wr.frozen? ⟨w.heap.size + 1, 5, none⟩ = false := hx3.frozen 5
      have x6 : wr.cell? ⟨w.heap.size + 1, 6, none⟩ = some (.int .i64 0) := hx3.cell 6
      have y6 : wr.frozen? ⟨w.heap.size + 1, 6, none⟩ = false := hx3.frozen 6
      have x7 : wr.cell? ⟨w.heap.size + 1, 7, none⟩ = some (.int .i64 0) := hx3.cell 7
      have y7 : wr.frozen? ⟨w.heap.size + 1, 7, none⟩ = false := hx3.frozen 7
      obtain rfl : t = 0 := by omega
      have hqf : q = false := by
        cases q
        · rfl
        · obtain ⟨j, hj, _⟩ := HS.out.2.2.1 rfl
          omega
      subst hqf
      obtain ⟨nb, hnb⟩ : ∃ nb, Pl.nameOk (baOf (Ly.wd Ws 1)) = nb := ⟨_, rfl⟩
      have Hnb := Lib.hid hnb
      have HNm : Hid (∀ W : World, Calls Tryd.prog 44 #[.string (baOf (Ly.wd Ws 1))] W fun e w' => e = .returned (.bool nb) ∧ W = w') := Lib.hid (fun W => by
        have := name_c (baOf (Ly.wd Ws 1)) W (by have := Hws.out 1; unfold maxLen; omega)
        rw [hnb] at this
        exact this)
      clear hnb
      go_wp2_with fail
      refine (HNm.out _).mono ?_
      rintro e w4 ⟨rfl, rfl⟩
      clear HNm
      cases nb
      case false =>
        have HQ := Lib.hid (lelem_end (l := l) hb3 hw3 ⟨0, ⟨#[]⟩, 0, 0, 0, 0, 0, 0⟩ 7 (Ly.el_name Ho.out Hnw.out HS.out (by rw [HWn.out]; omega) Hnb.out _))
        clear hb3 hx3 hN3 hw3 hMr
        go_wp2_with fail
        obtain ⟨hB, hE⟩ := HQ.out
        change bodyPost _ _ _ _ _ (store8 wr w.heap.size ⟨0, ⟨#[]⟩, 0, 0, 0, 0, 0, 0⟩)
        generalize store8 wr w.heap.size ⟨0, ⟨#[]⟩, 0, 0, 0, 0, 0, 0⟩ = WW at hB hE ⊢
        have q0 : WW.cell? ⟨w.heap.size, 0, none⟩ = some (.int .i64 (0)) := hB.cell 0
        have q1 : WW.cell? ⟨w.heap.size, 1, none⟩ = some (.string (⟨#[]⟩)) := hB.cell 1
        have q2 : WW.cell? ⟨w.heap.size, 2, none⟩ = some (.int .i64 (0)) := hB.cell 2
        have q3 : WW.cell? ⟨w.heap.size, 3, none⟩ = some (.int .i64 (0)) := hB.cell 3
        have q4 : WW.cell? ⟨w.heap.size, 4, none⟩ = some (.int .i64 (0)) := hB.cell 4
        have q5 : WW.cell? ⟨w.heap.size, 5, none⟩ = some (.int .i64 (0)) := hB.cell 5
        have q6 : WW.cell? ⟨w.heap.size, 6, none⟩ = some (.int .i64 (0)) := hB.cell 6
        have q7 : WW.cell? ⟨w.heap.size, 7, none⟩ = some (.int .i64 (0)) := hB.cell 7
        exact bodyPost_ret (v := .tuple #[leV ⟨0, ⟨#[]⟩, 0, 0, 0, 0, 0, 0⟩, .int .i64 7]) (by simp [results, leV, Tryd.results35, go_sem, q0, q1, q2, q3, q4, q5, q6, q7]) rfl hE
      case true =>
        have HQ := Lib.hid (lelem_end (l := l) hb3 hw3 ⟨0, baOf (Ly.wd Ws 1), -1, 0, 0, 0, 0, 0⟩ 0 (Ly.el_crest Ho.out (by rw [HWn.out]) Hnb.out))
        clear hb3 hx3 hN3 hw3 hMr
        go_wp2_with fail
        obtain ⟨hB, hE⟩ := HQ.out
        change bodyPost _ _ _ _ _ (store8 wr w.heap.size ⟨0, baOf (Ly.wd Ws 1), -1, 0, 0, 0, 0, 0⟩)
        generalize store8 wr w.heap.size ⟨0, baOf (Ly.wd Ws 1), -1, 0, 0, 0, 0, 0⟩ = WW at hB hE ⊢
        have q0 : WW.cell? ⟨w.heap.size, 0, none⟩ = some (.int .i64 (0)) := hB.cell 0
        have q1 : WW.cell? ⟨w.heap.size, 1, none⟩ = some (.string (baOf (Ly.wd Ws 1))) := hB.cell 1
        have q2 : WW.cell? ⟨w.heap.size, 2, none⟩ = some (.int .i64 (-1)) := hB.cell 2
        have q3 : WW.cell? ⟨w.heap.size, 3, none⟩ = some (.int .i64 (0)) := hB.cell 3
        have q4 : WW.cell? ⟨w.heap.size, 4, none⟩ = some (.int .i64 (0)) := hB.cell 4
        have q5 : WW.cell? ⟨w.heap.size, 5, none⟩ = some (.int .i64 (0)) := hB.cell 5
        have q6 : WW.cell? ⟨w.heap.size, 6, none⟩ = some (.int .i64 (0)) := hB.cell 6
        have q7 : WW.cell? ⟨w.heap.size, 7, none⟩ = some (.int .i64 (0)) := hB.cell 7
        exact bodyPost_ret (v := .tuple #[leV ⟨0, baOf (Ly.wd Ws 1), -1, 0, 0, 0, 0, 0⟩, .int .i64 0]) (by simp [results, leV, Tryd.results35, go_sem, q0, q1, q2, q3, q4, q5, q6, q7]) rfl hE
set_option maxRecDepth 100000 in
set_option maxHeartbeats 4000000 in
theorem lelem_2 (g n c b m B : Nat) (l : List LE) (Ws : List (List UInt8)) (w : World) (hn1 : 1 ≤ n) (hn2 : n ≤ 1000000) (own : w.ownsRow B 9 1 (.slice (some ⟨g, 0, none⟩) n c) n ((Ws.map baOf).map Value.string)) (hws : ∀ j, (baOf (Ly.wd Ws j)).size ≤ 1000000) (hM : MapO keyS 3 w b m (idxOf l)) (hok : ∀ x ∈ l, Pl.nameOk x.nm = true) (ho : Ly.kindOf (Ly.wd Ws 0) = some 2) :
    Calls Tryd.prog 35 #[.slice (some ⟨g, 0, none⟩) n c, .map (some b)] w (LElemR l Ws w) := by
  have hWn : Ws.length = n := by have := own.1; simpa using this
  have hnc : n ≤ c := by
    obtain ⟨A', cc, hv, hv1, _⟩ := own_form own
    injection hv with _ _ e1
    omega
  have hgl : g < w.heap.size := own_lt own g rfl
  have Hc := Lib.hid (fun j (hj : j < n) => own_wd own hj)
  have HWn := Lib.hid hWn
  have Hws := Lib.hid hws
  have Hok := Lib.hid hok
  have HM := Lib.hid hM
  clear own hWn hws hok hM
  have hb0 := Blk.new w 48 #[.int .i64 0, .string ⟨#[]⟩, .int .i64 0, .int .i64 0, .int .i64 0, .int .i64 0, .int .i64 0, .int .i64 0]
  have hw0 : Below w.heap.size w (w.alloc (.cells #[.int .i64 0, .string ⟨#[]⟩, .int .i64 0, .int .i64 0, .int .i64 0, .int .i64 0, .int .i64 0, .int .i64 0] 48)) := (Below.refl _ _).alloc (Nat.le_refl _) _
  have c0 := cell_alloc (Hc.out 0 hn1)
  have HK : Hid (∀ W : World, Calls Tryd.prog 46 #[.string (baOf (Ly.wd Ws 0))] W fun e w' => e = .returned (.tuple #[.int .i64 2, .bool true]) ∧ W = w') := Lib.hid (fun W => by
    have := lkind_c (baOf (Ly.wd Ws 0)) W
    rw [baOf_data, ho] at this
    exact this)
  have hn0i : (0 : Int) < (n : Int) := by omega
  go_enter Tryd.func35, Tryd.ntmps35
  go_wp2_with fail
  refine (HK.out _).mono ?_
  rintro e w1 ⟨rfl, rfl⟩
  clear HK
  have r0 : (w.alloc (.cells #[.int .i64 0, .string ⟨#[]⟩, .int .i64 0, .int .i64 0, .int .i64 0, .int .i64 0, .int .i64 0, .int .i64 0] 48)).cell? ⟨w.heap.size, 0, none⟩ = some (.int .i64 0) := hb0.cell 0
  have z0 : (w.alloc (.cells #[.int .i64 0, .string ⟨#[]⟩, .int .i64 0, .int .i64 0, .int .i64 0, .int .i64 0, .int .i64 0, .int .i64 0] 48)).frozen? ⟨w.heap.size, 0, none⟩ = false := hb0.frozen 0
  have r1 : (w.alloc (.cells #[.int .i64 0, .string ⟨#[]⟩, .int .i64 0, .int .i64 0, .int .i64 0, .int .i64 0, .int .i64 0, .int .i64 0] 48)).cell? ⟨w.heap.size, 1, none⟩ = some (.string ⟨#[]⟩) := hb0.cell 1
  have z1 : (w.alloc (.cells #[.int .i64 0, .string ⟨#[]⟩, .int .i64 0, .int .i64 0, .int .i64 0, .int .i64 0, .int .i64 0, .int .i64 0] 48)).frozen? ⟨w.heap.size, 1, none⟩ = false := hb0.frozen 1
  have r2 : (w.alloc (.cells #[.int .i64 0, .string ⟨#[]⟩, .int .i64 0, .int .i64 0, .int .i64 0, .int .i64 0, .int .i64 0, .int .i64 0] 48)).cell? ⟨w.heap.size, 2, none⟩ = some (.int .i64 0) := hb0.cell 2
  have z2 : (w.alloc (.cells #[.int .i64 0, .string ⟨#[]⟩, .int .i64 0, .int .i64 0, .int .i64 0, .int .i64 0, .int .i64 0, .int .i64 0] 48)).frozen? ⟨w.heap.size, 2, none⟩ = false := hb0.frozen 2
  have r3 : (w.alloc (.cells #[.int .i64 0, .string ⟨#[]⟩, .int .i64 0, .int .i64 0, .int .i64 0, .int .i64 0, .int .i64 0, .int .i64 0] 48)).cell? ⟨w.heap.size, 3, none⟩ = some (.int .i64 0) := hb0.cell 3
  have z3 : (w.alloc (.cells #[.int .i64 0, .string ⟨#[]⟩, .int .i64 0, .int .i64 0, .int .i64 0, .int .i64 0, .int .i64 0, .int .i64 0] 48)).frozen? ⟨w.heap.size, 3, none⟩ = false := hb0.frozen 3
  have r4 : (w.alloc (.cells #[.int .i64 0, .string ⟨#[]⟩, .int .i64 0, .int .i64 0, .int .i64 0, .int .i64 0, .int .i64 0, .int .i64 0] 48)).cell? ⟨w.heap.size, 4, none⟩ = some (.int .i64 0) := hb0.cell 4
  have z4 : (w.alloc (.cells #[.int .i64 0, .string ⟨#[]⟩, .int .i64 0, .int .i64 0, .int .i64 0, .int .i64 0, .int .i64 0, .int .i64 0] 48)).frozen? ⟨w.heap.size, 4, none⟩ = false := hb0.frozen 4
  have r5 : (w.alloc (.cells #[.int .i64 0, .string ⟨#[]⟩, .int .i64 0, .int .i64 0, .int .i64 0, .int .i64 0, .int .i64 0, .int .i64 0] 48)).cell? ⟨w.heap.size, 5, none⟩ = some (.int .i64 0) := hb0.cell 5
  have z5 : (w.alloc (.cells #[.int .i64 0, .string ⟨#[]⟩, .int .i64 0, .int .i64 0, .int .i64 0, .int .i64 0, .int .i64 0, .int .i64 0] 48)).frozen? ⟨w.heap.size, 5, none⟩ = false := hb0.frozen 5
  have r6 : (w.alloc (.cells #[.int .i64 0, .string ⟨#[]⟩, .int .i64 0, .int .i64 0, .int .i64 0, .int .i64 0, .int .i64 0, .int .i64 0] 48)).cell? ⟨w.heap.size, 6, none⟩ = some (.int .i64 0) := hb0.cell 6
  have z6 : (w.alloc (.cells #[.int .i64 0, .string ⟨#[]⟩, .int .i64 0, .int .i64 0, .int .i64 0, .int .i64 0, .int .i64 0, .int .i64 0] 48)).frozen? ⟨w.heap.size, 6, none⟩ = false := hb0.frozen 6
  have r7 : (w.alloc (.cells #[.int .i64 0, .string ⟨#[]⟩, .int .i64 0, .int .i64 0, .int .i64 0, .int .i64 0, .int .i64 0, .int .i64 0] 48)).cell? ⟨w.heap.size, 7, none⟩ = some (.int .i64 0) := hb0.cell 7
  have z7 : (w.alloc (.cells #[.int .i64 0, .string ⟨#[]⟩, .int .i64 0, .int .i64 0, .int .i64 0, .int .i64 0, .int .i64 0, .int .i64 0] 48)).frozen? ⟨w.heap.size, 7, none⟩ = false := hb0.frozen 7
  have Ho := Lib.hid ho
  clear ho
  have Hw := Lib.hid (show Ly.wantW 2 = 7 from rfl)
  by_cases hnw : n = 7
  case neg =>
    have d1 : ((n : Int) != 7) = true := by simp; omega
    have HQ := Lib.hid (lelem_zero (l := l) hb0 hw0 6 (Ly.el_count Ho.out (by rw [HWn.out, Hw.out]; exact hnw) _))
    clear hb0 hw0 hnw
    go_wp2_with fail
    obtain ⟨hB, hE⟩ := HQ.out
    generalize (w.alloc (.cells #[.int .i64 0, .string ⟨#[]⟩, .int .i64 0, .int .i64 0, .int .i64 0, .int .i64 0, .int .i64 0, .int .i64 0] 48)) = WW at hB hE ⊢
    have q0 : WW.cell? ⟨w.heap.size, 0, none⟩ = some (.int .i64 (0)) := hB.cell 0
    have q1 : WW.cell? ⟨w.heap.size, 1, none⟩ = some (.string (⟨#[]⟩)) := hB.cell 1
    have q2 : WW.cell? ⟨w.heap.size, 2, none⟩ = some (.int .i64 (0)) := hB.cell 2
    have q3 : WW.cell? ⟨w.heap.size, 3, none⟩ = some (.int .i64 (0)) := hB.cell 3
    have q4 : WW.cell? ⟨w.heap.size, 4, none⟩ = some (.int .i64 (0)) := hB.cell 4
    have q5 : WW.cell? ⟨w.heap.size, 5, none⟩ = some (.int .i64 (0)) := hB.cell 5
    have q6 : WW.cell? ⟨w.heap.size, 6, none⟩ = some (.int .i64 (0)) := hB.cell 6
    have q7 : WW.cell? ⟨w.heap.size, 7, none⟩ = some (.int .i64 (0)) := hB.cell 7
    exact bodyPost_ret (v := .tuple #[leV ⟨0, ⟨#[]⟩, 0, 0, 0, 0, 0, 0⟩, .int .i64 6]) (by simp [results, leV, Tryd.results35, go_sem, q0, q1, q2, q3, q4, q5, q6, q7]) rfl hE
  case pos =>
    subst hnw
    have Hnw := Lib.hid (show Ws.length = Ly.wantW 2 by rw [HWn.out, Hw.out])
    have d1 : ((7 : Int) != 7) = false := rfl
    have c1 := cell_alloc (Hc.out 1 (by omega))
    have hb2 := ((hb0.alloc (.cells #[.int .i64 2, .string (baOf (Ly.wd Ws 1)), .int .i64 (-1), .int .i64 0, .int .i64 0, .int .i64 0, .int .i64 0, .int .i64 0] 48)).alloc (.cells #[.int .i64 0, .int .i64 0, .int .i64 0, .int .i64 0] 84))
    have hx2 := (Blk.new (w.alloc (.cells #[.int .i64 0, .string ⟨#[]⟩, .int .i64 0, .int .i64 0, .int .i64 0, .int .i64 0, .int .i64 0, .int .i64 0] 48)) 48 #[.int .i64 2, .string (baOf (Ly.wd Ws 1)), .int .i64 (-1), .int .i64 0, .int .i64 0, .int .i64 0, .int .i64 0, .int .i64 0]).alloc (.cells #[.int .i64 0, .int .i64 0, .int .i64 0, .int .i64 0] 84)
    have hN2 := zeros_at ((w.alloc (.cells #[.int .i64 0, .string ⟨#[]⟩, .int .i64 0, .int .i64 0, .int .i64 0, .int .i64 0, .int .i64 0, .int .i64 0] 48)).alloc (.cells #[.int .i64 2, .string (baOf (Ly.wd Ws 1)), .int .i64 (-1), .int .i64 0, .int .i64 0, .int .i64 0, .int .i64 0, .int .i64 0] 48)) 84 4 #[.int .i64 0, .int .i64 0, .int .i64 0, .int .i64 0] rfl
    have hw2 : Below w.heap.size w (((w.alloc (.cells #[.int .i64 0, .string ⟨#[]⟩, .int .i64 0, .int .i64 0, .int .i64 0, .int .i64 0, .int .i64 0, .int .i64 0] 48)).alloc (.cells #[.int .i64 2, .string (baOf (Ly.wd Ws 1)), .int .i64 (-1), .int .i64 0, .int .i64 0, .int .i64 0, .int .i64 0, .int .i64 0] 48)).alloc (.cells #[.int .i64 0, .int .i64 0, .int .i64 0, .int .i64 0] 84)) := (hw0.alloc (by simp) _).alloc (by simp; omega) _
    have hz1 : (w.alloc (.cells #[.int .i64 0, .string ⟨#[]⟩, .int .i64 0, .int .i64 0, .int .i64 0, .int .i64 0, .int .i64 0, .int .i64 0] 48)).heap.size = w.heap.size + 1 := by simp
    have hz2 : ((w.alloc (.cells #[.int .i64 0, .string ⟨#[]⟩, .int .i64 0, .int .i64 0, .int .i64 0, .int .i64 0, .int .i64 0, .int .i64 0] 48)).alloc (.cells #[.int .i64 2, .string (baOf (Ly.wd Ws 1)), .int .i64 (-1), .int .i64 0, .int .i64 0, .int .i64 0, .int .i64 0, .int .i64 0] 48)).heap.size = w.heap.size + 1 + 1 := by simp
    rw [hz1] at hx2
    rw [hz2] at hN2
    clear hz1 hz2
    clear hb0 hw0
    clear r0 z0 r1 z1 r2 z2 r3 z3 r4 z4 r5 z5 r6 z6 r7 z7
    have hc3 : ¬ c = 3 := by omega
    have hmin : (min 3 7 : Int) = 3 := rfl
    go_wp2_with fail
    go_loopw [11, 48] (fun vo vi wr => LEI w Ws 4 2 vo vi wr) (fun _ vi _ => 4 + 1 - (intOf vi).toNat)
    case atStart => exact (show LEI _ _ _ _ _ _ _ from ⟨0, _, false, by omega, rfl, rfl, Lib.hid Ly.NumS.start, hb2, hx2, hN2, hw2⟩)
    case round =>
      obtain ⟨t, f, q, ht, rfl, rfl, HS, hb3, hx3, hN3, hw3⟩ := hrel
      have hMr := HM.out.below hw3
      have hszr := hN3.1
      have r0 : wr.cell? ⟨w.heap.size, 0, none⟩ = some (.int .i64 0) := hb3.cell 0
      have z0 : wr.frozen? ⟨w.heap.size, 0, none⟩ = false := hb3.frozen 0
      have r1 : wr.cell? ⟨w.heap.size, 1, none⟩ = some (.string ⟨#[]⟩) := hb3.cell 1
      have z1 : wr.frozen? ⟨w.heap.size, 1, none⟩ = false := hb3.frozen 1
      have r2 : wr.cell? ⟨w.heap.size, 2, none⟩ = some (.int .i64 0) := hb3.cell 2
      have z2 : wr.frozen? ⟨w.heap.size, 2, none⟩ = false := hb3.frozen 2
      have r3 : wr.cell? ⟨w.heap.size, 3, none⟩ = some (.int .i64 0) := hb3.cell 3
      have z3 : wr.frozen? ⟨w.heap.size, 3, none⟩ = false := hb3.frozen 3
      have r4 : wr.cell? ⟨w.heap.size, 4, none⟩ = some (.int .i64 0) := hb3.cell 4
      have z4 : wr.frozen? ⟨w.heap.size, 4, none⟩ = false := hb3.frozen 4
      have r5 : wr.cell? ⟨w.heap.size, 5, none⟩ = some (.int .i64 0) := hb3.cell 5
      have z5 : wr.frozen? ⟨w.heap.size, 5, none⟩ = false := hb3.frozen 5
      have r6 : wr.cell? ⟨w.heap.size, 6, none⟩ = some (.int .i64 0) := hb3.cell 6
      have z6 : wr.frozen? ⟨w.heap.size, 6, none⟩ = false := hb3.frozen 6
      have r7 : wr.cell? ⟨w.heap.size, 7, none⟩ = some (.int .i64 0) := hb3.cell 7
      have z7 : wr.frozen? ⟨w.heap.size, 7, none⟩ = false := hb3.frozen 7
      have x0 : wr.cell? ⟨w.heap.size + 1, 0, none⟩ = some (.int .i64 2) := hx3.cell 0
      have y0 : wr.frozen? ⟨w.heap.size + 1, 0, none⟩ = false := hx3.frozen 0
      have x1 : wr.cell? ⟨w.heap.size + 1, 1, none⟩ = some (.string (baOf (Ly.wd Ws 1))) := hx3.cell 1
      have y1 : wr.frozen? ⟨w.heap.size + 1, 1, none⟩ = false := hx3.frozen 1
      have x2 : wr.cell? ⟨w.heap.size + 1, 2, none⟩ = some (.int .i64 (-1)) := hx3.cell 2
      have y2 : wr.frozen? ⟨w.heap.size + 1, 2, none⟩ = false := hx3.frozen 2
      have x3 : wr.cell? ⟨w.heap.size + 1, 3, none⟩ = some (.int .i64 0) := hx3.cell 3
      have y3 : wr.frozen? ⟨w.heap.size + 1, 3, none⟩ = false := hx3.frozen 3
      have x4 : wr.cell? ⟨w.heap.size + 1, 4, none⟩ = some (.int .i64 0) := hx3.cell 4
      have y4 : wr.frozen? ⟨w.heap.size + 1, 4, none⟩ = false := hx3.frozen 4
      have x5 : wr.cell? ⟨w.heap.size + 1, 5, none⟩ = some (.int .i64 0) := hx3.cell 5
      have y5 : wr.frozen? ⟨w.heap.size + 1, 5, none⟩ = false := hx3.frozen 5
      have x6 : wr.cell? ⟨w.heap.size + 1, 6, none⟩ = some (.int .i64 0) := hx3.cell 6
      have y6 : wr.frozen? ⟨w.heap.size + 1, 6, none⟩ = false := hx3.frozen 6
      have x7 : wr.cell? ⟨w.heap.size + 1, 7, none⟩ = some (.int .i64 0) := hx3.cell 7
      have y7 : wr.frozen? ⟨w.heap.size + 1, 7, none⟩ = false := hx3.frozen 7
      by_cases hlt : t < 4
      · have hlti : (t : Int) < 4 := by omega
        have hcw := keep_cell hw3 (Hc.out (3 + t) (by omega))
        have ha := hN3.2.1 t (by omega)
        have hf := hN3.2.2 t
        go_wp2_with fail
        refine (lnumber_c (baOf (Ly.wd Ws (3 + t))) _ (Hws.out _)).mono ?_
        rintro e w4 ⟨v, okv, rfl, hnum, hb4⟩
        rw [baOf_data, Nat.add_comm 3 t] at hnum
        have hb3' := hb3.below hb4 hb3.lt
        have hx3' := hx3.below hb4 hx3.lt
        have hN3' := hN3.below hb4
        have hw3' := below_step hw3 hb4
        clear hb3 hx3 hN3 hw3 hb4 hMr ha hf r0 z0 r1 z1 r2 z2 r3 z3 r4 z4 r5 z5 r6 z6 r7 z7 x0 y0 x1 y1 x2 y2 x3 y3 x4 y4 x5 y5 x6 y6 x7 y7
        have r0 : w4.cell? ⟨w.heap.size, 0, none⟩ = some (.int .i64 0) := hb3'.cell 0
        have z0 : w4.frozen? ⟨w.heap.size, 0, none⟩ = false := hb3'.frozen 0
        have r1 : w4.cell? ⟨w.heap.size, 1, none⟩ = some (.string ⟨#[]⟩) := hb3'.cell 1
        have z1 : w4.frozen? ⟨w.heap.size, 1, none⟩ = false := hb3'.frozen 1
        have r2 : w4.cell? ⟨w.heap.size, 2, none⟩ = some (.int .i64 0) := hb3'.cell 2
        have z2 : w4.frozen? ⟨w.heap.size, 2, none⟩ = false := hb3'.frozen 2
        have r3 : w4.cell? ⟨w.heap.size, 3, none⟩ = some (.int .i64 0) := hb3'.cell 3
        have z3 : w4.frozen? ⟨w.heap.size, 3, none⟩ = false := hb3'.frozen 3
        have r4 : w4.cell? ⟨w.heap.size, 4, none⟩ = some (.int .i64 0) := hb3'.cell 4
        have z4 : w4.frozen? ⟨w.heap.size, 4, none⟩ = false := hb3'.frozen 4
        have r5 : w4.cell? ⟨w.heap.size, 5, none⟩ = some (.int .i64 0) := hb3'.cell 5
        have z5 : w4.frozen? ⟨w.heap.size, 5, none⟩ = false := hb3'.frozen 5
        have r6 : w4.cell? ⟨w.heap.size, 6, none⟩ = some (.int .i64 0) := hb3'.cell 6
        have z6 : w4.frozen? ⟨w.heap.size, 6, none⟩ = false := hb3'.frozen 6
        have r7 : w4.cell? ⟨w.heap.size, 7, none⟩ = some (.int .i64 0) := hb3'.cell 7
        have z7 : w4.frozen? ⟨w.heap.size, 7, none⟩ = false := hb3'.frozen 7
        have ha := hN3'.2.1 t (by omega)
        have hf := hN3'.2.2 t
        rcases hnum with ⟨hz, rfl, rfl⟩ | ⟨hz, rfl, hout, hv1, hv2⟩ | ⟨v', hz, rfl, rfl, hv1, hv2⟩
        · have HQ := Lib.hid (lelem_end (l := l) hb3' hw3' ⟨0, ⟨#[]⟩, 0, 0, 0, 0, 0, 0⟩ 6 (Ly.el_num Ho.out Hnw.out (by rw [HWn.out]; omega) hz _))
          clear hz hb3' hx3' hN3' hw3'
          go_wp2_with fail
          obtain ⟨hB, hE⟩ := HQ.out
          change bodyPost _ _ _ _ _ (store8 w4 w.heap.size ⟨0, ⟨#[]⟩, 0, 0, 0, 0, 0, 0⟩)
          generalize store8 w4 w.heap.size ⟨0, ⟨#[]⟩, 0, 0, 0, 0, 0, 0⟩ = WW at hB hE ⊢
          have q0 : WW.cell? ⟨w.heap.size, 0, none⟩ = some (.int .i64 (0)) := hB.cell 0
          have q1 : WW.cell? ⟨w.heap.size, 1, none⟩ = some (.string (⟨#[]⟩)) := hB.cell 1
          have q2 : WW.cell? ⟨w.heap.size, 2, none⟩ = some (.int .i64 (0)) := hB.cell 2
          have q3 : WW.cell? ⟨w.heap.size, 3, none⟩ = some (.int .i64 (0)) := hB.cell 3
          have q4 : WW.cell? ⟨w.heap.size, 4, none⟩ = some (.int .i64 (0)) := hB.cell 4
          have q5 : WW.cell? ⟨w.heap.size, 5, none⟩ = some (.int .i64 (0)) := hB.cell 5
          have q6 : WW.cell? ⟨w.heap.size, 6, none⟩ = some (.int .i64 (0)) := hB.cell 6
          have q7 : WW.cell? ⟨w.heap.size, 7, none⟩ = some (.int .i64 (0)) := hB.cell 7
          exact bodyPost_ret (v := .tuple #[leV ⟨0, ⟨#[]⟩, 0, 0, 0, 0, 0, 0⟩, .int .i64 6]) (by simp [results, leV, Tryd.results35, go_sem, q0, q1, q2, q3, q4, q5, q6, q7]) rfl hE
        · cases q
          · rcases hout with hout | hout
            · have g1 : decide (v < -1000000000) = true := decide_eq_true hout
              clear hout
              have HS' := Lib.hid (HS.out.step hz (n := v) (by intro v hv; cases hv) (b' := true) (by simp))
              have hN4 := hN3'.set t v (f' := fun j => if j = t then v else f j) (if_pos rfl) (fun i hi hne => if_neg hne)
              have hb5 := hb3'.far (p := ⟨w.heap.size + 1 + 1, t, none⟩) (by simp; omega) (.int .i64 v)
              have hx5 := hx3'.far (p := ⟨w.heap.size + 1 + 1, t, none⟩) (by simp) (.int .i64 v)
              have hw5 := hw3'.setCell (p := ⟨w.heap.size + 1 + 1, t, none⟩) (by simp; omega) (.int .i64 v)
              clear hz hb3' hx3' hN3' hw3'
              go_wp2_with fail
              go_roundw
              case rel => exact (show LEI _ _ _ _ _ _ _ from ⟨t + 1, _, _, by omega, by go_num, rfl, HS', hb5, hx5, hN4, hw5⟩)
              case measure => simp [intOf]; omega
            · have g1 : decide (v < -1000000000) = false := decide_eq_false (by omega)
              have g2 : decide (1000000000 < v) = true := decide_eq_true hout
              clear hout
              have HS' := Lib.hid (HS.out.step hz (n := v) (by intro v hv; cases hv) (b' := true) (by simp))
              have hN4 := hN3'.set t v (f' := fun j => if j = t then v else f j) (if_pos rfl) (fun i hi hne => if_neg hne)
              have hb5 := hb3'.far (p := ⟨w.heap.size + 1 + 1, t, none⟩) (by simp; omega) (.int .i64 v)
              have hx5 := hx3'.far (p := ⟨w.heap.size + 1 + 1, t, none⟩) (by simp) (.int .i64 v)
              have hw5 := hw3'.setCell (p := ⟨w.heap.size + 1 + 1, t, none⟩) (by simp; omega) (.int .i64 v)
              clear hz hb3' hx3' hN3' hw3'
              go_wp2_with fail
              go_roundw
              case rel => exact (show LEI _ _ _ _ _ _ _ from ⟨t + 1, _, _, by omega, by go_num, rfl, HS', hb5, hx5, hN4, hw5⟩)
              case measure => simp [intOf]; omega
          · clear hout
            skip
            have HS' := Lib.hid (HS.out.step hz (n := v) (by intro v hv; cases hv) (b' := true) (by simp))
            have hN4 := hN3'.set t v (f' := fun j => if j = t then v else f j) (if_pos rfl) (fun i hi hne => if_neg hne)
            have hb5 := hb3'.far (p := ⟨w.heap.size + 1 + 1, t, none⟩) (by simp; omega) (.int .i64 v)
            have hx5 := hx3'.far (p := ⟨w.heap.size + 1 + 1, t, none⟩) (by simp) (.int .i64 v)
            have hw5 := hw3'.setCell (p := ⟨w.heap.size + 1 + 1, t, none⟩) (by simp; omega) (.int .i64 v)
            clear hz hb3' hx3' hN3' hw3'
            go_wp2_with fail
            go_roundw
            case rel => exact (show LEI _ _ _ _ _ _ _ from ⟨t + 1, _, _, by omega, by go_num, rfl, HS', hb5, hx5, hN4, hw5⟩)
            case measure => simp [intOf]; omega
        · cases q
          · have g1 : decide (v < -1000000000) = false := decide_eq_false (by omega)
            have g2 : decide (1000000000 < v) = false := decide_eq_false (by omega)
            skip
            have HS' := Lib.hid (HS.out.step hz (n := v) (by intro u hu; exact Option.some.inj hu) (b' := false) (by simp))
            have hN4 := hN3'.set t v (f' := fun j => if j = t then v else f j) (if_pos rfl) (fun i hi hne => if_neg hne)
            have hb5 := hb3'.far (p := ⟨w.heap.size + 1 + 1, t, none⟩) (by simp; omega) (.int .i64 v)
            have hx5 := hx3'.far (p := ⟨w.heap.size + 1 + 1, t, none⟩) (by simp) (.int .i64 v)
            have hw5 := hw3'.setCell (p := ⟨w.heap.size + 1 + 1, t, none⟩) (by simp; omega) (.int .i64 v)
            clear hz hb3' hx3' hN3' hw3'
            go_wp2_with fail
            go_roundw
            case rel => exact (show LEI _ _ _ _ _ _ _ from ⟨t + 1, _, _, by omega, by go_num, rfl, HS', hb5, hx5, hN4, hw5⟩)
            case measure => simp [intOf]; omega
          · skip
            skip
            have HS' := Lib.hid (HS.out.step hz (n := v) (by intro u hu; exact Option.some.inj hu) (b' := true) (by simp))
            have hN4 := hN3'.set t v (f' := fun j => if j = t then v else f j) (if_pos rfl) (fun i hi hne => if_neg hne)
            have hb5 := hb3'.far (p := ⟨w.heap.size + 1 + 1, t, none⟩) (by simp; omega) (.int .i64 v)
            have hx5 := hx3'.far (p := ⟨w.heap.size + 1 + 1, t, none⟩) (by simp) (.int .i64 v)
            have hw5 := hw3'.setCell (p := ⟨w.heap.size + 1 + 1, t, none⟩) (by simp; omega) (.int .i64 v)
            clear hz hb3' hx3' hN3' hw3'
            go_wp2_with fail
            go_roundw
            case rel => exact (show LEI _ _ _ _ _ _ _ from ⟨t + 1, _, _, by omega, by go_num, rfl, HS', hb5, hx5, hN4, hw5⟩)
            case measure => simp [intOf]; omega
      · skip
        obtain rfl : t = 4 := by omega
        cases q
        case true =>
          have HQ := Lib.hid (lelem_end (l := l) hb3 hw3 ⟨0, ⟨#[]⟩, 0, 0, 0, 0, 0, 0⟩ 2 (Ly.el_range Ho.out Hnw.out HS.out (by rw [HWn.out]) _))
          clear hb3 hx3 hN3 hw3 hMr
          go_wp2_with fail
          obtain ⟨hB, hE⟩ := HQ.out
          change bodyPost _ _ _ _ _ (store8 wr w.heap.size ⟨0, ⟨#[]⟩, 0, 0, 0, 0, 0, 0⟩)
          generalize store8 wr w.heap.size ⟨0, ⟨#[]⟩, 0, 0, 0, 0, 0, 0⟩ = WW at hB hE ⊢
          have q0 : WW.cell? ⟨w.heap.size, 0, none⟩ = some (.int .i64 (0)) := hB.cell 0
          have q1 : WW.cell? ⟨w.heap.size, 1, none⟩ = some (.string (⟨#[]⟩)) := hB.cell 1
          have q2 : WW.cell? ⟨w.heap.size, 2, none⟩ = some (.int .i64 (0)) := hB.cell 2
          have q3 : WW.cell? ⟨w.heap.size, 3, none⟩ = some (.int .i64 (0)) := hB.cell 3
          have q4 : WW.cell? ⟨w.heap.size, 4, none⟩ = some (.int .i64 (0)) := hB.cell 4
          have q5 : WW.cell? ⟨w.heap.size, 5, none⟩ = some (.int .i64 (0)) := hB.cell 5
          have q6 : WW.cell? ⟨w.heap.size, 6, none⟩ = some (.int .i64 (0)) := hB.cell 6
          have q7 : WW.cell? ⟨w.heap.size, 7, none⟩ = some (.int .i64 (0)) := hB.cell 7
          exact bodyPost_ret (v := .tuple #[leV ⟨0, ⟨#[]⟩, 0, 0, 0, 0, 0, 0⟩, .int .i64 2]) (by simp [results, leV, Tryd.results35, go_sem, q0, q1, q2, q3, q4, q5, q6, q7]) rfl hE
        case false =>
          obtain ⟨nb, hnb⟩ : ∃ nb, Pl.nameOk (baOf (Ly.wd Ws 1)) = nb := ⟨_, rfl⟩
          have Hnb := Lib.hid hnb
          have HNm : Hid (∀ W : World, Calls Tryd.prog 44 #[.string (baOf (Ly.wd Ws 1))] W fun e w' => e = .returned (.bool nb) ∧ W = w') := Lib.hid (fun W => by
            have := name_c (baOf (Ly.wd Ws 1)) W (by have := Hws.out 1; unfold maxLen; omega)
            rw [hnb] at this
            exact this)
          clear hnb
          go_wp2_with fail
          refine (HNm.out _).mono ?_
          rintro e w4 ⟨rfl, rfl⟩
          clear HNm
          cases nb
          case false =>
            have HQ := Lib.hid (lelem_end (l := l) hb3 hw3 ⟨0, ⟨#[]⟩, 0, 0, 0, 0, 0, 0⟩ 7 (Ly.el_name Ho.out Hnw.out HS.out (by rw [HWn.out]; omega) Hnb.out _))
            clear hb3 hx3 hN3 hw3 hMr
            go_wp2_with fail
            obtain ⟨hB, hE⟩ := HQ.out
            change bodyPost _ _ _ _ _ (store8 wr w.heap.size ⟨0, ⟨#[]⟩, 0, 0, 0, 0, 0, 0⟩)
            generalize store8 wr w.heap.size ⟨0, ⟨#[]⟩, 0, 0, 0, 0, 0, 0⟩ = WW at hB hE ⊢
            have q0 : WW.cell? ⟨w.heap.size, 0, none⟩ = some (.int .i64 (0)) := hB.cell 0
            have q1 : WW.cell? ⟨w.heap.size, 1, none⟩ = some (.string (⟨#[]⟩)) := hB.cell 1
            have q2 : WW.cell? ⟨w.heap.size, 2, none⟩ = some (.int .i64 (0)) := hB.cell 2
            have q3 : WW.cell? ⟨w.heap.size, 3, none⟩ = some (.int .i64 (0)) := hB.cell 3
            have q4 : WW.cell? ⟨w.heap.size, 4, none⟩ = some (.int .i64 (0)) := hB.cell 4
            have q5 : WW.cell? ⟨w.heap.size, 5, none⟩ = some (.int .i64 (0)) := hB.cell 5
            have q6 : WW.cell? ⟨w.heap.size, 6, none⟩ = some (.int .i64 (0)) := hB.cell 6
            have q7 : WW.cell? ⟨w.heap.size, 7, none⟩ = some (.int .i64 (0)) := hB.cell 7
            exact bodyPost_ret (v := .tuple #[leV ⟨0, ⟨#[]⟩, 0, 0, 0, 0, 0, 0⟩, .int .i64 7]) (by simp [results, leV, Tryd.results35, go_sem, q0, q1, q2, q3, q4, q5, q6, q7]) rfl hE
          case true =>
            have e0 : ((2 : Int) == 0) = false := rfl
            have c2 := keep_cell hw3 (Hc.out 2 (by omega))
            obtain ⟨po, hpo⟩ : ∃ po, Ly.idxGo (Ly.sufOf (Ly.wd Ws 2)).1 l 0 = po := ⟨_, rfl⟩
            obtain ⟨sd, hsd⟩ : ∃ sd, (Ly.sufOf (Ly.wd Ws 2)).2 = sd := ⟨_, rfl⟩
            have HP := Lib.hid (lparent_c (baOf (Ly.wd Ws 2)) b m l wr (Hws.out 2) hMr Hok.out)
            rw [baOf_data, hpo, hsd] at HP
            have Hpo := Lib.hid hpo
            have Hsd := Lib.hid hsd
            clear hpo hsd
            go_wp2_with fail
            refine HP.out.mono ?_
            rintro e w4 ⟨rfl, rfl⟩
            clear HP
            cases po
            case none =>
              have HQ := Lib.hid (lelem_end (l := l) hb3 hw3 ⟨0, ⟨#[]⟩, 0, 0, 0, 0, 0, 0⟩ 7 (Ly.el_par Ho.out (by decide) Hnw.out HS.out (by rw [HWn.out]; omega) Hnb.out Hpo.out _))
              unfold ParR
              clear hb3 hx3 hN3 hw3 hMr
              go_wp2_with fail
              obtain ⟨hB, hE⟩ := HQ.out
              change bodyPost _ _ _ _ _ (store8 wr w.heap.size ⟨0, ⟨#[]⟩, 0, 0, 0, 0, 0, 0⟩)
              generalize store8 wr w.heap.size ⟨0, ⟨#[]⟩, 0, 0, 0, 0, 0, 0⟩ = WW at hB hE ⊢
              have q0 : WW.cell? ⟨w.heap.size, 0, none⟩ = some (.int .i64 (0)) := hB.cell 0
              have q1 : WW.cell? ⟨w.heap.size, 1, none⟩ = some (.string (⟨#[]⟩)) := hB.cell 1
              have q2 : WW.cell? ⟨w.heap.size, 2, none⟩ = some (.int .i64 (0)) := hB.cell 2
              have q3 : WW.cell? ⟨w.heap.size, 3, none⟩ = some (.int .i64 (0)) := hB.cell 3
              have q4 : WW.cell? ⟨w.heap.size, 4, none⟩ = some (.int .i64 (0)) := hB.cell 4
              have q5 : WW.cell? ⟨w.heap.size, 5, none⟩ = some (.int .i64 (0)) := hB.cell 5
              have q6 : WW.cell? ⟨w.heap.size, 6, none⟩ = some (.int .i64 (0)) := hB.cell 6
              have q7 : WW.cell? ⟨w.heap.size, 7, none⟩ = some (.int .i64 (0)) := hB.cell 7
              exact bodyPost_ret (v := .tuple #[leV ⟨0, ⟨#[]⟩, 0, 0, 0, 0, 0, 0⟩, .int .i64 7]) (by simp [results, leV, Tryd.results35, go_sem, q0, q1, q2, q3, q4, q5, q6, q7]) rfl hE
            case some i =>
              have hne : w.heap.size ≠ w.heap.size + 1 := by omega
              have hge : w.heap.size ≤ w.heap.size + 1 := by omega
              have hb9 : Blk ((((((wr.setCell ⟨w.heap.size + 1, 2, none⟩ (.int .i64 (i : Int))).setCell ⟨w.heap.size + 1, 3, none⟩ (.int .i64 sd)).setCell ⟨w.heap.size + 1, 4, none⟩ (.int .i64 (f 0))).setCell ⟨w.heap.size + 1, 5, none⟩ (.int .i64 (f 1))).setCell ⟨w.heap.size + 1, 6, none⟩ (.int .i64 (f 2))).setCell ⟨w.heap.size + 1, 7, none⟩ (.int .i64 (f 3))).drew w.heap.size 48 #[.int .i64 0, .string ⟨#[]⟩, .int .i64 0, .int .i64 0, .int .i64 0, .int .i64 0, .int .i64 0, .int .i64 0] := (((((((hb3.far (p := ⟨w.heap.size + 1, 2, none⟩) hne (.int .i64 (i : Int))).far (p := ⟨w.heap.size + 1, 3, none⟩) hne (.int .i64 sd)).far (p := ⟨w.heap.size + 1, 4, none⟩) hne (.int .i64 (f 0))).far (p := ⟨w.heap.size + 1, 5, none⟩) hne (.int .i64 (f 1))).far (p := ⟨w.heap.size + 1, 6, none⟩) hne (.int .i64 (f 2))).far (p := ⟨w.heap.size + 1, 7, none⟩) hne (.int .i64 (f 3)))).drew
              have hx9 : Blk ((((((wr.setCell ⟨w.heap.size + 1, 2, none⟩ (.int .i64 (i : Int))).setCell ⟨w.heap.size + 1, 3, none⟩ (.int .i64 sd)).setCell ⟨w.heap.size + 1, 4, none⟩ (.int .i64 (f 0))).setCell ⟨w.heap.size + 1, 5, none⟩ (.int .i64 (f 1))).setCell ⟨w.heap.size + 1, 6, none⟩ (.int .i64 (f 2))).setCell ⟨w.heap.size + 1, 7, none⟩ (.int .i64 (f 3))).drew (w.heap.size + 1) 48 #[.int .i64 2, .string (baOf (Ly.wd Ws 1)), .int .i64 (i : Int), .int .i64 sd, .int .i64 (f 0), .int .i64 (f 1), .int .i64 (f 2), .int .i64 (f 3)] := by simpa using (((((((hx3.set_ 2 (.int .i64 (i : Int))).set_ 3 (.int .i64 sd)).set_ 4 (.int .i64 (f 0))).set_ 5 (.int .i64 (f 1))).set_ 6 (.int .i64 (f 2))).set_ 7 (.int .i64 (f 3)))).drew
              have hw9 : Below w.heap.size w ((((((wr.setCell ⟨w.heap.size + 1, 2, none⟩ (.int .i64 (i : Int))).setCell ⟨w.heap.size + 1, 3, none⟩ (.int .i64 sd)).setCell ⟨w.heap.size + 1, 4, none⟩ (.int .i64 (f 0))).setCell ⟨w.heap.size + 1, 5, none⟩ (.int .i64 (f 1))).setCell ⟨w.heap.size + 1, 6, none⟩ (.int .i64 (f 2))).setCell ⟨w.heap.size + 1, 7, none⟩ (.int .i64 (f 3))).drew := below_drew2 ((((((hw3.setCell (p := ⟨w.heap.size + 1, 2, none⟩) hge (.int .i64 (i : Int))).setCell (p := ⟨w.heap.size + 1, 3, none⟩) hge (.int .i64 sd)).setCell (p := ⟨w.heap.size + 1, 4, none⟩) hge (.int .i64 (f 0))).setCell (p := ⟨w.heap.size + 1, 5, none⟩) hge (.int .i64 (f 1))).setCell (p := ⟨w.heap.size + 1, 6, none⟩) hge (.int .i64 (f 2))).setCell (p := ⟨w.heap.size + 1, 7, none⟩) hge (.int .i64 (f 3)))
              have HQ := Lib.hid (lelem_end (l := l) (Ws := Ws) hb9 hw9 ⟨2, baOf (Ly.wd Ws 1), (i : Int), sd, f 0, f 1, f 2, f 3⟩ 0 (by
                have := Ly.el_ok Ho.out (by decide) Hnw.out HS.out (by rw [HWn.out]) (.inl ⟨rfl, rfl⟩) Hnb.out Hpo.out
                rw [Hsd.out] at this
                exact this))
              have a0 := hN3.2.1 0 (by omega)
              have a1 := hN3.2.1 1 (by omega)
              have a2 := hN3.2.1 2 (by omega)
              have a3 := hN3.2.1 3 (by omega)
              unfold ParR
              clear hMr hne hge
              have HB9 := Lib.hid hb9
              have HX9 := Lib.hid hx9
              clear hb3 hx3 hN3 hw3 hb9 hx9 hw9
              go_wp2_with fail
              go_region_held3 (fun W => W.cell? ⟨w.heap.size + 1 + 1, 0, none⟩ = some (.int .i64 (f 0)) ∧ W.cell? ⟨w.heap.size + 1 + 1, 1, none⟩ = some (.int .i64 (f 1)) ∧ W.cell? ⟨w.heap.size + 1 + 1, 2, none⟩ = some (.int .i64 (f 2)) ∧ W.cell? ⟨w.heap.size + 1 + 1, 3, none⟩ = some (.int .i64 (f 3))) (go_keep) (fail)
              generalize ((((((wr.setCell ⟨w.heap.size + 1, 2, none⟩ (.int .i64 (i : Int))).setCell ⟨w.heap.size + 1, 3, none⟩ (.int .i64 sd)).setCell ⟨w.heap.size + 1, 4, none⟩ (.int .i64 (f 0))).setCell ⟨w.heap.size + 1, 5, none⟩ (.int .i64 (f 1))).setCell ⟨w.heap.size + 1, 6, none⟩ (.int .i64 (f 2))).setCell ⟨w.heap.size + 1, 7, none⟩ (.int .i64 (f 3))).drew = W9 at HB9 HX9 HQ ⊢
              clear r0 z0 r1 z1 r2 z2 r3 z3 r4 z4 r5 z5 r6 z6 r7 z7 x0 y0 x1 y1 x2 y2 x3 y3 x4 y4 x5 y5 x6 y6 x7 y7 a0 a1 a2 a3
              have r0 : W9.cell? ⟨w.heap.size, 0, none⟩ = some (.int .i64 0) := HB9.out.cell 0
              have z0 : W9.frozen? ⟨w.heap.size, 0, none⟩ = false := HB9.out.frozen 0
              have r1 : W9.cell? ⟨w.heap.size, 1, none⟩ = some (.string ⟨#[]⟩) := HB9.out.cell 1
              have z1 : W9.frozen? ⟨w.heap.size, 1, none⟩ = false := HB9.out.frozen 1
              have r2 : W9.cell? ⟨w.heap.size, 2, none⟩ = some (.int .i64 0) := HB9.out.cell 2
              have z2 : W9.frozen? ⟨w.heap.size, 2, none⟩ = false := HB9.out.frozen 2
              have r3 : W9.cell? ⟨w.heap.size, 3, none⟩ = some (.int .i64 0) := HB9.out.cell 3
              have z3 : W9.frozen? ⟨w.heap.size, 3, none⟩ = false := HB9.out.frozen 3
              have r4 : W9.cell? ⟨w.heap.size, 4, none⟩ = some (.int .i64 0) := HB9.out.cell 4
              have z4 : W9.frozen? ⟨w.heap.size, 4, none⟩ = false := HB9.out.frozen 4
              have r5 : W9.cell? ⟨w.heap.size, 5, none⟩ = some (.int .i64 0) := HB9.out.cell 5
              have z5 : W9.frozen? ⟨w.heap.size, 5, none⟩ = false := HB9.out.frozen 5
              have r6 : W9.cell? ⟨w.heap.size, 6, none⟩ = some (.int .i64 0) := HB9.out.cell 6
              have z6 : W9.frozen? ⟨w.heap.size, 6, none⟩ = false := HB9.out.frozen 6
              have r7 : W9.cell? ⟨w.heap.size, 7, none⟩ = some (.int .i64 0) := HB9.out.cell 7
              have z7 : W9.frozen? ⟨w.heap.size, 7, none⟩ = false := HB9.out.frozen 7
              have x0 : W9.cell? ⟨w.heap.size + 1, 0, none⟩ = some (.int .i64 2) := HX9.out.cell 0
              have y0 : W9.frozen? ⟨w.heap.size + 1, 0, none⟩ = false := HX9.out.frozen 0
              have x1 : W9.cell? ⟨w.heap.size + 1, 1, none⟩ = some (.string (baOf (Ly.wd Ws 1))) := HX9.out.cell 1
              have y1 : W9.frozen? ⟨w.heap.size + 1, 1, none⟩ = false := HX9.out.frozen 1
              have x2 : W9.cell? ⟨w.heap.size + 1, 2, none⟩ = some (.int .i64 (i : Int)) := HX9.out.cell 2
              have y2 : W9.frozen? ⟨w.heap.size + 1, 2, none⟩ = false := HX9.out.frozen 2
              have x3 : W9.cell? ⟨w.heap.size + 1, 3, none⟩ = some (.int .i64 sd) := HX9.out.cell 3
              have y3 : W9.frozen? ⟨w.heap.size + 1, 3, none⟩ = false := HX9.out.frozen 3
              have x4 : W9.cell? ⟨w.heap.size + 1, 4, none⟩ = some (.int .i64 (f 0)) := HX9.out.cell 4
              have y4 : W9.frozen? ⟨w.heap.size + 1, 4, none⟩ = false := HX9.out.frozen 4
              have x5 : W9.cell? ⟨w.heap.size + 1, 5, none⟩ = some (.int .i64 (f 1)) := HX9.out.cell 5
              have y5 : W9.frozen? ⟨w.heap.size + 1, 5, none⟩ = false := HX9.out.frozen 5
              have x6 : W9.cell? ⟨w.heap.size + 1, 6, none⟩ = some (.int .i64 (f 2)) := HX9.out.cell 6
              have y6 : W9.frozen? ⟨w.heap.size + 1, 6, none⟩ = false := HX9.out.frozen 6
              have x7 : W9.cell? ⟨w.heap.size + 1, 7, none⟩ = some (.int .i64 (f 3)) := HX9.out.cell 7
              have y7 : W9.frozen? ⟨w.heap.size + 1, 7, none⟩ = false := HX9.out.frozen 7
              clear HB9 HX9
              go_wp2_with fail
              obtain ⟨hB, hE⟩ := HQ.out
              change bodyPost _ _ _ _ _ (store8 W9 w.heap.size ⟨2, baOf (Ly.wd Ws 1), (i : Int), sd, f 0, f 1, f 2, f 3⟩)
              generalize store8 W9 w.heap.size ⟨2, baOf (Ly.wd Ws 1), (i : Int), sd, f 0, f 1, f 2, f 3⟩ = WW at hB hE ⊢
              have q0 : WW.cell? ⟨w.heap.size, 0, none⟩ = some (.int .i64 (2)) := hB.cell 0
              have q1 : WW.cell? ⟨w.heap.size, 1, none⟩ = some (.string (baOf (Ly.wd Ws 1))) := hB.cell 1
              have q2 : WW.cell? ⟨w.heap.size, 2, none⟩ = some (.int .i64 ((i : Int))) := hB.cell 2
              have q3 : WW.cell? ⟨w.heap.size, 3, none⟩ = some (.int .i64 (sd)) := hB.cell 3
              have q4 : WW.cell? ⟨w.heap.size, 4, none⟩ = some (.int .i64 (f 0)) := hB.cell 4
              have q5 : WW.cell? ⟨w.heap.size, 5, none⟩ = some (.int .i64 (f 1)) := hB.cell 5
              have q6 : WW.cell? ⟨w.heap.size, 6, none⟩ = some (.int .i64 (f 2)) := hB.cell 6
              have q7 : WW.cell? ⟨w.heap.size, 7, none⟩ = some (.int .i64 (f 3)) := hB.cell 7
              exact bodyPost_ret (v := .tuple #[leV ⟨2, baOf (Ly.wd Ws 1), (i : Int), sd, f 0, f 1, f 2, f 3⟩, .int .i64 0]) (by simp [results, leV, Tryd.results35, go_sem, q0, q1, q2, q3, q4, q5, q6, q7]) rfl hE
set_option maxRecDepth 100000 in
set_option maxHeartbeats 4000000 in
theorem lelem_k (g n c b m B : Nat) (l : List LE) (Ws : List (List UInt8)) (w : World) (hn1 : 1 ≤ n) (hn2 : n ≤ 1000000) (own : w.ownsRow B 9 1 (.slice (some ⟨g, 0, none⟩) n c) n ((Ws.map baOf).map Value.string)) (hws : ∀ j, (baOf (Ly.wd Ws j)).size ≤ 1000000) (hM : MapO keyS 3 w b m (idxOf l)) (hok : ∀ x ∈ l, Pl.nameOk x.nm = true) (k : Int) (ho : Ly.kindOf (Ly.wd Ws 0) = some k) (hk0 : k ≠ 0) (hk2 : k ≠ 2) :
    Calls Tryd.prog 35 #[.slice (some ⟨g, 0, none⟩) n c, .map (some b)] w (LElemR l Ws w) := by
  have hWn : Ws.length = n := by have := own.1; simpa using this
  have hnc : n ≤ c := by
    obtain ⟨A', cc, hv, hv1, _⟩ := own_form own
    injection hv with _ _ e1
    omega
  have hgl : g < w.heap.size := own_lt own g rfl
  have Hc := Lib.hid (fun j (hj : j < n) => own_wd own hj)
  have HWn := Lib.hid hWn
  have Hws := Lib.hid hws
  have Hok := Lib.hid hok
  have HM := Lib.hid hM
  clear own hWn hws hok hM
  have hb0 := Blk.new w 48 #[.int .i64 0, .string ⟨#[]⟩, .int .i64 0, .int .i64 0, .int .i64 0, .int .i64 0, .int .i64 0, .int .i64 0]
  have hw0 : Below w.heap.size w (w.alloc (.cells #[.int .i64 0, .string ⟨#[]⟩, .int .i64 0, .int .i64 0, .int .i64 0, .int .i64 0, .int .i64 0, .int .i64 0] 48)) := (Below.refl _ _).alloc (Nat.le_refl _) _
  have c0 := cell_alloc (Hc.out 0 hn1)
  have HK : Hid (∀ W : World, Calls Tryd.prog 46 #[.string (baOf (Ly.wd Ws 0))] W fun e w' => e = .returned (.tuple #[.int .i64 k, .bool true]) ∧ W = w') := Lib.hid (fun W => by
    have := lkind_c (baOf (Ly.wd Ws 0)) W
    rw [baOf_data, ho] at this
    exact this)
  have hn0i : (0 : Int) < (n : Int) := by omega
  go_enter Tryd.func35, Tryd.ntmps35
  go_wp2_with fail
  refine (HK.out _).mono ?_
  rintro e w1 ⟨rfl, rfl⟩
  clear HK
  have r0 : (w.alloc (.cells #[.int .i64 0, .string ⟨#[]⟩, .int .i64 0, .int .i64 0, .int .i64 0, .int .i64 0, .int .i64 0, .int .i64 0] 48)).cell? ⟨w.heap.size, 0, none⟩ = some (.int .i64 0) := hb0.cell 0
  have z0 : (w.alloc (.cells #[.int .i64 0, .string ⟨#[]⟩, .int .i64 0, .int .i64 0, .int .i64 0, .int .i64 0, .int .i64 0, .int .i64 0] 48)).frozen? ⟨w.heap.size, 0, none⟩ = false := hb0.frozen 0
  have r1 : (w.alloc (.cells #[.int .i64 0, .string ⟨#[]⟩, .int .i64 0, .int .i64 0, .int .i64 0, .int .i64 0, .int .i64 0, .int .i64 0] 48)).cell? ⟨w.heap.size, 1, none⟩ = some (.string ⟨#[]⟩) := hb0.cell 1
  have z1 : (w.alloc (.cells #[.int .i64 0, .string ⟨#[]⟩, .int .i64 0, .int .i64 0, .int .i64 0, .int .i64 0, .int .i64 0, .int .i64 0] 48)).frozen? ⟨w.heap.size, 1, none⟩ = false := hb0.frozen 1
  have r2 : (w.alloc (.cells #[.int .i64 0, .string ⟨#[]⟩, .int .i64 0, .int .i64 0, .int .i64 0, .int .i64 0, .int .i64 0, .int .i64 0] 48)).cell? ⟨w.heap.size, 2, none⟩ = some (.int .i64 0) := hb0.cell 2
  have z2 : (w.alloc (.cells #[.int .i64 0, .string ⟨#[]⟩, .int .i64 0, .int .i64 0, .int .i64 0, .int .i64 0, .int .i64 0, .int .i64 0] 48)).frozen? ⟨w.heap.size, 2, none⟩ = false := hb0.frozen 2
  have r3 : (w.alloc (.cells #[.int .i64 0, .string ⟨#[]⟩, .int .i64 0, .int .i64 0, .int .i64 0, .int .i64 0, .int .i64 0, .int .i64 0] 48)).cell? ⟨w.heap.size, 3, none⟩ = some (.int .i64 0) := hb0.cell 3
  have z3 : (w.alloc (.cells #[.int .i64 0, .string ⟨#[]⟩, .int .i64 0, .int .i64 0, .int .i64 0, .int .i64 0, .int .i64 0, .int .i64 0] 48)).frozen? ⟨w.heap.size, 3, none⟩ = false := hb0.frozen 3
  have r4 : (w.alloc (.cells #[.int .i64 0, .string ⟨#[]⟩, .int .i64 0, .int .i64 0, .int .i64 0, .int .i64 0, .int .i64 0, .int .i64 0] 48)).cell? ⟨w.heap.size, 4, none⟩ = some (.int .i64 0) := hb0.cell 4
  have z4 : (w.alloc (.cells #[.int .i64 0, .string ⟨#[]⟩, .int .i64 0, .int .i64 0, .int .i64 0, .int .i64 0, .int .i64 0, .int .i64 0] 48)).frozen? ⟨w.heap.size, 4, none⟩ = false := hb0.frozen 4
  have r5 : (w.alloc (.cells #[.int .i64 0, .string ⟨#[]⟩, .int .i64 0, .int .i64 0, .int .i64 0, .int .i64 0, .int .i64 0, .int .i64 0] 48)).cell? ⟨w.heap.size, 5, none⟩ = some (.int .i64 0) := hb0.cell 5
  have z5 : (w.alloc (.cells #[.int .i64 0, .string ⟨#[]⟩, .int .i64 0, .int .i64 0, .int .i64 0, .int .i64 0, .int .i64 0, .int .i64 0] 48)).frozen? ⟨w.heap.size, 5, none⟩ = false := hb0.frozen 5
  have r6 : (w.alloc (.cells #[.int .i64 0, .string ⟨#[]⟩, .int .i64 0, .int .i64 0, .int .i64 0, .int .i64 0, .int .i64 0, .int .i64 0] 48)).cell? ⟨w.heap.size, 6, none⟩ = some (.int .i64 0) := hb0.cell 6
  have z6 : (w.alloc (.cells #[.int .i64 0, .string ⟨#[]⟩, .int .i64 0, .int .i64 0, .int .i64 0, .int .i64 0, .int .i64 0, .int .i64 0] 48)).frozen? ⟨w.heap.size, 6, none⟩ = false := hb0.frozen 6
  have r7 : (w.alloc (.cells #[.int .i64 0, .string ⟨#[]⟩, .int .i64 0, .int .i64 0, .int .i64 0, .int .i64 0, .int .i64 0, .int .i64 0] 48)).cell? ⟨w.heap.size, 7, none⟩ = some (.int .i64 0) := hb0.cell 7
  have z7 : (w.alloc (.cells #[.int .i64 0, .string ⟨#[]⟩, .int .i64 0, .int .i64 0, .int .i64 0, .int .i64 0, .int .i64 0, .int .i64 0] 48)).frozen? ⟨w.heap.size, 7, none⟩ = false := hb0.frozen 7
  have Ho := Lib.hid ho
  clear ho
  have e0 : (k == 0) = false := by simpa using hk0
  have e2 : (k == 2) = false := by simpa using hk2
  have Hk0 := Lib.hid hk0
  have Hk2 := Lib.hid hk2
  clear hk0 hk2
  have Hw := Lib.hid (show Ly.wantW k = 6 from (show Ly.wantW k = 6 by unfold Ly.wantW; rw [if_neg Hk0.out, if_neg Hk2.out]))
  by_cases hnw : n = 6
  case neg =>
    have d1 : ((n : Int) != 6) = true := by simp; omega
    have HQ := Lib.hid (lelem_zero (l := l) hb0 hw0 6 (Ly.el_count Ho.out (by rw [HWn.out, Hw.out]; exact hnw) _))
    clear hb0 hw0 hnw
    go_wp2_with fail
    obtain ⟨hB, hE⟩ := HQ.out
    generalize (w.alloc (.cells #[.int .i64 0, .string ⟨#[]⟩, .int .i64 0, .int .i64 0, .int .i64 0, .int .i64 0, .int .i64 0, .int .i64 0] 48)) = WW at hB hE ⊢
    have q0 : WW.cell? ⟨w.heap.size, 0, none⟩ = some (.int .i64 (0)) := hB.cell 0
    have q1 : WW.cell? ⟨w.heap.size, 1, none⟩ = some (.string (⟨#[]⟩)) := hB.cell 1
    have q2 : WW.cell? ⟨w.heap.size, 2, none⟩ = some (.int .i64 (0)) := hB.cell 2
    have q3 : WW.cell? ⟨w.heap.size, 3, none⟩ = some (.int .i64 (0)) := hB.cell 3
    have q4 : WW.cell? ⟨w.heap.size, 4, none⟩ = some (.int .i64 (0)) := hB.cell 4
    have q5 : WW.cell? ⟨w.heap.size, 5, none⟩ = some (.int .i64 (0)) := hB.cell 5
    have q6 : WW.cell? ⟨w.heap.size, 6, none⟩ = some (.int .i64 (0)) := hB.cell 6
    have q7 : WW.cell? ⟨w.heap.size, 7, none⟩ = some (.int .i64 (0)) := hB.cell 7
    exact bodyPost_ret (v := .tuple #[leV ⟨0, ⟨#[]⟩, 0, 0, 0, 0, 0, 0⟩, .int .i64 6]) (by simp [results, leV, Tryd.results35, go_sem, q0, q1, q2, q3, q4, q5, q6, q7]) rfl hE
  case pos =>
    subst hnw
    have Hnw := Lib.hid (show Ws.length = Ly.wantW k by rw [HWn.out, Hw.out])
    have d1 : ((6 : Int) != 6) = false := rfl
    have c1 := cell_alloc (Hc.out 1 (by omega))
    have hb2 := ((hb0.alloc (.cells #[.int .i64 k, .string (baOf (Ly.wd Ws 1)), .int .i64 (-1), .int .i64 0, .int .i64 0, .int .i64 0, .int .i64 0, .int .i64 0] 48)).alloc (.cells #[.int .i64 0, .int .i64 0, .int .i64 0, .int .i64 0] 84))
    have hx2 := (Blk.new (w.alloc (.cells #[.int .i64 0, .string ⟨#[]⟩, .int .i64 0, .int .i64 0, .int .i64 0, .int .i64 0, .int .i64 0, .int .i64 0] 48)) 48 #[.int .i64 k, .string (baOf (Ly.wd Ws 1)), .int .i64 (-1), .int .i64 0, .int .i64 0, .int .i64 0, .int .i64 0, .int .i64 0]).alloc (.cells #[.int .i64 0, .int .i64 0, .int .i64 0, .int .i64 0] 84)
    have hN2 := zeros_at ((w.alloc (.cells #[.int .i64 0, .string ⟨#[]⟩, .int .i64 0, .int .i64 0, .int .i64 0, .int .i64 0, .int .i64 0, .int .i64 0] 48)).alloc (.cells #[.int .i64 k, .string (baOf (Ly.wd Ws 1)), .int .i64 (-1), .int .i64 0, .int .i64 0, .int .i64 0, .int .i64 0, .int .i64 0] 48)) 84 4 #[.int .i64 0, .int .i64 0, .int .i64 0, .int .i64 0] rfl
    have hw2 : Below w.heap.size w (((w.alloc (.cells #[.int .i64 0, .string ⟨#[]⟩, .int .i64 0, .int .i64 0, .int .i64 0, .int .i64 0, .int .i64 0, .int .i64 0] 48)).alloc (.cells #[.int .i64 k, .string (baOf (Ly.wd Ws 1)), .int .i64 (-1), .int .i64 0, .int .i64 0, .int .i64 0, .int .i64 0, .int .i64 0] 48)).alloc (.cells #[.int .i64 0, .int .i64 0, .int .i64 0, .int .i64 0] 84)) := (hw0.alloc (by simp) _).alloc (by simp; omega) _
    have hz1 : (w.alloc (.cells #[.int .i64 0, .string ⟨#[]⟩, .int .i64 0, .int .i64 0, .int .i64 0, .int .i64 0, .int .i64 0, .int .i64 0] 48)).heap.size = w.heap.size + 1 := by simp
    have hz2 : ((w.alloc (.cells #[.int .i64 0, .string ⟨#[]⟩, .int .i64 0, .int .i64 0, .int .i64 0, .int .i64 0, .int .i64 0, .int .i64 0] 48)).alloc (.cells #[.int .i64 k, .string (baOf (Ly.wd Ws 1)), .int .i64 (-1), .int .i64 0, .int .i64 0, .int .i64 0, .int .i64 0, .int .i64 0] 48)).heap.size = w.heap.size + 1 + 1 := by simp
    rw [hz1] at hx2
    rw [hz2] at hN2
    clear hz1 hz2
    clear hb0 hw0
    clear r0 z0 r1 z1 r2 z2 r3 z3 r4 z4 r5 z5 r6 z6 r7 z7
    have hc3 : ¬ c = 3 := by omega
    have hmin : (min 3 6 : Int) = 3 := rfl
    go_wp2_with fail
    go_loopw [11, 48] (fun vo vi wr => LEI w Ws 3 k vo vi wr) (fun _ vi _ => 3 + 1 - (intOf vi).toNat)
    case atStart => exact (show LEI _ _ _ _ _ _ _ from ⟨0, _, false, by omega, rfl, rfl, Lib.hid Ly.NumS.start, hb2, hx2, hN2, hw2⟩)
    case round =>
      obtain ⟨t, f, q, ht, rfl, rfl, HS, hb3, hx3, hN3, hw3⟩ := hrel
      have hMr := HM.out.below hw3
      have hszr := hN3.1
      have r0 : wr.cell? ⟨w.heap.size, 0, none⟩ = some (.int .i64 0) := hb3.cell 0
      have z0 : wr.frozen? ⟨w.heap.size, 0, none⟩ = false := hb3.frozen 0
      have r1 : wr.cell? ⟨w.heap.size, 1, none⟩ = some (.string ⟨#[]⟩) := hb3.cell 1
      have z1 : wr.frozen? ⟨w.heap.size, 1, none⟩ = false := hb3.frozen 1
      have r2 : wr.cell? ⟨w.heap.size, 2, none⟩ = some (.int .i64 0) := hb3.cell 2
      have z2 : wr.frozen? ⟨w.heap.size, 2, none⟩ = false := hb3.frozen 2
      have r3 : wr.cell? ⟨w.heap.size, 3, none⟩ = some (.int .i64 0) := hb3.cell 3
      have z3 : wr.frozen? ⟨w.heap.size, 3, none⟩ = false := hb3.frozen 3
      have r4 : wr.cell? ⟨w.heap.size, 4, none⟩ = some (.int .i64 0) := hb3.cell 4
      have z4 : wr.frozen? ⟨w.heap.size, 4, none⟩ = false := hb3.frozen 4
      have r5 : wr.cell? ⟨w.heap.size, 5, none⟩ = some (.int .i64 0) := hb3.cell 5
      have z5 : wr.frozen? ⟨w.heap.size, 5, none⟩ = false := hb3.frozen 5
      have r6 : wr.cell? ⟨w.heap.size, 6, none⟩ = some (.int .i64 0) := hb3.cell 6
      have z6 : wr.frozen? ⟨w.heap.size, 6, none⟩ = false := hb3.frozen 6
      have r7 : wr.cell? ⟨w.heap.size, 7, none⟩ = some (.int .i64 0) := hb3.cell 7
      have z7 : wr.frozen? ⟨w.heap.size, 7, none⟩ = false := hb3.frozen 7
      have x0 : wr.cell? ⟨w.heap.size + 1, 0, none⟩ = some (.int .i64 k) := hx3.cell 0
      have y0 : wr.frozen? ⟨w.heap.size + 1, 0, none⟩ = false := hx3.frozen 0
      have x1 : wr.cell? ⟨w.heap.size + 1, 1, none⟩ = some (.string (baOf (Ly.wd Ws 1))) := hx3.cell 1
      have y1 : wr.frozen? ⟨w.heap.size + 1, 1, none⟩ = false := hx3.frozen 1
      have x2 : wr.cell? ⟨w.heap.size + 1, 2, none⟩ = some (.int .i64 (-1)) := hx3.cell 2
      have y2 : wr.frozen? ⟨w.heap.size + 1, 2, none⟩ = false := hx3.frozen 2
      have x3 : wr.cell? ⟨w.heap.size + 1, 3, none⟩ = some (.int .i64 0) := hx3.cell 3
      have y3 : wr.frozen? ⟨w.heap.size + 1, 3, none⟩ = false := hx3.frozen 3
      have x4 : wr.cell? ⟨w.heap.size + 1, 4, none⟩ = some (.int .i64 0) := hx3.cell 4
      have y4 : wr.frozen? ⟨w.heap.size + 1, 4, none⟩ = false := hx3.frozen 4
      have x5 : wr.cell? ⟨w.heap.size + 1, 5, none⟩ = some (.int .i64 0) := hx3.cell 5
      have y5 : wr.frozen? ⟨w.heap.size + 1, 5, none⟩ = false := hx3.frozen 5
      have x6 : wr.cell? ⟨w.heap.size + 1, 6, none⟩ = some (.int .i64 0) := hx3.cell 6
      have y6 : wr.frozen? ⟨w.heap.size + 1, 6, none⟩ = false := hx3.frozen 6
      have x7 : wr.cell? ⟨w.heap.size + 1, 7, none⟩ = some (.int .i64 0) := hx3.cell 7
      have y7 : wr.frozen? ⟨w.heap.size + 1, 7, none⟩ = false := hx3.frozen 7
      by_cases hlt : t < 3
      · have hlti : (t : Int) < 3 := by omega
        have hcw := keep_cell hw3 (Hc.out (3 + t) (by omega))
        have ha := hN3.2.1 t (by omega)
        have hf := hN3.2.2 t
        go_wp2_with fail
        refine (lnumber_c (baOf (Ly.wd Ws (3 + t))) _ (Hws.out _)).mono ?_
        rintro e w4 ⟨v, okv, rfl, hnum, hb4⟩
        rw [baOf_data, Nat.add_comm 3 t] at hnum
        have hb3' := hb3.below hb4 hb3.lt
        have hx3' := hx3.below hb4 hx3.lt
        have hN3' := hN3.below hb4
        have hw3' := below_step hw3 hb4
        clear hb3 hx3 hN3 hw3 hb4 hMr ha hf r0 z0 r1 z1 r2 z2 r3 z3 r4 z4 r5 z5 r6 z6 r7 z7 x0 y0 x1 y1 x2 y2 x3 y3 x4 y4 x5 y5 x6 y6 x7 y7
        have r0 : w4.cell? ⟨w.heap.size, 0, none⟩ = some (.int .i64 0) := hb3'.cell 0
        have z0 : w4.frozen? ⟨w.heap.size, 0, none⟩ = false := hb3'.frozen 0
        have r1 : w4.cell? ⟨w.heap.size, 1, none⟩ = some (.string ⟨#[]⟩) := hb3'.cell 1
        have z1 : w4.frozen? ⟨w.heap.size, 1, none⟩ = false := hb3'.frozen 1
        have r2 : w4.cell? ⟨w.heap.size, 2, none⟩ = some (.int .i64 0) := hb3'.cell 2
        have z2 : w4.frozen? ⟨w.heap.size, 2, none⟩ = false := hb3'.frozen 2
        have r3 : w4.cell? ⟨w.heap.size, 3, none⟩ = some (.int .i64 0) := hb3'.cell 3
        have z3 : w4.frozen? ⟨w.heap.size, 3, none⟩ = false := hb3'.frozen 3
        have r4 : w4.cell? ⟨w.heap.size, 4, none⟩ = some (.int .i64 0) := hb3'.cell 4
        have z4 : w4.frozen? ⟨w.heap.size, 4, none⟩ = false := hb3'.frozen 4
        have r5 : w4.cell? ⟨w.heap.size, 5, none⟩ = some (.int .i64 0) := hb3'.cell 5
        have z5 : w4.frozen? ⟨w.heap.size, 5, none⟩ = false := hb3'.frozen 5
        have r6 : w4.cell? ⟨w.heap.size, 6, none⟩ = some (.int .i64 0) := hb3'.cell 6
        have z6 : w4.frozen? ⟨w.heap.size, 6, none⟩ = false := hb3'.frozen 6
        have r7 : w4.cell? ⟨w.heap.size, 7, none⟩ = some (.int .i64 0) := hb3'.cell 7
        have z7 : w4.frozen? ⟨w.heap.size, 7, none⟩ = false := hb3'.frozen 7
        have ha := hN3'.2.1 t (by omega)
        have hf := hN3'.2.2 t
        rcases hnum with ⟨hz, rfl, rfl⟩ | ⟨hz, rfl, hout, hv1, hv2⟩ | ⟨v', hz, rfl, rfl, hv1, hv2⟩
        · have HQ := Lib.hid (lelem_end (l := l) hb3' hw3' ⟨0, ⟨#[]⟩, 0, 0, 0, 0, 0, 0⟩ 6 (Ly.el_num Ho.out Hnw.out (by rw [HWn.out]; omega) hz _))
          clear hz hb3' hx3' hN3' hw3'
          go_wp2_with fail
          obtain ⟨hB, hE⟩ := HQ.out
          change bodyPost _ _ _ _ _ (store8 w4 w.heap.size ⟨0, ⟨#[]⟩, 0, 0, 0, 0, 0, 0⟩)
          generalize store8 w4 w.heap.size ⟨0, ⟨#[]⟩, 0, 0, 0, 0, 0, 0⟩ = WW at hB hE ⊢
          have q0 : WW.cell? ⟨w.heap.size, 0, none⟩ = some (.int .i64 (0)) := hB.cell 0
          have q1 : WW.cell? ⟨w.heap.size, 1, none⟩ = some (.string (⟨#[]⟩)) := hB.cell 1
          have q2 : WW.cell? ⟨w.heap.size, 2, none⟩ = some (.int .i64 (0)) := hB.cell 2
          have q3 : WW.cell? ⟨w.heap.size, 3, none⟩ = some (.int .i64 (0)) := hB.cell 3
          have q4 : WW.cell? ⟨w.heap.size, 4, none⟩ = some (.int .i64 (0)) := hB.cell 4
          have q5 : WW.cell? ⟨w.heap.size, 5, none⟩ = some (.int .i64 (0)) := hB.cell 5
          have q6 : WW.cell? ⟨w.heap.size, 6, none⟩ = some (.int .i64 (0)) := hB.cell 6
          have q7 : WW.cell? ⟨w.heap.size, 7, none⟩ = some (.int .i64 (0)) := hB.cell 7
          exact bodyPost_ret (v := .tuple #[leV ⟨0, ⟨#[]⟩, 0, 0, 0, 0, 0, 0⟩, .int .i64 6]) (by simp [results, leV, Tryd.results35, go_sem, q0, q1, q2, q3, q4, q5, q6, q7]) rfl hE
        · cases q
          · rcases hout with hout | hout
            · have g1 : decide (v < -1000000000) = true := decide_eq_true hout
              clear hout
              have HS' := Lib.hid (HS.out.step hz (n := v) (by intro v hv; cases hv) (b' := true) (by simp))
              have hN4 := hN3'.set t v (f' := fun j => if j = t then v else f j) (if_pos rfl) (fun i hi hne => if_neg hne)
              have hb5 := hb3'.far (p := ⟨w.heap.size + 1 + 1, t, none⟩) (by simp; omega) (.int .i64 v)
              have hx5 := hx3'.far (p := ⟨w.heap.size + 1 + 1, t, none⟩) (by simp) (.int .i64 v)
              have hw5 := hw3'.setCell (p := ⟨w.heap.size + 1 + 1, t, none⟩) (by simp; omega) (.int .i64 v)
              clear hz hb3' hx3' hN3' hw3'
              go_wp2_with fail
              go_roundw
              case rel => exact (show LEI _ _ _ _ _ _ _ from ⟨t + 1, _, _, by omega, by go_num, rfl, HS', hb5, hx5, hN4, hw5⟩)
              case measure => simp [intOf]; omega
            · have g1 : decide (v < -1000000000) = false := decide_eq_false (by omega)
              have g2 : decide (1000000000 < v) = true := decide_eq_true hout
              clear hout
              have HS' := Lib.hid (HS.out.step hz (n := v) (by intro v hv; cases hv) (b' := true) (by simp))
              have hN4 := hN3'.set t v (f' := fun j => if j = t then v else f j) (if_pos rfl) (fun i hi hne => if_neg hne)
              have hb5 := hb3'.far (p := ⟨w.heap.size + 1 + 1, t, none⟩) (by simp; omega) (.int .i64 v)
              have hx5 := hx3'.far (p := ⟨w.heap.size + 1 + 1, t, none⟩) (by simp) (.int .i64 v)
              have hw5 := hw3'.setCell (p := ⟨w.heap.size + 1 + 1, t, none⟩) (by simp; omega) (.int .i64 v)
              clear hz hb3' hx3' hN3' hw3'
              go_wp2_with fail
              go_roundw
              case rel => exact (show LEI _ _ _ _ _ _ _ from ⟨t + 1, _, _, by omega, by go_num, rfl, HS', hb5, hx5, hN4, hw5⟩)
              case measure => simp [intOf]; omega
          · clear hout
            skip
            have HS' := Lib.hid (HS.out.step hz (n := v) (by intro v hv; cases hv) (b' := true) (by simp))
            have hN4 := hN3'.set t v (f' := fun j => if j = t then v else f j) (if_pos rfl) (fun i hi hne => if_neg hne)
            have hb5 := hb3'.far (p := ⟨w.heap.size + 1 + 1, t, none⟩) (by simp; omega) (.int .i64 v)
            have hx5 := hx3'.far (p := ⟨w.heap.size + 1 + 1, t, none⟩) (by simp) (.int .i64 v)
            have hw5 := hw3'.setCell (p := ⟨w.heap.size + 1 + 1, t, none⟩) (by simp; omega) (.int .i64 v)
            clear hz hb3' hx3' hN3' hw3'
            go_wp2_with fail
            go_roundw
            case rel => exact (show LEI _ _ _ _ _ _ _ from ⟨t + 1, _, _, by omega, by go_num, rfl, HS', hb5, hx5, hN4, hw5⟩)
            case measure => simp [intOf]; omega
        · cases q
          · have g1 : decide (v < -1000000000) = false := decide_eq_false (by omega)
            have g2 : decide (1000000000 < v) = false := decide_eq_false (by omega)
            skip
            have HS' := Lib.hid (HS.out.step hz (n := v) (by intro u hu; exact Option.some.inj hu) (b' := false) (by simp))
            have hN4 := hN3'.set t v (f' := fun j => if j = t then v else f j) (if_pos rfl) (fun i hi hne => if_neg hne)
            have hb5 := hb3'.far (p := ⟨w.heap.size + 1 + 1, t, none⟩) (by simp; omega) (.int .i64 v)
            have hx5 := hx3'.far (p := ⟨w.heap.size + 1 + 1, t, none⟩) (by simp) (.int .i64 v)
            have hw5 := hw3'.setCell (p := ⟨w.heap.size + 1 + 1, t, none⟩) (by simp; omega) (.int .i64 v)
            clear hz hb3' hx3' hN3' hw3'
            go_wp2_with fail
            go_roundw
            case rel => exact (show LEI _ _ _ _ _ _ _ from ⟨t + 1, _, _, by omega, by go_num, rfl, HS', hb5, hx5, hN4, hw5⟩)
            case measure => simp [intOf]; omega
          · skip
            skip
            have HS' := Lib.hid (HS.out.step hz (n := v) (by intro u hu; exact Option.some.inj hu) (b' := true) (by simp))
            have hN4 := hN3'.set t v (f' := fun j => if j = t then v else f j) (if_pos rfl) (fun i hi hne => if_neg hne)
            have hb5 := hb3'.far (p := ⟨w.heap.size + 1 + 1, t, none⟩) (by simp; omega) (.int .i64 v)
            have hx5 := hx3'.far (p := ⟨w.heap.size + 1 + 1, t, none⟩) (by simp) (.int .i64 v)
            have hw5 := hw3'.setCell (p := ⟨w.heap.size + 1 + 1, t, none⟩) (by simp; omega) (.int .i64 v)
            clear hz hb3' hx3' hN3' hw3'
            go_wp2_with fail
            go_roundw
            case rel => exact (show LEI _ _ _ _ _ _ _ from ⟨t + 1, _, _, by omega, by go_num, rfl, HS', hb5, hx5, hN4, hw5⟩)
            case measure => simp [intOf]; omega
      · skip
        obtain rfl : t = 3 := by omega
        cases q
        case true =>
          have HQ := Lib.hid (lelem_end (l := l) hb3 hw3 ⟨0, ⟨#[]⟩, 0, 0, 0, 0, 0, 0⟩ 2 (Ly.el_range Ho.out Hnw.out HS.out (by rw [HWn.out]) _))
          clear hb3 hx3 hN3 hw3 hMr
          go_wp2_with fail
          obtain ⟨hB, hE⟩ := HQ.out
          change bodyPost _ _ _ _ _ (store8 wr w.heap.size ⟨0, ⟨#[]⟩, 0, 0, 0, 0, 0, 0⟩)
          generalize store8 wr w.heap.size ⟨0, ⟨#[]⟩, 0, 0, 0, 0, 0, 0⟩ = WW at hB hE ⊢
          have q0 : WW.cell? ⟨w.heap.size, 0, none⟩ = some (.int .i64 (0)) := hB.cell 0
          have q1 : WW.cell? ⟨w.heap.size, 1, none⟩ = some (.string (⟨#[]⟩)) := hB.cell 1
          have q2 : WW.cell? ⟨w.heap.size, 2, none⟩ = some (.int .i64 (0)) := hB.cell 2
          have q3 : WW.cell? ⟨w.heap.size, 3, none⟩ = some (.int .i64 (0)) := hB.cell 3
          have q4 : WW.cell? ⟨w.heap.size, 4, none⟩ = some (.int .i64 (0)) := hB.cell 4
          have q5 : WW.cell? ⟨w.heap.size, 5, none⟩ = some (.int .i64 (0)) := hB.cell 5
          have q6 : WW.cell? ⟨w.heap.size, 6, none⟩ = some (.int .i64 (0)) := hB.cell 6
          have q7 : WW.cell? ⟨w.heap.size, 7, none⟩ = some (.int .i64 (0)) := hB.cell 7
          exact bodyPost_ret (v := .tuple #[leV ⟨0, ⟨#[]⟩, 0, 0, 0, 0, 0, 0⟩, .int .i64 2]) (by simp [results, leV, Tryd.results35, go_sem, q0, q1, q2, q3, q4, q5, q6, q7]) rfl hE
        case false =>
          obtain ⟨nb, hnb⟩ : ∃ nb, Pl.nameOk (baOf (Ly.wd Ws 1)) = nb := ⟨_, rfl⟩
          have Hnb := Lib.hid hnb
          have HNm : Hid (∀ W : World, Calls Tryd.prog 44 #[.string (baOf (Ly.wd Ws 1))] W fun e w' => e = .returned (.bool nb) ∧ W = w') := Lib.hid (fun W => by
            have := name_c (baOf (Ly.wd Ws 1)) W (by have := Hws.out 1; unfold maxLen; omega)
            rw [hnb] at this
            exact this)
          clear hnb
          go_wp2_with fail
          refine (HNm.out _).mono ?_
          rintro e w4 ⟨rfl, rfl⟩
          clear HNm
          cases nb
          case false =>
            have HQ := Lib.hid (lelem_end (l := l) hb3 hw3 ⟨0, ⟨#[]⟩, 0, 0, 0, 0, 0, 0⟩ 7 (Ly.el_name Ho.out Hnw.out HS.out (by rw [HWn.out]; omega) Hnb.out _))
            clear hb3 hx3 hN3 hw3 hMr
            go_wp2_with fail
            obtain ⟨hB, hE⟩ := HQ.out
            change bodyPost _ _ _ _ _ (store8 wr w.heap.size ⟨0, ⟨#[]⟩, 0, 0, 0, 0, 0, 0⟩)
            generalize store8 wr w.heap.size ⟨0, ⟨#[]⟩, 0, 0, 0, 0, 0, 0⟩ = WW at hB hE ⊢
            have q0 : WW.cell? ⟨w.heap.size, 0, none⟩ = some (.int .i64 (0)) := hB.cell 0
            have q1 : WW.cell? ⟨w.heap.size, 1, none⟩ = some (.string (⟨#[]⟩)) := hB.cell 1
            have q2 : WW.cell? ⟨w.heap.size, 2, none⟩ = some (.int .i64 (0)) := hB.cell 2
            have q3 : WW.cell? ⟨w.heap.size, 3, none⟩ = some (.int .i64 (0)) := hB.cell 3
            have q4 : WW.cell? ⟨w.heap.size, 4, none⟩ = some (.int .i64 (0)) := hB.cell 4
            have q5 : WW.cell? ⟨w.heap.size, 5, none⟩ = some (.int .i64 (0)) := hB.cell 5
            have q6 : WW.cell? ⟨w.heap.size, 6, none⟩ = some (.int .i64 (0)) := hB.cell 6
            have q7 : WW.cell? ⟨w.heap.size, 7, none⟩ = some (.int .i64 (0)) := hB.cell 7
            exact bodyPost_ret (v := .tuple #[leV ⟨0, ⟨#[]⟩, 0, 0, 0, 0, 0, 0⟩, .int .i64 7]) (by simp [results, leV, Tryd.results35, go_sem, q0, q1, q2, q3, q4, q5, q6, q7]) rfl hE
          case true =>
            have c2 := keep_cell hw3 (Hc.out 2 (by omega))
            obtain ⟨po, hpo⟩ : ∃ po, Ly.idxGo (Ly.sufOf (Ly.wd Ws 2)).1 l 0 = po := ⟨_, rfl⟩
            obtain ⟨sd, hsd⟩ : ∃ sd, (Ly.sufOf (Ly.wd Ws 2)).2 = sd := ⟨_, rfl⟩
            have HP := Lib.hid (lparent_c (baOf (Ly.wd Ws 2)) b m l wr (Hws.out 2) hMr Hok.out)
            rw [baOf_data, hpo, hsd] at HP
            have Hpo := Lib.hid hpo
            have Hsd := Lib.hid hsd
            clear hpo hsd
            go_wp2_with fail
            refine HP.out.mono ?_
            rintro e w4 ⟨rfl, rfl⟩
            clear HP
            cases po
            case none =>
              have HQ := Lib.hid (lelem_end (l := l) hb3 hw3 ⟨0, ⟨#[]⟩, 0, 0, 0, 0, 0, 0⟩ 7 (Ly.el_par Ho.out Hk0.out Hnw.out HS.out (by rw [HWn.out]; omega) Hnb.out Hpo.out _))
              unfold ParR
              clear hb3 hx3 hN3 hw3 hMr
              go_wp2_with fail
              obtain ⟨hB, hE⟩ := HQ.out
              change bodyPost _ _ _ _ _ (store8 wr w.heap.size ⟨0, ⟨#[]⟩, 0, 0, 0, 0, 0, 0⟩)
              generalize store8 wr w.heap.size ⟨0, ⟨#[]⟩, 0, 0, 0, 0, 0, 0⟩ = WW at hB hE ⊢
              have q0 : WW.cell? ⟨w.heap.size, 0, none⟩ = some (.int .i64 (0)) := hB.cell 0
              have q1 : WW.cell? ⟨w.heap.size, 1, none⟩ = some (.string (⟨#[]⟩)) := hB.cell 1
              have q2 : WW.cell? ⟨w.heap.size, 2, none⟩ = some (.int .i64 (0)) := hB.cell 2
              have q3 : WW.cell? ⟨w.heap.size, 3, none⟩ = some (.int .i64 (0)) := hB.cell 3
              have q4 : WW.cell? ⟨w.heap.size, 4, none⟩ = some (.int .i64 (0)) := hB.cell 4
              have q5 : WW.cell? ⟨w.heap.size, 5, none⟩ = some (.int .i64 (0)) := hB.cell 5
              have q6 : WW.cell? ⟨w.heap.size, 6, none⟩ = some (.int .i64 (0)) := hB.cell 6
              have q7 : WW.cell? ⟨w.heap.size, 7, none⟩ = some (.int .i64 (0)) := hB.cell 7
              exact bodyPost_ret (v := .tuple #[leV ⟨0, ⟨#[]⟩, 0, 0, 0, 0, 0, 0⟩, .int .i64 7]) (by simp [results, leV, Tryd.results35, go_sem, q0, q1, q2, q3, q4, q5, q6, q7]) rfl hE
            case some i =>
              have hne : w.heap.size ≠ w.heap.size + 1 := by omega
              have hge : w.heap.size ≤ w.heap.size + 1 := by omega
              have hb9 : Blk ((((((wr.setCell ⟨w.heap.size + 1, 2, none⟩ (.int .i64 (i : Int))).setCell ⟨w.heap.size + 1, 3, none⟩ (.int .i64 sd)).setCell ⟨w.heap.size + 1, 4, none⟩ (.int .i64 (f 0))).setCell ⟨w.heap.size + 1, 5, none⟩ (.int .i64 (f 1))).setCell ⟨w.heap.size + 1, 6, none⟩ (.int .i64 (f 2))).setCell ⟨w.heap.size + 1, 7, none⟩ (.int .i64 (f 3))).drew w.heap.size 48 #[.int .i64 0, .string ⟨#[]⟩, .int .i64 0, .int .i64 0, .int .i64 0, .int .i64 0, .int .i64 0, .int .i64 0] := (((((((hb3.far (p := ⟨w.heap.size + 1, 2, none⟩) hne (.int .i64 (i : Int))).far (p := ⟨w.heap.size + 1, 3, none⟩) hne (.int .i64 sd)).far (p := ⟨w.heap.size + 1, 4, none⟩) hne (.int .i64 (f 0))).far (p := ⟨w.heap.size + 1, 5, none⟩) hne (.int .i64 (f 1))).far (p := ⟨w.heap.size + 1, 6, none⟩) hne (.int .i64 (f 2))).far (p := ⟨w.heap.size + 1, 7, none⟩) hne (.int .i64 (f 3)))).drew
              have hx9 : Blk ((((((wr.setCell ⟨w.heap.size + 1, 2, none⟩ (.int .i64 (i : Int))).setCell ⟨w.heap.size + 1, 3, none⟩ (.int .i64 sd)).setCell ⟨w.heap.size + 1, 4, none⟩ (.int .i64 (f 0))).setCell ⟨w.heap.size + 1, 5, none⟩ (.int .i64 (f 1))).setCell ⟨w.heap.size + 1, 6, none⟩ (.int .i64 (f 2))).setCell ⟨w.heap.size + 1, 7, none⟩ (.int .i64 (f 3))).drew (w.heap.size + 1) 48 #[.int .i64 k, .string (baOf (Ly.wd Ws 1)), .int .i64 (i : Int), .int .i64 sd, .int .i64 (f 0), .int .i64 (f 1), .int .i64 (f 2), .int .i64 (f 3)] := by simpa using (((((((hx3.set_ 2 (.int .i64 (i : Int))).set_ 3 (.int .i64 sd)).set_ 4 (.int .i64 (f 0))).set_ 5 (.int .i64 (f 1))).set_ 6 (.int .i64 (f 2))).set_ 7 (.int .i64 (f 3)))).drew
              have hw9 : Below w.heap.size w ((((((wr.setCell ⟨w.heap.size + 1, 2, none⟩ (.int .i64 (i : Int))).setCell ⟨w.heap.size + 1, 3, none⟩ (.int .i64 sd)).setCell ⟨w.heap.size + 1, 4, none⟩ (.int .i64 (f 0))).setCell ⟨w.heap.size + 1, 5, none⟩ (.int .i64 (f 1))).setCell ⟨w.heap.size + 1, 6, none⟩ (.int .i64 (f 2))).setCell ⟨w.heap.size + 1, 7, none⟩ (.int .i64 (f 3))).drew := below_drew2 ((((((hw3.setCell (p := ⟨w.heap.size + 1, 2, none⟩) hge (.int .i64 (i : Int))).setCell (p := ⟨w.heap.size + 1, 3, none⟩) hge (.int .i64 sd)).setCell (p := ⟨w.heap.size + 1, 4, none⟩) hge (.int .i64 (f 0))).setCell (p := ⟨w.heap.size + 1, 5, none⟩) hge (.int .i64 (f 1))).setCell (p := ⟨w.heap.size + 1, 6, none⟩) hge (.int .i64 (f 2))).setCell (p := ⟨w.heap.size + 1, 7, none⟩) hge (.int .i64 (f 3)))
              have HQ := Lib.hid (lelem_end (l := l) (Ws := Ws) hb9 hw9 ⟨k, baOf (Ly.wd Ws 1), (i : Int), sd, f 0, f 1, f 2, f 3⟩ 0 (by
                have := Ly.el_ok Ho.out Hk0.out Hnw.out HS.out (by rw [HWn.out]) (.inr ⟨Hk2.out, rfl⟩) Hnb.out Hpo.out
                rw [Hsd.out] at this
                exact this))
              have a0 := hN3.2.1 0 (by omega)
              have a1 := hN3.2.1 1 (by omega)
              have a2 := hN3.2.1 2 (by omega)
              have a3 := hN3.2.1 3 (by omega)
              unfold ParR
              clear hMr hne hge
              have HB9 := Lib.hid hb9
              have HX9 := Lib.hid hx9
              clear hb3 hx3 hN3 hw3 hb9 hx9 hw9
              go_wp2_with fail
              go_region_held3 (fun W => W.cell? ⟨w.heap.size + 1 + 1, 0, none⟩ = some (.int .i64 (f 0)) ∧ W.cell? ⟨w.heap.size + 1 + 1, 1, none⟩ = some (.int .i64 (f 1)) ∧ W.cell? ⟨w.heap.size + 1 + 1, 2, none⟩ = some (.int .i64 (f 2)) ∧ W.cell? ⟨w.heap.size + 1 + 1, 3, none⟩ = some (.int .i64 (f 3))) (go_keep) (fail)
              generalize ((((((wr.setCell ⟨w.heap.size + 1, 2, none⟩ (.int .i64 (i : Int))).setCell ⟨w.heap.size + 1, 3, none⟩ (.int .i64 sd)).setCell ⟨w.heap.size + 1, 4, none⟩ (.int .i64 (f 0))).setCell ⟨w.heap.size + 1, 5, none⟩ (.int .i64 (f 1))).setCell ⟨w.heap.size + 1, 6, none⟩ (.int .i64 (f 2))).setCell ⟨w.heap.size + 1, 7, none⟩ (.int .i64 (f 3))).drew = W9 at HB9 HX9 HQ ⊢
              clear r0 z0 r1 z1 r2 z2 r3 z3 r4 z4 r5 z5 r6 z6 r7 z7 x0 y0 x1 y1 x2 y2 x3 y3 x4 y4 x5 y5 x6 y6 x7 y7 a0 a1 a2 a3
              have r0 : W9.cell? ⟨w.heap.size, 0, none⟩ = some (.int .i64 0) := HB9.out.cell 0
              have z0 : W9.frozen? ⟨w.heap.size, 0, none⟩ = false := HB9.out.frozen 0
              have r1 : W9.cell? ⟨w.heap.size, 1, none⟩ = some (.string ⟨#[]⟩) := HB9.out.cell 1
              have z1 : W9.frozen? ⟨w.heap.size, 1, none⟩ = false := HB9.out.frozen 1
              have r2 : W9.cell? ⟨w.heap.size, 2, none⟩ = some (.int .i64 0) := HB9.out.cell 2
              have z2 : W9.frozen? ⟨w.heap.size, 2, none⟩ = false := HB9.out.frozen 2
              have r3 : W9.cell? ⟨w.heap.size, 3, none⟩ = some (.int .i64 0) := HB9.out.cell 3
              have z3 : W9.frozen? ⟨w.heap.size, 3, none⟩ = false := HB9.out.frozen 3
              have r4 : W9.cell? ⟨w.heap.size, 4, none⟩ = some (.int .i64 0) := HB9.out.cell 4
              have z4 : W9.frozen? ⟨w.heap.size, 4, none⟩ = false := HB9.out.frozen 4
              have r5 : W9.cell? ⟨w.heap.size, 5, none⟩ = some (.int .i64 0) := HB9.out.cell 5
              have z5 : W9.frozen? ⟨w.heap.size, 5, none⟩ = false := HB9.out.frozen 5
              have r6 : W9.cell? ⟨w.heap.size, 6, none⟩ = some (.int .i64 0) := HB9.out.cell 6
              have z6 : W9.frozen? ⟨w.heap.size, 6, none⟩ = false := HB9.out.frozen 6
              have r7 : W9.cell? ⟨w.heap.size, 7, none⟩ = some (.int .i64 0) := HB9.out.cell 7
              have z7 : W9.frozen? ⟨w.heap.size, 7, none⟩ = false := HB9.out.frozen 7
              have x0 : W9.cell? ⟨w.heap.size + 1, 0, none⟩ = some (.int .i64 k) := HX9.out.cell 0
              have y0 : W9.frozen? ⟨w.heap.size + 1, 0, none⟩ = false := HX9.out.frozen 0
              have x1 : W9.cell? ⟨w.heap.size + 1, 1, none⟩ = some (.string (baOf (Ly.wd Ws 1))) := HX9.out.cell 1
              have y1 : W9.frozen? ⟨w.heap.size + 1, 1, none⟩ = false := HX9.out.frozen 1
              have x2 : W9.cell? ⟨w.heap.size + 1, 2, none⟩ = some (.int .i64 (i : Int)) := HX9.out.cell 2
              have y2 : W9.frozen? ⟨w.heap.size + 1, 2, none⟩ = false := HX9.out.frozen 2
              have x3 : W9.cell? ⟨w.heap.size + 1, 3, none⟩ = some (.int .i64 sd) := HX9.out.cell 3
              have y3 : W9.frozen? ⟨w.heap.size + 1, 3, none⟩ = false := HX9.out.frozen 3
              have x4 : W9.cell? ⟨w.heap.size + 1, 4, none⟩ = some (.int .i64 (f 0)) := HX9.out.cell 4
              have y4 : W9.frozen? ⟨w.heap.size + 1, 4, none⟩ = false := HX9.out.frozen 4
              have x5 : W9.cell? ⟨w.heap.size + 1, 5, none⟩ = some (.int .i64 (f 1)) := HX9.out.cell 5
              have y5 : W9.frozen? ⟨w.heap.size + 1, 5, none⟩ = false := HX9.out.frozen 5
              have x6 : W9.cell? ⟨w.heap.size + 1, 6, none⟩ = some (.int .i64 (f 2)) := HX9.out.cell 6
              have y6 : W9.frozen? ⟨w.heap.size + 1, 6, none⟩ = false := HX9.out.frozen 6
              have x7 : W9.cell? ⟨w.heap.size + 1, 7, none⟩ = some (.int .i64 (f 3)) := HX9.out.cell 7
              have y7 : W9.frozen? ⟨w.heap.size + 1, 7, none⟩ = false := HX9.out.frozen 7
              clear HB9 HX9
              go_wp2_with fail
              obtain ⟨hB, hE⟩ := HQ.out
              change bodyPost _ _ _ _ _ (store8 W9 w.heap.size ⟨k, baOf (Ly.wd Ws 1), (i : Int), sd, f 0, f 1, f 2, f 3⟩)
              generalize store8 W9 w.heap.size ⟨k, baOf (Ly.wd Ws 1), (i : Int), sd, f 0, f 1, f 2, f 3⟩ = WW at hB hE ⊢
              have q0 : WW.cell? ⟨w.heap.size, 0, none⟩ = some (.int .i64 (k)) := hB.cell 0
              have q1 : WW.cell? ⟨w.heap.size, 1, none⟩ = some (.string (baOf (Ly.wd Ws 1))) := hB.cell 1
              have q2 : WW.cell? ⟨w.heap.size, 2, none⟩ = some (.int .i64 ((i : Int))) := hB.cell 2
              have q3 : WW.cell? ⟨w.heap.size, 3, none⟩ = some (.int .i64 (sd)) := hB.cell 3
              have q4 : WW.cell? ⟨w.heap.size, 4, none⟩ = some (.int .i64 (f 0)) := hB.cell 4
              have q5 : WW.cell? ⟨w.heap.size, 5, none⟩ = some (.int .i64 (f 1)) := hB.cell 5
              have q6 : WW.cell? ⟨w.heap.size, 6, none⟩ = some (.int .i64 (f 2)) := hB.cell 6
              have q7 : WW.cell? ⟨w.heap.size, 7, none⟩ = some (.int .i64 (f 3)) := hB.cell 7
              exact bodyPost_ret (v := .tuple #[leV ⟨k, baOf (Ly.wd Ws 1), (i : Int), sd, f 0, f 1, f 2, f 3⟩, .int .i64 0]) (by simp [results, leV, Tryd.results35, go_sem, q0, q1, q2, q3, q4, q5, q6, q7]) rfl hE
theorem lelem_c (g n c b m B : Nat) (l : List LE) (Ws : List (List UInt8)) (w : World) (hn1 : 1 ≤ n) (hn2 : n ≤ 1000000) (own : w.ownsRow B 9 1 (.slice (some ⟨g, 0, none⟩) n c) n ((Ws.map baOf).map Value.string)) (hws : ∀ j, (baOf (Ly.wd Ws j)).size ≤ 1000000) (hM : MapO keyS 3 w b m (idxOf l)) (hok : ∀ x ∈ l, Pl.nameOk x.nm = true) :
    Calls Tryd.prog 35 #[.slice (some ⟨g, 0, none⟩) n c, .map (some b)] w (LElemR l Ws w) := by
  cases ho : Ly.kindOf (Ly.wd Ws 0) with
  | none => exact lelem_n g n c b m B l Ws w hn1 hn2 own hws hM hok ho
  | some k =>
    by_cases h0 : k = 0
    · exact lelem_0 g n c b m B l Ws w hn1 hn2 own hws hM hok (h0 ▸ ho)
    · by_cases h2 : k = 2
      · exact lelem_2 g n c b m B l Ws w hn1 hn2 own hws hM hok (h2 ▸ ho)
      · exact lelem_k g n c b m B l Ws w hn1 hn2 own hws hM hok k ho h0 h2
end Go.Proofs.YtmjdjcpmkdninaaDoor
