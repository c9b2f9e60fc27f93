/- The walks of rollin's run, Run, Pushes. -/
import Derived.Test.YtocohkgdkebmdaaGreatTlM5
namespace Go.Proofs.YtocohkgdkebmdaaGreat
open Go.RowKit
theorem OwnLL.more {w : World} {B B' n : Nat} {eO eI : TypeId} {v : Value} {L : List (List Nat)} {vs : List Value} (h : OwnLL w B eO eI v n L vs) (hB : B' ≤ B) : OwnLL w B' eO eI v n L vs :=
  ⟨own_more h.outer hB, h.len, fun i hi => own_more (h.inner i hi) hB, h.far⟩
theorem OwnLL.blk_set {w : World} {B n : Nat} {eO eI : TypeId} {v : Value} {L : List (List Nat)} {vs : List Value} (h : OwnLL w B eO eI v n L vs) {k j : Nat} {u : Value} {t : TypeId} {cs : Array Value} (hk : Blk w k t cs) (h1 : eO ≠ t) (h2 : eI ≠ t) : OwnLL (w.setCell ⟨k, j, none⟩ u) B eO eI v n L vs :=
  h.far_set (own_blk_ne h.outer hk h1) (fun i hi => own_blk_ne (h.inner i hi) hk h2)
/-- The loop of run. -/
def RnA (B gm gs : Nat) (A : Option Addr) (n c k S : Nat) (AK : Option Addr) (cK : Nat) (vT : Value) (l : List IT) (K : List Nat) (w : World) (p : Value) (w' : World) : Prop :=
  ∃ t : Nat, t ≤ S + 1 ∧ p = .int .i64 t ∧ MachX B gm gs A n c k S AK cK vT (Tl.runTo l K S t) nilS [] w w'
/-- What run leaves. -/
def RunR (A : Option Addr) (n c k S : Nat) (AK : Option Addr) (cK : Nat) (l : List IT) (K : List Nat) (w : World) (e : Ending) (w' : World) : Prop :=
  ∃ (gm gs B : Nat) (vT : Value) (vsS vsT : List Value), e = .returned (.pointer (some ⟨gm, 0, none⟩)) ∧ w.heap.size ≤ B ∧ Below w.heap.size w w' ∧ MachS w' B gm gs A n c k S AK cK vT (Tl.run l K S) vsS vsT nilS []
set_option maxRecDepth 100000 in
set_option maxHeartbeats 2000000 in
theorem mrun_c (A AK : Option Addr) (n c k S cK : Nat) (l : List IT) (K : List Nat) (w : World) (hj : Tl.JobOk l k) (hp : Tl.PlanOk l k S K) (h : IR4 w A n l) (hK : Reads w w.heap.size 1 AK n (ints64 K)) :
    Calls Tryz.prog 42 #[jobV A n c k, planV S AK n cK, .int .i64 S] w (RunR A n c k S AK cK l K w) := by
  have hl := h.len
  have hn := hj.len
  have hS := hp.st
  have hf := hp.fit hj
  obtain ⟨W0, hW0⟩ : ∃ W0, (w.alloc (.cells #[.slice A n c, .int .i64 k] 57)).alloc (.cells #[.int .i64 S, .slice AK n cK] 59) = W0 := ⟨_, rfl⟩
  have hB1 : Blk W0 w.heap.size 57 #[.slice A n c, .int .i64 k] := by rw [← hW0]; exact (Blk.new w _ _).alloc _
  have hB2 : Blk W0 (w.heap.size + 1) 59 #[.int .i64 S, .slice AK n cK] := by
    rw [← hW0]
    have := Blk.new (w.alloc (.cells #[.slice A n c, .int .i64 k] 57)) 59 #[.int .i64 S, .slice AK n cK]
    simpa using this
  have hb0 : Below w.heap.size w W0 := by rw [← hW0]; exact ((Below.refl _ _).alloc (Nat.le_refl _) _).alloc (by simp) _
  have hs0 := hb0.size
  have h0 : Reads W0 W0.heap.size 4 A n (flat4 l) := h.below hb0
  have hK0 : Reads W0 W0.heap.size 1 AK n (ints64 K) := (hK.below hb0).more hs0
  have HS := Lib.hid (mstart_c n c k S cK A AK l W0 h0 hS (by omega) (fun x hx => (hj.its x hx).1))
  have hok := Tl.runOk_at hf hj
  have hkb : ∀ x, x < n → Tl.kAt K x < 4096 := fun x hx => by
    have h1 := (hp.codes x (by omega)).2
    have h12 : 2 ^ S ≤ 2 ^ 12 := Nat.pow_le_pow_right (by decide) hS
    omega
  have Hok := Lib.hid hok
  have Hkb := Lib.hid hkb
  unfold jobV planV at HS ⊢
  obtain ⟨B, hB⟩ : ∃ B, w.heap.size = B := ⟨_, rfl⟩
  rw [hB] at hB1 hB2 hb0 hs0
  have j0 := hB1.cell 0
  have j1 := hB1.cell 1
  have p0 := hB2.cell 0
  have p1 := hB2.cell 1
  simp at j0 j1 p0 p1
  clear hok hkb h hK hB1 hB2
  go_enter Tryz.func42, Tryz.ntmps42
  go_wp2_with fail
  clear hW0
  refine HS.out.mono ?_
  rintro e w1 ⟨gm, gs, vT, rfl, hx1⟩
  clear HS j0 j1 p0 p1
  go_wp2_with fail
  go_loopw [8] (fun p wr => RnA W0.heap.size gm gs A n c k S AK cK vT l K W0 p wr) (fun p _ => S + 1 - (intOf p).toNat)
  case atStart => exact (show RnA _ _ _ _ _ _ _ _ _ _ _ _ _ _ _ _ from ⟨0, by omega, rfl, hx1⟩)
  case round =>
    clear hx1
    obtain ⟨t, ht, rfl, hbr, vs1, vs2, hm⟩ := hrel
    by_cases hlt : t ≤ S
    · have ho := Hok.out t hlt
      have hmv := ho.mv
      have hpu := ho.pu
      have HM := Lib.hid (mat_c W0.heap.size gm gs n c k S cK t A AK vT (Tl.runTo l K S t) vs1 vs2 l K wr hm (h0.below hbr) (hK0.below hbr) hbr.size hlt hS Hkb.out
        (fun x hx => by rw [ho.tl]; exact Tl.tr_ok (by omega)) ho.bd (by omega) (by omega) (by omega) (fun x hx => by have := ho.old x hx; omega) ho.oldl)
      have hlt2 : decide ((t : Int) ≤ (S : Int)) = true := decide_eq_true (by omega)
      clear ho hmv hpu hm
      go_wp2_with fail
      refine HM.out.mono ?_
      rintro e w2 ⟨rfl, hb2, hx2⟩
      have hx3 : MachX W0.heap.size gm gs A n c k S AK cK vT (Tl.runTo l K S (t + 1)) nilS [] W0 w2 := ⟨hbr.trans hb2, hx2⟩
      clear HM hb2 hx2
      go_wp2_with fail
      go_roundw
      case rel => exact (show RnA _ _ _ _ _ _ _ _ _ _ _ _ _ _ _ _ from ⟨t + 1, by omega, by go_num, hx3⟩)
      case measure => simp [intOf]; omega
    · obtain rfl : t = S + 1 := by omega
      have hlt2 : decide (((S + 1 : Nat) : Int) ≤ (S : Int)) = false := decide_eq_false (by omega)
      have hrr : RunR A n c k S AK cK l K w (.returned (.pointer (some ⟨gm, 0, none⟩))) wr := ⟨gm, gs, W0.heap.size, vT, vs1, vs2, rfl, by rw [hB]; exact hs0, by rw [hB]; exact hb0.trans (hbr.mono hs0), hm⟩
      clear hm
      go_wp2_with fail
      go_ret
      exact hrr
/-- What Run leaves. -/
def RunV (l : List IT) (S : Nat) (K : List Nat) (w : World) (e : Ending) (w' : World) : Prop :=
  ∃ (vT : Value) (vsT : List Value), e = .returned (.tuple #[.agg #[vT, .int .i64 (Tl.run l K S).mv], .int .i64 0]) ∧ OwnLL w' w.heap.size 22 3 vT (Tl.run l K S).tn.length (Tl.run l K S).tn vsT ∧ Below w.heap.size w w'
set_option maxRecDepth 100000 in
set_option maxHeartbeats 2000000 in
theorem rrun_c (A AK : Option Addr) (n c k S cK : Nat) (l : List IT) (K : List Nat) (w : World) (hj : Tl.JobOk l k) (hp : Tl.PlanOk l k S K) (h : IR4 w A n l) (hK : Reads w w.heap.size 1 AK n (ints64 K)) :
    Calls Tryz.prog 19 #[jobV A n c k, planV S AK n cK] w (RunV l S K w) := by
  have hl := h.len
  obtain ⟨W0, hW0⟩ : ∃ W0, ((w.alloc (.cells #[.slice A n c, .int .i64 k] 57)).alloc (.cells #[.int .i64 S, .slice AK n cK] 59)).alloc (.cells #[.slice none 0 0, .int .i64 0] 69) = W0 := ⟨_, rfl⟩
  have hB1 : Blk W0 w.heap.size 57 #[.slice A n c, .int .i64 k] := by rw [← hW0]; exact ((Blk.new w _ _).alloc _).alloc _
  have hB2 : Blk W0 (w.heap.size + 1) 59 #[.int .i64 S, .slice AK n cK] := by
    rw [← hW0]
    have := Blk.new (w.alloc (.cells #[.slice A n c, .int .i64 k] 57)) 59 #[.int .i64 S, .slice AK n cK]
    exact (show Blk _ (w.heap.size + 1) _ _ by simpa using this).alloc _
  have hB3 : Blk W0 (w.heap.size + 1 + 1) 69 #[.slice none 0 0, .int .i64 0] := by
    rw [← hW0]
    have := Blk.new ((w.alloc (.cells #[.slice A n c, .int .i64 k] 57)).alloc (.cells #[.int .i64 S, .slice AK n cK] 59)) 69 #[.slice none 0 0, .int .i64 0]
    simpa using this
  have hb0 : Below w.heap.size w W0 := by rw [← hW0]; exact (((Below.refl _ _).alloc (Nat.le_refl _) _).alloc (by simp) _).alloc (by simp; omega) _
  have hs0 := hb0.size
  have h0 : Reads W0 W0.heap.size 4 A n (flat4 l) := h.below hb0
  have hK0 : Reads W0 W0.heap.size 1 AK n (ints64 K) := (hK.below hb0).more hs0
  have HV := Lib.hid (rvalid_c A AK n c k S cK l K W0 hj hp h0 hK0)
  have HJ := Lib.hid hj
  have HP := Lib.hid hp
  unfold jobV planV at HV ⊢
  obtain ⟨B, hB⟩ : ∃ B, w.heap.size = B := ⟨_, rfl⟩
  rw [hB] at hB1 hB2 hB3 hb0 hs0
  have j0 := hB1.cell 0
  have j1 := hB1.cell 1
  have p0 := hB2.cell 0
  have p1 := hB2.cell 1
  simp at j0 j1 p0 p1
  clear hj hp h hK
  go_enter Tryz.func19, Tryz.ntmps19
  go_wp2_with fail
  clear hW0
  refine HV.out.mono ?_
  rintro e w1 ⟨rfl, hb1⟩
  have HR := Lib.hid (mrun_c A AK n c k S cK l K w1 HJ.out HP.out (IR4.below h0 hb1) ((hK0.below hb1).more hb1.size))
  replace j0 := keep_cell hb1 j0
  replace j1 := keep_cell hb1 j1
  replace p0 := keep_cell hb1 p0
  replace p1 := keep_cell hb1 p1
  unfold jobV planV at HR
  go_wp2_with fail
  refine HR.out.mono ?_
  rintro e w2 ⟨gm, gs, B2, vT, vsS, vsT, rfl, hB2s, hb2, hm⟩
  have c5 := hm.blk.cell 5
  have c6 := hm.blk.cell 6
  simp at c5 c6
  have hX := ((hB3.below hb1 hB3.lt).below hb2 (hB3.below hb1 hB3.lt).lt)
  have hnx : gm ≠ B + 1 + 1 := hm.blk.ne_ hX (by decide)
  have z0 := hX.frozen 0
  have x0 := hX.cell 0
  have x1 := hX.cell 1
  simp at x0 x1
  have z1 := hX.frozen 1
  have hT : ∃ AT cT, vT = .slice AT (Tl.run l K S).tn.length cT := by obtain ⟨AT, cT, e, _, _⟩ := own_form hm.own.b.outer; exact ⟨AT, cT, e⟩
  obtain ⟨AT, cT, rfl⟩ := hT
  have HM := Lib.hid hm
  have HX := Lib.hid hX
  clear hm HR HV j0 j1 p0 p1 hX
  go_wp2_with fail
  go_region
  all_goals
    go_wp2_with fail
    have hX1 := HX.out.set_ 0 (.slice AT (Tl.run l K S).tn.length cT)
    have hX2 := (hX1.set_ 1 (.int .i64 (Tl.run l K S).mv)).drew
    have hL2 := (((HM.out.own.b.more hB2s).blk_set (j := 0) (u := .slice AT (Tl.run l K S).tn.length cT) HX.out (by decide) (by decide)).blk_set (j := 1) (u := .int .i64 (Tl.run l K S).mv) hX1 (by decide) (by decide)).drew
    have q0 := hX2.cell 0
    have q1 := hX2.cell 1
    simp at q0 q1
    have hb3 : Below B w (((w2.setCell ⟨B + 1 + 1, 0, none⟩ (.slice AT (Tl.run l K S).tn.length cT)).setCell ⟨B + 1 + 1, 1, none⟩ (.int .i64 (Tl.run l K S).mv)).drew) :=
      below_drewN (((hb0.trans ((hb1.mono hs0).trans (hb2.mono (Nat.le_trans hs0 hb1.size)))).setCell (p := ⟨B + 1 + 1, 0, none⟩) (show B ≤ B + 1 + 1 by omega) _).setCell (p := ⟨B + 1 + 1, 1, none⟩) (show B ≤ B + 1 + 1 by omega) _) 1
    have hE : RunV l S K w (.returned (.tuple #[.agg #[.slice AT (Tl.run l K S).tn.length cT, .int .i64 (Tl.run l K S).mv], .int .i64 0])) (((w2.setCell ⟨B + 1 + 1, 0, none⟩ (.slice AT (Tl.run l K S).tn.length cT)).setCell ⟨B + 1 + 1, 1, none⟩ (.int .i64 (Tl.run l K S).mv)).drew) :=
      ⟨_, vsT, rfl, hL2.more (by have := hb1.size; omega), by rw [hB]; exact hb3⟩
    exact bodyPost_ret (v := .tuple #[.agg #[.slice AT (Tl.run l K S).tn.length cT, .int .i64 (Tl.run l K S).mv], .int .i64 0]) (by simp [results, Tryz.results19, go_sem, q0, q1]) rfl hE
/-- Pushes. -/
def PshV (l : List IT) (S : Nat) (K : List Nat) (w : World) (e : Ending) (w' : World) : Prop :=
  e = .returned (.tuple #[.int .i64 (Tl.run l K S).pu, .int .i64 0]) ∧ Below w.heap.size w w'
set_option maxRecDepth 100000 in
set_option maxHeartbeats 2000000 in
theorem rpushes_c (A AK : Option Addr) (n c k S cK : Nat) (l : List IT) (K : List Nat) (w : World) (hj : Tl.JobOk l k) (hp : Tl.PlanOk l k S K) (h : IR4 w A n l) (hK : Reads w w.heap.size 1 AK n (ints64 K)) :
    Calls Tryz.prog 72 #[jobV A n c k, planV S AK n cK] w (PshV l S K w) := by
  obtain ⟨W0, hW0⟩ : ∃ W0, (w.alloc (.cells #[.slice A n c, .int .i64 k] 57)).alloc (.cells #[.int .i64 S, .slice AK n cK] 59) = W0 := ⟨_, rfl⟩
  have hB1 : Blk W0 w.heap.size 57 #[.slice A n c, .int .i64 k] := by rw [← hW0]; exact (Blk.new w _ _).alloc _
  have hB2 : Blk W0 (w.heap.size + 1) 59 #[.int .i64 S, .slice AK n cK] := by
    rw [← hW0]
    have := Blk.new (w.alloc (.cells #[.slice A n c, .int .i64 k] 57)) 59 #[.int .i64 S, .slice AK n cK]
    simpa using this
  have hb0 : Below w.heap.size w W0 := by rw [← hW0]; exact ((Below.refl _ _).alloc (Nat.le_refl _) _).alloc (by simp) _
  have hs0 := hb0.size
  have h0 : Reads W0 W0.heap.size 4 A n (flat4 l) := h.below hb0
  have hK0 : Reads W0 W0.heap.size 1 AK n (ints64 K) := (hK.below hb0).more hs0
  have HV := Lib.hid (rvalid_c A AK n c k S cK l K W0 hj hp h0 hK0)
  have HJ := Lib.hid hj
  have HP := Lib.hid hp
  unfold jobV planV at HV ⊢
  obtain ⟨B, hB⟩ : ∃ B, w.heap.size = B := ⟨_, rfl⟩
  rw [hB] at hB1 hB2 hb0 hs0
  have j0 := hB1.cell 0
  have j1 := hB1.cell 1
  have p0 := hB2.cell 0
  have p1 := hB2.cell 1
  simp at j0 j1 p0 p1
  clear hj hp h hK
  go_enter Tryz.func72, Tryz.ntmps72
  go_wp2_with fail
  clear hW0
  refine HV.out.mono ?_
  rintro e w1 ⟨rfl, hb1⟩
  have HR := Lib.hid (mrun_c A AK n c k S cK l K w1 HJ.out HP.out (IR4.below h0 hb1) ((hK0.below hb1).more hb1.size))
  replace j0 := keep_cell hb1 j0
  replace j1 := keep_cell hb1 j1
  replace p0 := keep_cell hb1 p0
  replace p1 := keep_cell hb1 p1
  unfold jobV planV at HR
  go_wp2_with fail
  refine HR.out.mono ?_
  rintro e w2 ⟨gm, gs, B2, vT, vsS, vsT, rfl, hB2s, hb2, hm⟩
  have c7 := hm.blk.cell 7
  simp at c7
  have hE : PshV l S K w (.returned (.tuple #[.int .i64 (Tl.run l K S).pu, .int .i64 0])) w2 := ⟨rfl, by rw [hB]; exact hb0.trans ((hb1.mono hs0).trans (hb2.mono (Nat.le_trans hs0 hb1.size)))⟩
  clear hm HR HV j0 j1 p0 p1
  go_wp2_with fail
  go_ret2
  exact hE
end Go.Proofs.YtocohkgdkebmdaaGreat
