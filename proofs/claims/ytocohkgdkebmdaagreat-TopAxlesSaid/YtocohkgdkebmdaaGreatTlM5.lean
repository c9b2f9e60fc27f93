/- The walks of rollin's Valid (at valid plans), run, Run, Pushes. -/
import Derived.Test.YtocohkgdkebmdaaGreatTlM3
import Derived.Test.YtocohkgdkebmdaaGreatTlSolve
namespace Go.Proofs.YtocohkgdkebmdaaGreat
open Go.RowKit
/-- What a plan is. -/
def planV (S : Nat) (AK : Option Addr) (n cK : Nat) : Value := .agg #[.int .i64 S, .slice AK n cK]
/-- The machine while the tracks of the trains are laid. -/
structure StS (w : World) (B gm gs : Nat) (A : Option Addr) (n c k S : Nat) (AK : Option Addr) (cK : Nat) (vT : Value) (m : Nat) : Prop where
  blk : Blk w gm 105 #[.slice A n c, .int .i64 k, .int .i64 S, .slice AK n cK, .slice (some ⟨gs, 0, none⟩) S S, vT, .int .i64 0, .int .i64 0]
  st : w.ownsRow B 22 1 (.slice (some ⟨gs, 0, none⟩) S S) S (List.replicate S nilS)
  tn : w.ownsRow B 22 1 vT m (List.replicate m nilS)
  o : apart (.slice (some ⟨gs, 0, none⟩) S S) vT
  ge : B ≤ gm
section
variable {w w' : World} {B gm gs n c k S cK m : Nat} {A AK : Option Addr} {vT : Value}
theorem StS.below (h : StS w B gm gs A n c k S AK cK vT m) (hb : Below w.heap.size w w') : StS w' B gm gs A n c k S AK cK vT m :=
  ⟨h.blk.below hb h.blk.lt, own_below h.st hb, own_below h.tn hb, h.o, h.ge⟩
theorem StS.drewN (h : StS w B gm gs A n c k S AK cK vT m) (q : Nat) : StS (w.drewN q) B gm gs A n c k S AK cK vT m :=
  ⟨h.blk.drewN q, h.st, h.tn, h.o, h.ge⟩
theorem StS.more {v' : Value} (h : StS w B gm gs A n c k S AK cK vT m) (hg : Grew w vT v' w') (hv : w'.ownsRow B 22 1 v' (m + 1) (List.replicate (m + 1) nilS)) : StS (w'.setCell ⟨gm, 5, none⟩ v') B gm gs A n c k S AK cK v' (m + 1) := by
  have h1 : vT.ownBlock ≠ some gm := own_blk_ne h.tn h.blk (by decide)
  have hb := h.blk.grown hg.grown (fun e => h1 e.symm)
  have hs := hg.keep h.st h.o
  exact ⟨by simpa using hb.set_ 5 v', own_set_other hs (own_blk_ne hs hb (by decide)) _, own_set_other hv (own_blk_ne hv hb (by decide)) _, hg.apart_l h.st h.o, h.ge⟩
theorem StS.mach (h : StS w B gm gs A n c k S AK cK vT m) : MachS w B gm gs A n c k S AK cK vT ⟨List.replicate S [], List.replicate m [], 0, 0⟩ (List.replicate S nilS) (List.replicate m nilS) nilS [] := by
  have hr : ∀ k i, (List.replicate k nilS).getD i nilS = nilS := by
    intro k i
    rw [List.getD_eq_getElem?_getD, List.getElem?_replicate]
    split <;> rfl
  refine ⟨h.blk, ⟨OwnLL.nils h.st, ?_, h.o, fun i j _ _ => .inl (by rw [hr]; rfl), ⟨rfl, .inl ⟨rfl, rfl⟩⟩, fun i _ => .inl (by rw [hr]; rfl), fun j _ => .inl (by rw [hr]; rfl)⟩, h.ge⟩
  have := OwnLL.nils (eI := 3) h.tn
  simpa using this
end
namespace Tl
def nTo (l : List IT) (i : Nat) : Nat := nTn (l.take i)
theorem nTo_succ {l : List IT} {i : Nat} (h : i < l.length) : nTo l (i + 1) = max (nTo l i) ((it l i).tr + 1) := by
  unfold nTo nTn
  rw [List.take_add_one, List.getElem?_eq_getElem h, List.foldl_append]
  show max _ _ = _
  unfold it
  rw [List.getD_eq_getElem?_getD, List.getElem?_eq_getElem h]
  rfl
theorem nTo_full (l : List IT) : nTo l l.length = nTn l := by unfold nTo; rw [List.take_length]
theorem nTn_le {l : List IT} {k : Nat} (h : ∀ x ∈ l, x.tr + 1 ≤ k) : nTn l ≤ k := by
  have key : ∀ (m : List IT) (a : Nat), (∀ x ∈ m, x.tr + 1 ≤ k) → a ≤ k → m.foldl (fun n x => max n (x.tr + 1)) a ≤ k := by
    intro m
    induction m with
    | nil => intro a _ h; exact h
    | cons y r ih =>
      intro a hm ha
      exact ih _ (fun x hx => hm x (List.mem_cons_of_mem _ hx)) (Nat.max_le.2 ⟨ha, hm y (List.mem_cons_self ..)⟩)
  exact key l 0 h (Nat.zero_le _)
end Tl
/-- The outer loop. -/
def StA (B gm gs : Nat) (A : Option Addr) (n c k S : Nat) (AK : Option Addr) (cK : Nat) (l : List IT) (w : World) (p : Value) (w' : World) : Prop :=
  ∃ (i : Nat) (vT : Value), i ≤ n ∧ p = .int .i64 i ∧ Below B w w' ∧ StS w' B gm gs A n c k S AK cK vT (Tl.nTo l i)
/-- The inner loop. -/
def StB (B gm gs ib : Nat) (A : Option Addr) (n c k S : Nat) (AK : Option Addr) (cK : Nat) (m0 : Nat) (q : IT) (w : World) (kk : Nat) (w' : World) : Prop :=
  ∃ (m : Nat) (vT : Value), m0 ≤ m ∧ m ≤ max m0 (q.tr + 1) ∧ kk = 20 - m ∧ Below B w w' ∧ Blk w' ib 67 #[.int .i64 q.tr, .int .i64 q.bl, .int .i64 q.rd, .int .i64 q.ln] ∧ StS w' B gm gs A n c k S AK cK vT m
set_option maxRecDepth 100000 in
set_option maxHeartbeats 4000000 in
theorem mstart_c (n c k S cK : Nat) (A AK : Option Addr) (l : List IT) (w : World) (hI : IR4 w A n l) (hS : S ≤ 12) (hn : n ≤ 96) (htr : ∀ x ∈ l, x.tr ≤ 15) :
    Calls Tryz.prog 62 #[jobV A n c k, planV S AK n cK] w fun e w' => ∃ gm gs vT, e = .returned (.pointer (some ⟨gm, 0, none⟩)) ∧ MachX w.heap.size gm gs A n c k S AK cK vT (Tl.start l S) nilS [] w w' := by
  have hl := hI.len
  unfold jobV planV
  obtain ⟨W0, hW0⟩ : ∃ W0, (w.alloc (.cells #[.slice A n c, .int .i64 k] 57)).alloc (.cells #[.int .i64 S, .slice AK n cK] 59) = W0 := ⟨_, rfl⟩
  have hB1 : Blk W0 w.heap.size 57 #[.slice A n c, .int .i64 k] := by rw [← hW0]; exact (Blk.new w _ _).alloc _
  have hB2 : Blk W0 (w.heap.size + 1) 59 #[.int .i64 S, .slice AK n cK] := by
    rw [← hW0]
    have := Blk.new (w.alloc (.cells #[.slice A n c, .int .i64 k] 57)) 59 #[.int .i64 S, .slice AK n cK]
    simpa using this
  have hb0 : Below w.heap.size w W0 := by rw [← hW0]; exact ((Below.refl _ _).alloc (Nat.le_refl _) _).alloc (by simp) _
  have hsz0 : W0.heap.size = w.heap.size + 2 := by rw [← hW0]; simp
  obtain ⟨B, hB⟩ : ∃ B, w.heap.size = B := ⟨_, rfl⟩
  rw [hB] at hB1 hB2 hb0 hsz0
  have j0 := hB1.cell 0
  have j1 := hB1.cell 1
  have p0 := hB2.cell 0
  have p1 := hB2.cell 1
  simp at j0 j1 p0 p1
  have HB1 := Lib.hid hB1
  clear hB1 hB2
  go_enter Tryz.func62, Tryz.ntmps62
  go_wp2_with fail
  clear hW0
  obtain ⟨i37, i37a, i37b, i37c, i37d⟩ := mk_ll.2
  obtain ⟨w2, hrun, own2, hg2⟩ := run_make_full (P := Tryz.prog) W0.drew B 43 22 i37 nilS 1 mk_ll.1 i37a i37b i37c .i64 .i64 S (by rw [i37d]; omega) (by unfold maxLen; omega) (by show B ≤ W0.heap.size; omega)
  rw [show nilS.cells = #[nilS] from rfl, Nat.mul_one, toList_madeCells_one] at own2
  have hb2 : Below W0.drew.heap.size W0.drew w2 := (Below.refl _ _).grown hg2 (Nat.le_refl _) (by simp)
  have j0' := keep_cell_d hb2 j0
  have j1' := keep_cell_d hb2 j1
  have p0' := keep_cell_d hb2 p0
  have p1' := keep_cell_d hb2 p1
  clear i37a i37b i37c i37d
  go_region
  have hI2 : Reads w B 4 A n (flat4 l) := by rw [← hB]; exact hI
  have own2' : w2.ownsRow B 22 1 (.slice (some ⟨B + 2, 0, none⟩) S S) S (List.replicate S nilS) := by
    rw [← hsz0]; exact own2
  have hs2 : B + 2 ≤ w2.heap.size := by have h1 := hb2.size; have h2 : W0.drew.heap.size = W0.heap.size := rfl; omega
  have hbw2 : Below B w w2 := hb0.trans (below_drew' (hb2.mono (by show B ≤ W0.heap.size; omega)))
  have hst : StS (w2.alloc (.cells #[.slice A n c, .int .i64 k, .int .i64 S, .slice AK n cK, .slice (some ⟨B + 2, 0, none⟩) S S, .slice none 0 0, .int .i64 0, .int .i64 0] 105)) B w2.heap.size (B + 2) A n c k S AK cK nilS (Tl.nTo l 0) :=
    ⟨Blk.new w2 _ _, own2'.alloc _, ⟨rfl, .inl ⟨rfl, rfl⟩⟩, apart.symm (.inl rfl), by omega⟩
  have hb3 := hbw2.alloc (by omega) (.cells #[.slice A n c, .int .i64 k, .int .i64 S, .slice AK n cK, .slice (some ⟨B + 2, 0, none⟩) S S, .slice none 0 0, .int .i64 0, .int .i64 0] 105)
  have j3 := cell_alloc j0' (.cells #[.slice A n c, .int .i64 k, .int .i64 S, .slice AK n cK, .slice (some ⟨B + 2, 0, none⟩) S S, .slice none 0 0, .int .i64 0, .int .i64 0] 105)
  clear hrun own2 own2' hg2 hb2 j0 j1 p0 p1 j1' p0' p1' j0' HB1 hb0 hbw2
  obtain ⟨gm, hgm⟩ : ∃ gm, w2.heap.size = gm := ⟨_, rfl⟩
  rw [hgm] at hst
  go_wp2_with fail
  clear j3
  simp only [hgm]
  generalize w2.alloc (.cells #[.slice A n c, .int .i64 k, .int .i64 S, .slice AK n cK, .slice (some ⟨B + 2, 0, none⟩) S S, .slice none 0 0, .int .i64 0, .int .i64 0] 105) = W3 at *
  clear hs2 hgm
  go_loopw [18] (fun p wr => StA B gm (B + 2) A n c k S AK cK l w p wr) (fun p _ => n - (intOf p).toNat)
  case atStart => exact (show StA _ _ _ _ _ _ _ _ _ _ _ _ _ _ from ⟨0, nilS, by omega, rfl, hb3, hst⟩)
  case round =>
    clear hst hb3
    obtain ⟨i, vT, hi, rfl, hbr, hst⟩ := hrel
    by_cases hlt : i < n
    · obtain ⟨ai, rfl, d1, d2, d3, d4⟩ := items_at (hI2.below hbr) (by have := hbr.size; omega) hlt
      have hq15 : (Tl.it l i).tr ≤ 15 := htr _ (Tl.it_mem (by omega))
      have hns := Tl.nTo_succ (l := l) (i := i) (by omega)
      obtain ⟨q, hq⟩ : ∃ q, Tl.it l i = q := ⟨_, rfl⟩
      rw [hq] at d1 d2 d3 d4 hq15 hns
      obtain ⟨m0, hm0⟩ : ∃ m0, Tl.nTo l i = m0 := ⟨_, rfl⟩
      rw [hm0] at hst hns
      have hm16 : m0 ≤ 16 := by rw [← hm0]; exact Tl.nTn_le fun x hx => by have := htr x (List.mem_of_mem_take hx); omega
      have hba := hbr.alloc (by have := hbr.size; omega) (Obj.cells #[.int .i64 q.tr, .int .i64 q.bl, .int .i64 q.rd, .int .i64 q.ln] 67)
      have hsa := hst.below ((Below.refl wr.heap.size wr).alloc (Nat.le_refl _) (Obj.cells #[.int .i64 q.tr, .int .i64 q.bl, .int .i64 q.rd, .int .i64 q.ln] 67))
      have hib := Blk.new wr 67 #[.int .i64 q.tr, .int .i64 q.bl, .int .i64 q.rd, .int .i64 q.ln]
      obtain ⟨ib, hibE⟩ : ∃ ib, wr.heap.size = ib := ⟨_, rfl⟩
      rw [hibE] at hib
      have Hns := Lib.hid hns
      clear hq hm0 hns hst hbr
      go_wp2_with fail
      clear hibE d1 d2 d3 d4
      generalize wr.alloc (Obj.cells #[.int .i64 q.tr, .int .i64 q.bl, .int .i64 q.rd, .int .i64 q.ln] 67) = W4 at *
      go_loopg [22] (20 - m0) (fun kk _ wr => StB B gm (B + 2) ib (some ai) n c k S AK cK m0 q w kk wr)
      case atStart => exact (show StB _ _ _ _ _ _ _ _ _ _ _ _ _ _ _ _ from ⟨m0, vT, Nat.le_refl _, Nat.le_max_left _ _, rfl, hba, hib, hsa⟩)
      case round =>
        clear hba hib hsa
        obtain ⟨m, vT, hm0, hmx, hgk, hbr, hib, hst⟩ := hrel
        obtain ⟨AT, cT, rfl, _, _⟩ := own_form hst.tn
        have c5 := hst.blk.cell 5
        have z5 := hst.blk.frozen 5
        have i0 := hib.cell 0
        simp at c5 i0
        have n1 : (Value.slice AT m cT).ownBlock ≠ some gm := own_blk_ne hst.tn hst.blk (by decide)
        have n2 : (Value.slice AT m cT).ownBlock ≠ some ib := own_blk_ne hst.tn hib (by decide)
        have ngi : ib ≠ gm := hib.ne_ hst.blk (by decide)
        have hm17 : m ≤ 16 := by omega
        have HST := Lib.hid hst
        have HIB := Lib.hid hib
        have HBR := Lib.hid hbr
        have hBw : B ≤ wr.heap.size := by have := hbr.size; omega
        have hto := hst.tn
        clear hst hib hbr
        by_cases hlt2 : m ≤ q.tr
        · have hd : decide ((m : Int) ≤ (q.tr : Int)) = true := by simp; omega
          have hd2 : decide (m ≤ q.tr) = true := by simp; omega
          go_wp2_with fail
          go_quiet (fail)
          go_wp2_with (at_builtin
                       go_must (
                         refine wpList_push sl_lint rfl (.tmp 34) (.tmp 35) rfl B (.slice AT m cT) m (List.replicate m nilS) rfl hto 1 1 rfl rfl rfl (by unfold maxLen; omega) (by omega) hBw ?_
                         intro v' w9 own9 hgr
                         obtain ⟨A9, c9, rfl, _, _⟩ := own_form own9
                         have c5' := (HST.out.drewN _).blk.grown hgr.grown (fun e => n1 e.symm)
                         have c5'' := c5'.cell 5
                         have z5' := c5'.frozen 5
                         simp at c5''))
          have hst9 := (HST.out.drewN _).more hgr (by rw [List.replicate_succ']; exact own9)
          have hib9 := ((HIB.out.drewN _).grown hgr.grown (fun e => n2 e.symm)).far (p := ⟨gm, 5, none⟩) ngi (.slice A9 (m + 1) c9)
          have hbr9 := ((below_drewN HBR.out _).trans (hgr.below (own_ge hto) hBw)).setCell (p := ⟨gm, 5, none⟩) hst9.ge (.slice A9 (m + 1) c9)
          clear hgr own9
          go_roundg (20 - (m + 1))
          case measure => omega
          case rel => exact (show StB _ _ _ _ _ _ _ _ _ _ _ _ _ _ _ _ from ⟨m + 1, _, by omega, by omega, rfl, hbr9, hib9, hst9⟩)
        · have hd : decide ((m : Int) ≤ (q.tr : Int)) = false := by simp; omega
          have hd2 : decide (m ≤ q.tr) = false := by simp; omega
          go_wp2_with fail
          go_quiet (fail)
          go_wp2_with fail
          have hmm : max m0 (q.tr + 1) = m := by omega
          rw [hmm] at Hns
          go_roundw
          case rel => exact (show StA _ _ _ _ _ _ _ _ _ _ _ _ _ _ from ⟨i + 1, _, by omega, by go_num, below_drewN HBR.out _, by rw [Hns.out]; exact HST.out.drewN _⟩)
          case measure => simp [intOf]; omega
    · obtain rfl : i = n := by omega
      have hfull := Tl.nTo_full l
      rw [hl] at hfull
      rw [hfull] at hst
      have hx : MachX B gm (B + 2) A i c k S AK cK vT (Tl.start l S) nilS [] w wr := ⟨hbr, _, _, hst.mach⟩
      go_wp2_with fail
      go_ret
      exact ⟨gm, B + 2, vT, rfl, by rw [hB]; exact hx⟩
end Go.Proofs.YtocohkgdkebmdaaGreat
namespace Go.Proofs.YtocohkgdkebmdaaGreat
open Go.RowKit
namespace Tl
/-- A plan that fits a job. -/
structure PlanOk (l : List IT) (k S : Nat) (K : List Nat) : Prop where
  len : K.length = l.length
  st : S ≤ 12
  codes : ∀ x, x < l.length → (∃ q, kAt K x = q * 2 ^ (it l x).rd + mis (it l x).rd ∧ pop q ≤ k) ∧ kAt K x < 2 ^ S
theorem PlanOk.fit {l : List IT} {k S : Nat} {K : List Nat} (h : PlanOk l k S K) (hj : JobOk l k) : Fit l K S :=
  ⟨h.len, fun x b hx hb => by
    obtain ⟨⟨q, hq, _⟩, _⟩ := h.codes x hx
    rw [hq]
    exact mis_bit hb, fun x hx => (h.codes x hx).2, hj.mono⟩
theorem sol_plan {l : List IT} {w S : Nat} {K : List Nat} (hs : Sol l w K) (hS : S ≤ 12) (ht : ∀ x, x < l.length → kAt K x < 2 ^ S) : PlanOk l w S K :=
  ⟨hs.1, hS, fun x hx => by
    obtain ⟨_, _, q, hq, hp⟩ := next_spec (hs.2 x hx)
    exact ⟨⟨q, hq, hp⟩, ht x hx⟩⟩
/-- What holds ahead of the pushes of a time. -/
structure RunOk (l : List IT) (t : Nat) (m : MC) : Prop where
  tl : m.tn.length = nTn l
  bd : MBd m
  mv : m.mv ≤ 192 * t
  pu : m.pu ≤ t
  old : ∀ x ∈ oldAt m t, x < l.length
  oldl : (oldAt m t).length ≤ 96
theorem newAt_len (l : List IT) (t : Nat) : (newAt l t).length ≤ l.length := by
  unfold newAt
  exact Nat.le_trans (List.length_filter_le _ _) (by simp)
theorem atM_mv {l : List IT} {K : List Nat} {S : Nat} (m : MC) (t : Nat) : (atM l K S m t).mv = m.mv + ((oldAt m t).length + (newAt l t).length) := by
  have h := fold_mv (l := l) (K := K) (S := S) (t := t) (oldAt m t ++ newAt l t) (clr m t)
  rw [clr_mv, List.length_append] at h
  unfold atM
  simp only
  split <;> exact h
theorem atM_pu {l : List IT} {K : List Nat} {S : Nat} (m : MC) (t : Nat) : (atM l K S m t).pu ≤ m.pu + 1 := by
  have h := fold_pu (l := l) (K := K) (S := S) (t := t) (oldAt m t ++ newAt l t) (clr m t)
  rw [clr_pu] at h
  unfold atM
  simp only
  split
  · show _ + 1 ≤ _
    omega
  · omega
theorem atM_bd {l : List IT} {K : List Nat} {S : Nat} {m : MC} (t : Nat) (hb : MBd m) : MBd (atM l K S m t) := by
  have h := fold_bd (l := l) (K := K) (S := S) (t := t) (oldAt m t ++ newAt l t) (clr m t) (clr_bd t hb)
  unfold atM
  simp only
  split <;> exact h
theorem runOk_zero (l : List IT) (S : Nat) : RunOk l 0 (start l S) := by
  refine ⟨by simp [start], ⟨fun i => ?_, fun j => ?_⟩, Nat.le_refl _, Nat.le_refl _, fun x hx => absurd hx (by simp [oldAt]), by simp [oldAt]⟩
  · show ((List.replicate S []).getD i []).length ≤ 0
    rw [getD_rep]; exact Nat.le_refl _
  · show ((List.replicate (nTn l) []).getD j []).length ≤ 0
    rw [getD_rep]; exact Nat.le_refl _
theorem runOk_at {l : List IT} {K : List Nat} {S k : Nat} (hf : Fit l K S) (hj : JobOk l k) : ∀ t, t ≤ S → RunOk l t (runTo l K S t)
  | 0, _ => runOk_zero l S
  | t + 1, ht => by
    have ih := runOk_at hf hj t (by omega)
    have hi := inv_at hf t (by omega)
    have h1 := newAt_len l t
    have h2 := hj.len
    have hmv := atM_mv (l := l) (K := K) (S := S) (runTo l K S t) t
    have hold : oldAt (runTo l K S (t + 1)) (t + 1) = (runTo l K S (t + 1)).st.getD t [] := rfl
    have hst := hi.st t (by omega)
    refine ⟨hi.tl, atM_bd t ih.bd, ?_, ?_, fun x hx => ?_, ?_⟩
    · show (atM l K S (runTo l K S t) t).mv ≤ _
      rw [hmv]
      have := ih.mv
      have := ih.oldl
      omega
    · show (atM l K S (runTo l K S t) t).pu ≤ _
      have := atM_pu (l := l) (K := K) (S := S) (runTo l K S t) t
      have := ih.pu
      omega
    · rw [hold, hst] at hx
      have h3 := (List.mem_filter.1 hx).1
      simpa using (ord_perm K l.length t).mem_iff.1 h3
    · rw [hold, hst]
      refine Nat.le_trans (List.length_filter_le _ _) ?_
      have := (ord_perm K l.length t).length_eq
      rw [this]
      simpa using h2
end Tl
attribute [local irreducible] Tl.pop Tl.mis
set_option maxRecDepth 100000 in
set_option maxHeartbeats 1000000 in
theorem cis_same (q r k : Nat) (hk : q * 2 ^ r + Tl.mis r < 4096) (hr : r ≤ 12) (hw : k ≤ 12) (hp : Tl.pop q ≤ k) (w : World) :
    Calls Tryz.prog 61 #[.int .i64 (q * 2 ^ r + Tl.mis r : Nat), .int .i64 r, .int .i64 k] w fun e w' => e = .returned (.bool true) ∧ w' = w := by
  have e0 : decide ((0 : Int) ≤ (r : Int) ∧ (r : Int) ≤ 12) = true := by simp; omega
  have H := Lib.hid (form_c r k hw)
  rw [e0] at H
  have HM := Lib.hid (missed_c r hr)
  have hq : q < 65536 := by
    have : q * 1 ≤ q * 2 ^ r := Nat.mul_le_mul_left _ (Nat.two_pow_pos r)
    omega
  have HO := Lib.hid (cones_c q hq)
  obtain ⟨b1, b2⟩ := is_bits hk hr
  generalize q * 2 ^ r + Tl.mis r = c at hk b1 b2
  have e1 : decide ((0 : Int) ≤ (c : Int) ∧ (c : Int) ≤ 4095) = true := by simp; omega
  have HI := Lib.hid (cin_c c 0 4095)
  rw [e1] at HI
  clear e0 e1
  go_enter Tryz.func61, Tryz.ntmps61
  go_wp2_with (first
    | (go_at_call 79; with_reducible refine (H.out _).mono ?_; rintro e w1 ⟨rfl, rfl⟩)
    | (go_at_call 80; with_reducible refine (HI.out _).mono ?_; rintro e w1 ⟨rfl, rfl⟩)
    | (go_at_call 81; with_reducible refine (HM.out _).mono ?_; rintro e w1 ⟨rfl, rfl⟩)
    | (go_at_call 82; with_reducible refine (HO.out _).mono ?_; rintro e w1 ⟨rfl, rfl⟩))
  go_ret
  exact ⟨rfl, rfl⟩
theorem is_at {l : List IT} {k S : Nat} {K : List Nat} (hp : Tl.PlanOk l k S K) (hj : Tl.JobOk l k) {x : Nat} (hx : x < l.length) (w : World) :
    Calls Tryz.prog 61 #[.int .i64 (Tl.kAt K x : Nat), .int .i64 (Tl.it l x).rd, .int .i64 k] w fun e w' => e = .returned (.bool true) ∧ w' = w := by
  obtain ⟨⟨q, hq, hpop⟩, hlt⟩ := hp.codes x hx
  have h12 : 2 ^ S ≤ 2 ^ 12 := Nat.pow_le_pow_right (by decide) hp.st
  rw [hq] at hlt ⊢
  exact cis_same q _ k (by omega) (hj.its _ (Tl.it_mem hx)).2.2.1 hj.wt hpop w
set_option maxRecDepth 100000 in
set_option maxHeartbeats 2000000 in
theorem rvalid_c (A AK : Option Addr) (n c k S cK : Nat) (l : List IT) (K : List Nat) (w : World) (hj : Tl.JobOk l k) (hp : Tl.PlanOk l k S K) (h : IR4 w A n l) (hK : Reads w w.heap.size 1 AK n (ints64 K)) :
    Calls Tryz.prog 41 #[jobV A n c k, planV S AK n cK] w fun e w' => e = .returned (.int .i64 0) ∧ Below w.heap.size w w' := by
  have hl := h.len
  have hn := hj.len
  have hw12 := hj.wt
  have hS := hp.st
  unfold planV
  obtain ⟨W0, hW0⟩ : ∃ W0, (w.alloc (.cells #[.slice A n c, .int .i64 k] 57)).alloc (.cells #[.int .i64 S, .slice AK n cK] 59) = W0 := ⟨_, rfl⟩
  have hB1 : Blk W0 w.heap.size 57 #[.slice A n c, .int .i64 k] := by rw [← hW0]; exact (Blk.new w _ _).alloc _
  have hB2 : Blk W0 (w.heap.size + 1) 59 #[.int .i64 S, .slice AK n cK] := by
    rw [← hW0]
    have := Blk.new (w.alloc (.cells #[.slice A n c, .int .i64 k] 57)) 59 #[.int .i64 S, .slice AK n cK]
    simpa using this
  have hb0 : Below w.heap.size w W0 := by rw [← hW0]; exact ((Below.refl _ _).alloc (Nat.le_refl _) _).alloc (by simp) _
  have hs0 := hb0.size
  have h0 := h.below hb0
  have hK0 : Reads W0 W0.heap.size 1 AK n (ints64 K) := (hK.below hb0).more hs0
  have hsh : ∀ x, x < n → ((Tl.kAt K x : Nat) : Int) / 2 ^ S = 0 := fun x hx => by
    have h1 := (hp.codes x (by omega)).2
    have h4 : ((2 : Int) ^ S) = ((2 ^ S : Nat) : Int) := by push_cast; rfl
    rw [h4, ← Int.natCast_ediv, Nat.div_eq_of_lt h1]
    rfl
  have his : ∀ x, x < n → ∀ W, Calls Tryz.prog 61 #[.int .i64 (Tl.kAt K x : Nat), .int .i64 (Tl.it l x).rd, .int .i64 k] W fun e w' => e = .returned (.bool true) ∧ w' = W := fun x hx W => is_at hp hj (by omega) W
  have Hsh := Lib.hid hsh
  have His := Lib.hid his
  have HV := Lib.hid (jvalid_c A n c k l W0 hj h0)
  unfold jobV at HV ⊢
  obtain ⟨B, hB⟩ : ∃ B, w.heap.size = B := ⟨_, rfl⟩
  rw [hB] at hB1 hB2 hb0 hs0
  have j0 := hB1.cell 0
  have j1 := hB1.cell 1
  have p0 := hB2.cell 0
  have p1 := hB2.cell 1
  simp at j0 j1 p0 p1
  clear hsh his h hK
  go_enter Tryz.func41, Tryz.ntmps41
  go_wp2_with fail
  clear hW0
  refine HV.out.mono ?_
  rintro e w1 ⟨rfl, hb1⟩
  replace j0 := keep_cell hb1 j0
  replace j1 := keep_cell hb1 j1
  replace p0 := keep_cell hb1 p0
  replace p1 := keep_cell hb1 p1
  have h1 := h0.below hb1
  have hK1 := (hK0.below hb1).more hb1.size
  have hb2 : Below B w w1 := hb0.trans (hb1.mono hs0)
  have hs1 : B ≤ w1.heap.size := Nat.le_trans hs0 hb1.size
  clear hb0 hb1 h0 hK0 hB1 hB2 HV hs0
  have e1 : decide ((S : Int) < 0) = false := decide_eq_false (by omega)
  have e2 : decide ((12 : Int) < (S : Int)) = false := decide_eq_false (by omega)
  have e3 : decide (12 < S) = false := decide_eq_false (by omega)
  go_wp2_with fail
  go_loopw [4, 33] (fun r p wr => ∃ i : Nat, i ≤ n ∧ r = .int .i64 0 ∧ p = .int .i64 i ∧ Below w1.heap.size w1 wr) (fun _ p _ => n - (intOf p).toNat)
  case atStart => exact ⟨0, by omega, rfl, rfl, Below.refl _ _⟩
  case round =>
    obtain ⟨i, hi, rfl, rfl, hbr⟩ := hrel
    replace h1 := h1.below hbr
    replace hK1 := (hK1.below hbr).more hbr.size
    replace hb2 := hb2.trans (hbr.mono hs1)
    replace j0 := keep_cell hbr j0
    replace j1 := keep_cell hbr j1
    replace p0 := keep_cell hbr p0
    replace p1 := keep_cell hbr p1
    by_cases hlt : i < n
    · obtain ⟨ai, rfl, d1, d2, d3, d4⟩ := items_at h1 (Nat.le_refl _) hlt
      obtain ⟨ak, rfl, hab, ck⟩ := codes_at hK1 hlt
      have HI := Lib.hid (His.out i hlt)
      have hs := Hsh.out i hlt
      obtain ⟨q, hq⟩ : ∃ q, Tl.it l i = q := ⟨_, rfl⟩
      obtain ⟨kx, hkx⟩ : ∃ kx, Tl.kAt K i = kx := ⟨_, rfl⟩
      rw [hq] at d1 d2 d3 d4 HI
      rw [hkx] at ck hs HI
      clear hq hkx d1 d2 d4
      go_wp2_with fail
      go_quiet (first | (go_at_call 61; exact Calls.quiet_of_same (HI.out _)))
      go_wp2_with fail
      go_roundw
      case rel => exact ⟨i + 1, by omega, rfl, by go_num, below_drewN hbr _⟩
      case measure => simp [intOf]; omega
    · obtain rfl : i = n := by omega
      go_wp2_with fail
      go_ret
      exact ⟨rfl, by rw [hB]; exact hb2⟩
end Go.Proofs.YtocohkgdkebmdaaGreat
