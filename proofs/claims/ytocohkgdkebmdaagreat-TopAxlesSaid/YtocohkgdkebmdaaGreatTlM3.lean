/- The walk of the machine's pushes of a time. -/
import Derived.Test.YtocohkgdkebmdaaGreatTlM2
import Derived.Deep.DeepCutAuto
namespace Go.Proofs.YtocohkgdkebmdaaGreat
open Go.RowKit
namespace Tl
section
variable {l : List IT} {K : List Nat} {S t : Nat}
theorem pushM_mv (m : MC) (x : Nat) : (pushM l K S t m x).mv = m.mv + 1 := by unfold pushM; split <;> rfl
theorem pushM_pu (m : MC) (x : Nat) : (pushM l K S t m x).pu = m.pu := by unfold pushM; split <;> rfl
theorem pushM_tl (m : MC) (x : Nat) : (pushM l K S t m x).tn.length = m.tn.length := by unfold pushM; split <;> simp [addAt_len]
theorem addAt_bd {L : List (List Nat)} {b i x k : Nat} (h : ∀ i, (L.getD i []).length ≤ k) : ((addAt L b x).getD i []).length ≤ k + 1 := by
  by_cases e : b = i
  · subst e
    by_cases hb : b < L.length
    · rw [addAt_same hb]
      have := h b
      rw [List.length_append, List.length_singleton]
      omega
    · unfold addAt
      rw [List.set_eq_of_length_le (by omega)]
      have := h b
      omega
  · rw [addAt_other e]
    have := h i
    omega
theorem pushM_bd {m : MC} (x : Nat) (h : MBd m) : MBd (pushM l K S t m x) := by
  unfold pushM
  split
  · exact ⟨fun i => addAt_bd h.1, fun j => Nat.le_succ_of_le (h.2 j)⟩
  · exact ⟨fun j => Nat.le_succ_of_le (h.1 j), fun i => addAt_bd h.2⟩
theorem fold_mv : ∀ (xs : List Nat) (m : MC), (xs.foldl (pushM l K S t) m).mv = m.mv + xs.length
  | [], _ => rfl
  | x :: r, m => by rw [List.foldl_cons, fold_mv r, pushM_mv]; simp; omega
theorem fold_pu : ∀ (xs : List Nat) (m : MC), (xs.foldl (pushM l K S t) m).pu = m.pu
  | [], _ => rfl
  | x :: r, m => by rw [List.foldl_cons, fold_pu r, pushM_pu]
theorem fold_tl : ∀ (xs : List Nat) (m : MC), (xs.foldl (pushM l K S t) m).tn.length = m.tn.length
  | [], _ => rfl
  | x :: r, m => by rw [List.foldl_cons, fold_tl r, pushM_tl]
theorem fold_bd : ∀ (xs : List Nat) (m : MC), MBd m → MBd (xs.foldl (pushM l K S t) m)
  | [], _, h => h
  | x :: r, _, h => fold_bd r _ (pushM_bd x h)
theorem clr_mv (m : MC) (t : Nat) : (clr m t).mv = m.mv := by unfold clr; split <;> rfl
theorem clr_pu (m : MC) (t : Nat) : (clr m t).pu = m.pu := by unfold clr; split <;> rfl
theorem clr_tl (m : MC) (t : Nat) : (clr m t).tn.length = m.tn.length := by unfold clr; split <;> rfl
theorem clr_bd {m : MC} (t : Nat) (h : MBd m) : MBd (clr m t) := by
  unfold clr
  split
  · exact h
  · refine ⟨fun i => ?_, h.2⟩
    by_cases e : t - 1 = i
    · subst e
      by_cases hb : t - 1 < m.st.length
      · rw [getD_set_same hb]; exact Nat.zero_le _
      · rw [List.set_eq_of_length_le (by omega)]; exact h.1 _
    · rw [getD_set_other e]; exact h.1 i
/-- The new items of a time among the first ones. -/
def newTo (l : List IT) (t i : Nat) : List Nat := (List.range i).filter fun x => decide ((it l x).rd = t)
theorem newTo_succ (l : List IT) (t i : Nat) : newTo l t (i + 1) = if (it l i).rd = t then newTo l t i ++ [i] else newTo l t i := by
  unfold newTo
  rw [List.range_succ, List.filter_append]
  by_cases h : (it l i).rd = t <;> simp [h]
theorem newTo_len (l : List IT) (t i : Nat) : (newTo l t i).length ≤ i := by
  unfold newTo
  exact Nat.le_trans (List.length_filter_le _ _) (by simp)
end
end Tl
/-- The machine in memory, whatever the rows' places. -/
def MachX (B gm gs : Nat) (A : Option Addr) (n c k S : Nat) (AK : Option Addr) (cK : Nat) (vT : Value) (M : Tl.MC) (lv : Value) (lr : List Nat) (w w' : World) : Prop :=
  Below B w w' ∧ ∃ vsS vsT, MachS w' B gm gs A n c k S AK cK vT M vsS vsT lv lr
/-- The first loop. -/
def AtA (B gm gs : Nat) (A : Option Addr) (n c k S : Nat) (AK : Option Addr) (cK : Nat) (vT : Value) (l : List IT) (K : List Nat) (t : Nat) (M : Tl.MC) (lv : Value) (lr : List Nat) (w : World) (p : Value) (w' : World) : Prop :=
  ∃ i : Nat, i ≤ lr.length ∧ p = .int .i64 i ∧ MachX B gm gs A n c k S AK cK vT ((lr.take i).foldl (Tl.pushM l K S t) M) lv lr w w'
/-- The second loop. -/
def AtB (B gm gs : Nat) (A : Option Addr) (n c k S : Nat) (AK : Option Addr) (cK : Nat) (vT : Value) (l : List IT) (K : List Nat) (t : Nat) (M : Tl.MC) (w : World) (p : Value) (w' : World) : Prop :=
  ∃ i : Nat, i ≤ n ∧ p = .int .i64 i ∧ MachX B gm gs A n c k S AK cK vT ((Tl.newTo l t i).foldl (Tl.pushM l K S t) M) nilS [] w w'
set_option maxRecDepth 100000 in
set_option maxHeartbeats 4000000 in
theorem mat_c (B gm gs n c k S cK t : Nat) (A AK : Option Addr) (vT : Value) (M : Tl.MC) (vsS vsT : List Value) (l : List IT) (K : List Nat) (w : World)
    (h : MachS w B gm gs A n c k S AK cK vT M vsS vsT nilS []) (hI : Reads w B 4 A n (flat4 l)) (hK : Reads w B 1 AK n (ints64 K)) (hB : B ≤ w.heap.size) (ht : t ≤ S) (hS : S ≤ 12)
    (hKb : ∀ x, x < n → Tl.kAt K x < 4096) (htr : ∀ x, x < n → (Tl.it l x).tr < M.tn.length) (hbd : Tl.MBd M) (hmv : M.mv ≤ 900000) (hpu0 : M.pu ≤ 900000) (hn : n ≤ 96) (hold : ∀ x ∈ Tl.oldAt M t, x < n) (hol : (Tl.oldAt M t).length ≤ 96) :
    Calls Tryz.prog 63 #[.pointer (some ⟨gm, 0, none⟩), .int .i64 t] w (PushR B gm gs A n c k S AK cK vT (Tl.atM l K S M t) nilS [] w) := by
  have hl : l.length = n := (show IR4 w A n l from hI.more hB).len
  have c6 := h.blk.cell 6
  simp at c6
  obtain ⟨M1, hM1⟩ : ∃ M1, (Tl.oldAt M t).foldl (Tl.pushM l K S t) (Tl.clr M t) = M1 := ⟨_, rfl⟩
  have hM1mv : M1.mv = M.mv + (Tl.oldAt M t).length := by rw [← hM1, Tl.fold_mv, Tl.clr_mv]
  have hM1pu : M1.pu = M.pu := by rw [← hM1, Tl.fold_pu, Tl.clr_pu]
  have hM1tl : M1.tn.length = M.tn.length := by rw [← hM1, Tl.fold_tl, Tl.clr_tl]
  have hM1bd : Tl.MBd M1 := by rw [← hM1]; exact Tl.fold_bd _ _ (Tl.clr_bd t hbd)
  have Htr := Lib.hid htr
  have HKb := Lib.hid hKb
  have Hold := Lib.hid hold
  clear htr hKb hold
  go_enter Tryz.func63, Tryz.ntmps63
  go_upto_if 15 with fail
  go_cut [5] from 5 (fun _ W => MachX B gm gs A n c k S AK cK vT M1 nilS [] w W)
  case first =>
    by_cases h0 : t = 0
    · subst h0
      have e : M1 = M := by rw [← hM1]; rfl
      have hx : MachX B gm gs A n c k S AK cK vT M1 nilS [] w w := by rw [e]; exact ⟨Below.refl _ _, vsS, vsT, h⟩
      clear e hM1 h
      go_wp2_with fail
      go_meet
      case rel => exact hx
    · obtain ⟨s, hs⟩ : ∃ s, t = s + 1 := ⟨t - 1, by omega⟩
      have hsS : s < S := by omega
      have e1 : Tl.oldAt M t = M.st.getD s [] := by rw [hs]; rfl
      have e2 : Tl.clr M t = { M with st := M.st.set s [] } := by rw [hs]; rfl
      have ht0 : 0 < t := by omega
      have c4 := h.blk.cell 4
      simp at c4
      have cs := h.own.a.cellO hsS
      have zs := h.own.a.outer.frozenAt s
      have hin := h.own.a.inner s hsS
      have hm := h.take hsS
      obtain ⟨lv, hlv⟩ : ∃ lv, vsS.getD s nilS = lv := ⟨_, rfl⟩
      obtain ⟨lr, hlr⟩ : ∃ lr, M.st.getD s [] = lr := ⟨_, rfl⟩
      rw [hlv, hlr] at hin hm
      rw [hlv] at cs
      rw [e1, hlr] at hol hM1mv hM1 Hold
      rw [e2] at hM1
      obtain ⟨Al, cl, rfl, _, _⟩ := own_form hin
      have hbs : Below B w (w.setCell ⟨gs, s, none⟩ nilS) := (Below.refl _ _).setCell (p := ⟨gs, s, none⟩) (own_ge h.own.a.outer _ rfl) _
      have hsub : (t : Int) - 1 = (s : Int) := by omega
      have hsw : IntKind.i64.wrap (s : Int) = (s : Int) := IntWalk.i64_in _ ⟨by omega, by omega⟩
      clear e1 e2 hlv hlr h0
      have Hm := Lib.hid hm
      have HM1 := Lib.hid hM1
      have Hlr := Lib.hid hol
      clear h hm hM1 hin
      go_wp2_with fail
      obtain ⟨M2, hM2⟩ : ∃ M2 : Tl.MC, { M with st := M.st.set s [] } = M2 := ⟨_, rfl⟩
      have hM2tl : M2.tn.length = M.tn.length := by rw [← hM2]
      have hM2mv : M2.mv = M.mv := by rw [← hM2]
      have hM2bd : Tl.MBd M2 := by rw [← hM2]; have := Tl.clr_bd t hbd; rwa [hs] at this
      rw [hM2] at Hm HM1
      clear hs hM2 hM1mv hM1pu hM1tl hM1bd hbd cs zs c4 c6
      have hx0 : MachX B gm gs A n c k S AK cK vT M2 (.slice Al lr.length cl) lr w (w.setCell ⟨gs, s, none⟩ (.slice none 0 0)) := ⟨hbs, _, _, Hm.out⟩
      clear hbs
      rw [decide_eq_true ht0]
      go_loopw [33] (fun p wr => AtA B gm gs A n c k S AK cK vT l K t M2 (.slice Al lr.length cl) lr w p wr) (fun p _ => lr.length - (intOf p).toNat)
      case atStart => exact (show AtA _ _ _ _ _ _ _ _ _ _ _ _ _ _ _ _ _ _ _ _ from ⟨0, by omega, rfl, hx0⟩)
      case round =>
        clear hx0
        obtain ⟨i, hi, rfl, hbr, vs1, vs2, hm⟩ := hrel
        by_cases hlt : i < lr.length
        · obtain ⟨al, rfl, hal, cl1⟩ := (own64_IR hm.own.r).at_ hlt
          obtain ⟨x, hx⟩ : ∃ x, lr.getD i 0 = x := ⟨_, rfl⟩
          have hxi : (lr.map fun (x : Nat) => (x : Int)).getD i 0 = (x : Int) := by
            rw [← hx, List.getD_eq_getElem?_getD, List.getD_eq_getElem?_getD, List.getElem?_map, List.getElem?_eq_getElem hlt]; rfl
          rw [hxi] at cl1
          have hxm : x ∈ lr := by rw [← hx, List.getD_eq_getElem?_getD, List.getElem?_eq_getElem hlt]; exact List.getElem_mem _
          have hxn := Hold.out x hxm
          have htk : lr.take (i + 1) = lr.take i ++ [x] := by
            rw [List.take_add_one, List.getElem?_eq_getElem hlt, ← hx, List.getD_eq_getElem?_getD, List.getElem?_eq_getElem hlt]; rfl
          obtain ⟨M3, hM3⟩ : ∃ M3, (lr.take i).foldl (Tl.pushM l K S t) M2 = M3 := ⟨_, rfl⟩
          have hM4 : (lr.take (i + 1)).foldl (Tl.pushM l K S t) M2 = Tl.pushM l K S t M3 x := by rw [htk, List.foldl_append, hM3]; rfl
          have q1 : M3.mv ≤ 1000000 := by
            have h1 := Tl.fold_mv (l := l) (K := K) (S := S) (t := t) (lr.take i) M2
            rw [hM3, List.length_take] at h1
            have h2 := Hlr.out
            omega
          have q2 : (Tl.it l x).tr < M3.tn.length := by rw [← hM3, Tl.fold_tl, hM2tl]; exact Htr.out x hxn
          have q3 : Tl.MBd M3 := by rw [← hM3]; exact Tl.fold_bd _ _ hM2bd
          rw [hM3] at hm
          have HP := Lib.hid (mpush_c B gm gs n c k S cK x t A AK vT M3 vs1 vs2 _ lr l K wr hm (hI.below hbr) (hK.below hbr) (Nat.le_trans hB hbr.size) hxn ht hS (HKb.out x hxn) q2 q3 q1)
          have H4 := Lib.hid hM4
          clear hx hxi hxm htk hM3 hM4 q1 q2 q3 hm
          go_wp2_with fail
          refine HP.out.mono ?_
          rintro e w5 ⟨rfl, hb5, vs5, vs6, hm5⟩
          have hx5 : MachX B gm gs A n c k S AK cK vT ((lr.take (i + 1)).foldl (Tl.pushM l K S t) M2) (.slice (some al) lr.length cl) lr w w5 := ⟨hbr.trans hb5, vs5, vs6, by rw [H4.out]; exact hm5⟩
          clear hm5 hb5 HP
          go_wp2_with fail
          go_roundw
          case rel => exact (show AtA _ _ _ _ _ _ _ _ _ _ _ _ _ _ _ _ _ _ _ _ from ⟨i + 1, by omega, by go_num, hx5⟩)
          case measure => simp [intOf]; omega
        · obtain rfl : i = lr.length := by omega
          rw [List.take_length, HM1.out] at hm
          have hx5 : MachX B gm gs A n c k S AK cK vT M1 nilS [] w wr := ⟨hbr, vs1, vs2, hm.drop⟩
          clear hm hbr
          go_wp2_with fail
          go_meet
          case rel => exact hx5
  case rest =>
    obtain ⟨hb1, vs1, vs2, hm1⟩ := hcut
    have c0 := hm1.blk.cell 0
    simp at c0
    have hx0 : MachX B gm gs A n c k S AK cK vT M1 nilS [] w wc := ⟨hb1, vs1, vs2, hm1⟩
    have HM1 := Lib.hid hM1
    clear hb1 hm1 h c6 hM1
    go_wp2_with fail
    have hq : Tl.atM l K S M t = if M.mv < (((Tl.newTo l t n).foldl (Tl.pushM l K S t) M1).mv) then { ((Tl.newTo l t n).foldl (Tl.pushM l K S t) M1) with pu := ((Tl.newTo l t n).foldl (Tl.pushM l K S t) M1).pu + 1 } else (Tl.newTo l t n).foldl (Tl.pushM l K S t) M1 := by
      have e : (Tl.oldAt M t ++ Tl.newAt l t).foldl (Tl.pushM l K S t) (Tl.clr M t) = (Tl.newTo l t n).foldl (Tl.pushM l K S t) M1 := by
        rw [List.foldl_append, HM1.out, ← hl]
        rfl
      unfold Tl.atM
      simp only [e]
    have HQ := Lib.hid hq
    clear hq
    go_loopw [48] (fun p wr => AtB B gm gs A n c k S AK cK vT l K t M1 w p wr) (fun p _ => n - (intOf p).toNat)
    case atStart => exact (show AtB _ _ _ _ _ _ _ _ _ _ _ _ _ _ _ _ _ _ from ⟨0, by omega, rfl, hx0⟩)
    case round =>
      clear hx0
      obtain ⟨i, hi, rfl, hbr, vs1, vs2, hm⟩ := hrel
      by_cases hlt : i < n
      · obtain ⟨ai, rfl, d1, d2, d3, d4⟩ := items_at (hI.below hbr) (Nat.le_trans hB hbr.size) hlt
        obtain ⟨q, hq⟩ : ∃ q, Tl.it l i = q := ⟨_, rfl⟩
        rw [hq] at d1 d2 d3 d4
        obtain ⟨M3, hM3⟩ : ∃ M3, (Tl.newTo l t i).foldl (Tl.pushM l K S t) M1 = M3 := ⟨_, rfl⟩
        rw [hM3] at hm
        have hba := hbr.alloc (Nat.le_trans hB hbr.size) (Obj.cells #[.int .i64 q.tr, .int .i64 q.bl, .int .i64 q.rd, .int .i64 q.ln] 67)
        have hma := hm.below ((Below.refl wr.heap.size wr).alloc (Nat.le_refl _) (Obj.cells #[.int .i64 q.tr, .int .i64 q.bl, .int .i64 q.rd, .int .i64 q.ln] 67))
        by_cases hr : q.rd = t
        · have hM4 : (Tl.newTo l t (i + 1)).foldl (Tl.pushM l K S t) M1 = Tl.pushM l K S t M3 i := by rw [Tl.newTo_succ, hq, if_pos hr, List.foldl_append, hM3]; rfl
          have q1 : M3.mv ≤ 1000000 := by
            have h1 := Tl.fold_mv (l := l) (K := K) (S := S) (t := t) (Tl.newTo l t i) M1
            have h2 := Tl.newTo_len l t i
            rw [hM3] at h1
            omega
          have q2 : (Tl.it l i).tr < M3.tn.length := by rw [← hM3, Tl.fold_tl, hM1tl]; exact Htr.out i hlt
          have q3 : Tl.MBd M3 := by rw [← hM3]; exact Tl.fold_bd _ _ hM1bd
          have HP := Lib.hid (mpush_c B gm gs n c k S cK i t _ AK vT M3 vs1 vs2 _ _ l K _ hma (hI.below hba) (hK.below hba) (Nat.le_trans hB hba.size) hlt ht hS (HKb.out i hlt) q2 q3 q1)
          have H4 := Lib.hid hM4
          have hr1 : ((q.rd : Int) == (t : Int)) = true := by simp; omega
          have hr2 : (q.rd == t) = true := by simp; omega
          have HBA := Lib.hid hba
          clear hq hM3 hM4 q1 q2 q3 hm hma hba
          clear hr
          go_wp2_with fail
          refine HP.out.mono ?_
          rintro e w5 ⟨rfl, hb5, vs5, vs6, hm5⟩
          have hx5 : MachX B gm gs (some ai) n c k S AK cK vT ((Tl.newTo l t (i + 1)).foldl (Tl.pushM l K S t) M1) nilS [] w w5 := ⟨HBA.out.trans hb5, vs5, vs6, by rw [H4.out]; exact hm5⟩
          clear hm5 hb5 HP HBA
          go_wp2_with fail
          go_roundw
          case rel => exact (show AtB _ _ _ _ _ _ _ _ _ _ _ _ _ _ _ _ _ _ from ⟨i + 1, by omega, by go_num, hx5⟩)
          case measure => simp [intOf]; omega
        · have hM4 : (Tl.newTo l t (i + 1)).foldl (Tl.pushM l K S t) M1 = M3 := by rw [Tl.newTo_succ, hq, if_neg hr, hM3]
          have hx5 : MachX B gm gs (some ai) n c k S AK cK vT ((Tl.newTo l t (i + 1)).foldl (Tl.pushM l K S t) M1) nilS [] w (wr.alloc (Obj.cells #[.int .i64 q.tr, .int .i64 q.bl, .int .i64 q.rd, .int .i64 q.ln] 67)) := ⟨hba, vs1, vs2, by rw [hM4]; exact hma⟩
          have hr1 : ((q.rd : Int) == (t : Int)) = false := by simp; omega
          have hr2 : (q.rd == t) = false := by simp; omega
          clear hq hM3 hM4 hm hma hba hr
          go_wp2_with fail
          go_roundw
          case rel => exact (show AtB _ _ _ _ _ _ _ _ _ _ _ _ _ _ _ _ _ _ from ⟨i + 1, by omega, by go_num, hx5⟩)
          case measure => simp [intOf]; omega
      · obtain rfl : i = n := by omega
        have e6 := hm.blk.cell 6
        have e7 := hm.blk.cell 7
        have z7 := hm.blk.frozen 7
        simp at e6 e7
        have hmp := hm.pushed
        have hbp := hbr.setCell (p := ⟨gm, 7, none⟩) hm.ge (.int .i64 ((((Tl.newTo l t i).foldl (Tl.pushM l K S t) M1).pu + 1 : Nat) : Int))
        have hpu : ((Tl.newTo l t i).foldl (Tl.pushM l K S t) M1).pu = M.pu := by rw [Tl.fold_pu, hM1pu]
        have HQ1 := HQ.out
        generalize (Tl.newTo l t i).foldl (Tl.pushM l K S t) M1 = M4 at *
        have hW : ((M4.pu + 1 : Nat) : Int) = (M.pu : Int) + 1 := by rw [hpu]; rfl
        rw [hW] at hbp hmp
        clear hW
        by_cases hmm : M.mv < M4.mv
        · rw [if_pos hmm] at HQ1
          have HQ2 := Lib.hid HQ1
          have HMP := Lib.hid hmp
          clear HQ HQ1 hm hmp
          go_wp2_with fail
          refine bodyPost_end (results_none rfl _ _ _) rfl ?_
          rw [HQ2.out]
          exact ⟨rfl, hbp, vs1, vs2, HMP.out⟩
        · rw [if_neg hmm] at HQ1
          have HQ2 := Lib.hid HQ1
          have HMP := Lib.hid hm
          have hmm2 : decide (M.mv < M4.mv) = false := by simpa using hmm
          clear HQ HQ1 hm hmp
          go_wp2_with fail
          refine bodyPost_end (results_none rfl _ _ _) rfl ?_
          rw [HQ2.out]
          exact ⟨rfl, hbr, vs1, vs2, HMP.out⟩
end Go.Proofs.YtocohkgdkebmdaaGreat
