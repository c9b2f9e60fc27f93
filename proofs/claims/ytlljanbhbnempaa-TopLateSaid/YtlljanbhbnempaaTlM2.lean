/- The walk of rollin's push. -/
import Derived.Test.YtlljanbhbnempaaTlM1
import Derived.Deep.RegionLaw
import Derived.BigRegion
namespace Go.Proofs.Ytlljanbhbnempaa
open Go.RowKit
namespace Tl
/-- No row is longer than the moves. -/
def MBd (M : MC) : Prop := (∀ i, (M.st.getD i []).length ≤ M.mv) ∧ ∀ j, (M.tn.getD j []).length ≤ M.mv
end Tl
theorem tmach_push_len {l : List Nat} (x : Nat) : (l ++ [x]).length = l.length + 1 := by simp
theorem nbit_step {k b S : Nat} (h : b < S) : Tl.nbit k b (S - b) = if k.testBit b = true then some b else Tl.nbit k (b + 1) (S - (b + 1)) := by
  obtain ⟨f, hf⟩ : ∃ f, S - b = f + 1 := ⟨S - b - 1, by omega⟩
  rw [hf, show S - (b + 1) = f by omega]
  rfl
theorem nbit_end {k b S : Nat} (h : S ≤ b) : Tl.nbit k b (S - b) = none := by rw [show S - b = 0 by omega]; rfl
theorem bit_yes {k b : Nat} (hk : k < 4096) (h : k.testBit b = true) : bits .and .i64 ((k : Int) / 2 ^ b) 1 = 1 := by
  rw [i64_bit k b (by omega)]
  rw [Nat.testBit_eq_decide_div_mod_eq, decide_eq_true_eq] at h
  rw [h]; rfl
theorem bit_no {k b : Nat} (hk : k < 4096) (h : k.testBit b = false) : bits .and .i64 ((k : Int) / 2 ^ b) 1 = 0 := by
  rw [i64_bit k b (by omega)]
  rw [Nat.testBit_eq_decide_div_mod_eq, decide_eq_false_iff_not] at h
  rw [show k / 2 ^ b % 2 = 0 by omega]; rfl
theorem codes_at {w : World} {B n x : Nat} {AK : Option Addr} {K : List Nat} (h : Reads w B 1 AK n (ints64 K)) (hx : x < n) : ∃ ad, AK = some ad ∧ ad.block < B ∧ w.cell? (ad.add x) = some (.int .i64 (Tl.kAt K x : Nat)) := by
  obtain ⟨ad, u, e, hb, hu, hc⟩ := h.at_ hx
  have hl : K.length = n := by have := h.1; simpa [ints64] using this
  rw [ints64_at K x (by omega)] at hu
  refine ⟨ad, e, hb, ?_⟩
  rw [hc, ← hu]
  rfl
theorem items_at {w : World} {B n x : Nat} {A : Option Addr} {l : List IT} (h : Reads w B 4 A n (flat4 l)) (hB : B ≤ w.heap.size) (hx : x < n) : ∃ ad, A = some ad ∧ w.cell? (ad.add (x * 4)) = some (.int .i64 (Tl.it l x).tr) ∧ w.cell? ⟨(ad.add (x * 4)).block, (ad.add (x * 4)).off + 1, none⟩ = some (.int .i64 (Tl.it l x).bl) ∧
    w.cell? ⟨(ad.add (x * 4)).block, (ad.add (x * 4)).off + 2, none⟩ = some (.int .i64 (Tl.it l x).rd) ∧ w.cell? ⟨(ad.add (x * 4)).block, (ad.add (x * 4)).off + 3, none⟩ = some (.int .i64 (Tl.it l x).ln) := by
  obtain ⟨ad, p, e, _, hp, h1, h2, h3, h4⟩ := IR4.at_ (h.more hB) hx
  rw [(itm_at hp).1]
  exact ⟨ad, e, h1, h2, h3, h4⟩
/-- What push leaves. -/
def PushR (B gm gs : Nat) (A : Option Addr) (n c k S : Nat) (AK : Option Addr) (cK : Nat) (vT : Value) (M : Tl.MC) (lv : Value) (lr : List Nat) (w : World) (e : Ending) (w' : World) : Prop :=
  e = .returned (.tuple #[]) ∧ Below B w w' ∧ ∃ vsS vsT, MachS w' B gm gs A n c k S AK cK vT M vsS vsT lv lr
theorem push_some {l : List IT} {K : List Nat} {S t x b : Nat} {M : Tl.MC} (h : Tl.nbit (Tl.kAt K x) t (S - t) = some b) : Tl.pushM l K S t M x = { M with st := M.st.set b (M.st.getD b [] ++ [x]), mv := M.mv + 1 } := by
  unfold Tl.pushM
  rw [h]
  rfl
theorem push_none {l : List IT} {K : List Nat} {S t x : Nat} {M : Tl.MC} (h : Tl.nbit (Tl.kAt K x) t (S - t) = none) : Tl.pushM l K S t M x = { M with tn := M.tn.set (Tl.it l x).tr (M.tn.getD (Tl.it l x).tr [] ++ [x]), mv := M.mv + 1 } := by
  unfold Tl.pushM
  rw [h]
  rfl
theorem own9_snoc {w : World} {B e x : Nat} {A : Option Addr} {c : Nat} {row : List Nat} (h : w.ownsRow B e 1 (.slice A (row.length + 1) c) (row.length + 1) (ints64 row ++ #[Value.int .i64 x].toList)) :
    w.ownsRow B e 1 (.slice A (row.length + 1) c) (row ++ [x]).length (ints64 (row ++ [x])) := by
  rw [tmach_push_len]
  simpa [ints64] using h
set_option maxRecDepth 100000 in
set_option maxHeartbeats 4000000 in
theorem mpush_c (B gm gs n c k S cK x t : Nat) (A AK : Option Addr) (vT : Value) (M : Tl.MC) (vsS vsT : List Value) (lv : Value) (lr : List Nat) (l : List IT) (K : List Nat) (w : World)
    (h : MachS w B gm gs A n c k S AK cK vT M vsS vsT lv lr) (hI : Reads w B 4 A n (flat4 l)) (hK : Reads w B 1 AK n (ints64 K)) (hB : B ≤ w.heap.size) (hx : x < n) (ht : t ≤ S) (hS : S ≤ 12)
    (hKb : Tl.kAt K x < 4096) (htr : (Tl.it l x).tr < M.tn.length) (hbd : Tl.MBd M) (hmv : M.mv ≤ 1000000) :
    Calls Try.prog 45 #[.pointer (some ⟨gm, 0, none⟩), .int .i64 x, .int .i64 t] w (PushR B gm gs A n c k S AK cK vT (Tl.pushM l K S t M x) lv lr w) := by
  have c6 := h.blk.cell 6
  have z6 := h.blk.frozen 6
  simp at c6
  have hm1 := h.moved
  rw [show ((M.mv + 1 : Nat) : Int) = (M.mv : Int) + 1 from rfl] at hm1
  have hbs : Below B w (w.setCell ⟨gm, 6, none⟩ (.int .i64 ((M.mv : Int) + 1))) := (Below.refl _ _).setCell (p := ⟨gm, 6, none⟩) h.ge _
  go_enter Try.func45, Try.ntmps45
  go_wp2_with fail
  clear c6 z6 h
  replace hI := hI.below hbs
  replace hK := hK.below hbs
  replace hB := Nat.le_trans hB hbs.size
  generalize w.setCell ⟨gm, 6, none⟩ (.int .i64 ((M.mv : Int) + 1)) = W1 at *
  have HM := Lib.hid hm1
  have Hbd := Lib.hid hbd
  have HP : Hid (∀ M', M' = Tl.pushM l K S t M x → Tl.pushM l K S t M x = M') := Lib.hid fun _ e => e.symm
  clear hbd
  have c2 := hm1.blk.cell 2
  have c3 := hm1.blk.cell 3
  have c4 := hm1.blk.cell 4
  have c5 := hm1.blk.cell 5
  have c0 := hm1.blk.cell 0
  simp at c0 c2 c3 c4 c5
  clear hm1
  obtain ⟨ak, rfl, hab, ck⟩ := codes_at hK hx
  obtain ⟨ai, rfl, ci, _⟩ := items_at hI hB hx
  obtain ⟨q, hq⟩ : ∃ q, Tl.kAt K x = q := ⟨_, rfl⟩
  obtain ⟨tr, htrE⟩ : ∃ tr, (Tl.it l x).tr = tr := ⟨_, rfl⟩
  rw [hq] at ck hKb
  rw [htrE] at ci htr
  have Hq := Lib.hid hq
  have Htr := Lib.hid htrE
  clear hq htrE
  go_loop [6] (fun p => ∃ b : Nat, t ≤ b ∧ b ≤ S ∧ p = .int .i64 b ∧ Hid (Tl.nbit q t (S - t) = Tl.nbit q b (S - b))) (fun p => S - (intOf p).toNat)
  case atStart => exact ⟨t, by omega, ht, rfl, Lib.hid rfl⟩
  case round =>
    obtain ⟨b, htb, hbS, rfl, hn⟩ := hrel
    by_cases hlt : b < S
    · have hst := nbit_step (k := q) hlt
      cases htt : q.testBit b with
      | false =>
        rw [htt] at hst
        have hn2 := Lib.hid (hn.out.trans hst)
        have hb0 := bit_no hKb htt
        clear hst hn htt
        go_wp2_with fail
        go_round
        case rel => exact ⟨b + 1, by omega, by omega, by go_num, hn2⟩
        case measure => simp [intOf]; omega
      | true =>
        rw [htt, if_pos rfl] at hst
        have hn2 := Lib.hid (hn.out.trans hst)
        have hb1 := bit_yes hKb htt
        clear hst hn htt
        have hm1 := HM.out
        obtain ⟨vb, hvb⟩ : ∃ vb, vsS.getD b nilS = vb := ⟨_, rfl⟩
        obtain ⟨row, hrow⟩ : ∃ row, M.st.getD b [] = row := ⟨_, rfl⟩
        have own1 := hm1.own.a.inner b hlt
        have cb := hm1.own.a.cellO hlt
        rw [hvb, hrow] at own1
        rw [hvb] at cb
        have hrl : row.length ≤ M.mv := by rw [← hrow]; exact Hbd.out.1 b
        obtain ⟨Ab, cap, rfl, _, _⟩ := own_form own1
        have n1 : (Value.slice Ab row.length cap).ownBlock ≠ some gm := own_blk_ne own1 hm1.blk (by decide)
        have n2 : apart (Value.slice (some ⟨gs, 0, none⟩) S S) (.slice Ab row.length cap) := own_ne hm1.own.a.outer own1 (by decide)
        have own1d := own_drew own1
        have hBd : B ≤ W1.drew.heap.size := hB
        have c4a := fun o : Obj => cell_alloc c4 o
        have cba := fun o : Obj => cell_alloc cb o
        have hms : row.length + 1 ≤ maxLen := by unfold maxLen; omega
        have hms2 : (row.length + 1) * 8 ≤ 140737488355328 := by omega
        have HO := Lib.hid hm1.own.a.outer
        have HB := Lib.hid hm1.blk
        have Hrow := Lib.hid hrow
        have Hvb := Lib.hid hvb
        clear hm1 hrow hvb
        go_wp2_with fail
        go_region_law (refine step_pushb sl_int (by rfl) (.tmp 48) (.tmp 50) (by rfl) B (.slice Ab row.length cap) row.length (ints64 row) (by rfl) own1d 1 1 W1.drew.heap.size rfl (by rfl) (by rfl) (by rfl) hms hms2 hBd ?_
                       intro v' w9 own9 hgr
                       obtain ⟨A9, c9, rfl, _, _⟩ := own_form own9
                       have c4' := (HB.out.drew.grown hgr.grown (fun e => n1 e.symm)).cell 4
                       simp at c4'
                       have cb' := hgr.cell (a := ⟨gs, b, none⟩) cb (by rcases n2.symm with e | e; (rw [e]; simp); exact e)
                       have zb' := (hgr.keep (own_drew HO.out) n2).frozenAt b)
        all_goals
          go_wp2_with fail
          refine bodyPost_ret (results_none rfl _ _ _) rfl ?_
          have hm9 := MachS.onS HM.out.drew hlt (by rw [Hvb.out]; exact hgr) (own9_snoc own9)
          have hpp := push_some (l := l) (M := M) (by rw [Hq.out]; exact hn2.out)
          rw [Hrow.out] at hpp
          rw [hpp]
          refine ⟨rfl, ?_, _, _, hm9⟩
          exact (hbs.trans (below_drew' (hgr.below (own_ge own1d) hBd))).setCell (p := ⟨gs, b, none⟩) (own_ge HO.out _ rfl) _
    · obtain rfl : b = S := by omega
      have hn2 := Lib.hid (hn.out.trans (nbit_end (Nat.le_refl _)))
      clear hn
      have hm1 := HM.out
      have hto := hm1.own.b.outer
      obtain ⟨gt, capT, hvT, _, _⟩ := hto.form (by show 0 < M.tn.length; omega)
      subst hvT
      obtain ⟨vb, hvb⟩ : ∃ vb, vsT.getD tr nilS = vb := ⟨_, rfl⟩
      obtain ⟨row, hrow⟩ : ∃ row, M.tn.getD tr [] = row := ⟨_, rfl⟩
      obtain ⟨nT, hnT⟩ : ∃ nT, M.tn.length = nT := ⟨_, rfl⟩
      have own1 := hm1.own.b.inner tr htr
      have cb := hm1.own.b.cellO htr
      rw [hvb, hrow] at own1
      rw [hvb] at cb
      have hrl : row.length ≤ M.mv := by rw [← hrow]; exact Hbd.out.2 tr
      obtain ⟨Ab, cap, rfl, _, _⟩ := own_form own1
      have n1 : (Value.slice Ab row.length cap).ownBlock ≠ some gm := own_blk_ne own1 hm1.blk (by decide)
      have n2 : apart (Value.slice (some ⟨gt, 0, none⟩) M.tn.length capT) (.slice Ab row.length cap) := own_ne hto own1 (by decide)
      rw [hnT] at n2 hto c5 htr
      have own1d := own_drew own1
      have hBd : B ≤ W1.drew.heap.size := hB
      have c5a := fun o : Obj => cell_alloc c5 o
      have cba := fun o : Obj => cell_alloc cb o
      have hms : row.length + 1 ≤ maxLen := by unfold maxLen; omega
      have hms2 : (row.length + 1) * 8 ≤ 140737488355328 := by omega
      have HO := Lib.hid hto
      have HB := Lib.hid hm1.blk
      have Hrow := Lib.hid hrow
      have Hvb := Lib.hid hvb
      have HnT := Lib.hid hnT
      rw [hnT] at HB
      clear hm1 hrow hvb hnT hto
      go_wp2_with fail
      go_region_law (refine step_pushb sl_int (by rfl) (.tmp 73) (.tmp 75) (by rfl) B (.slice Ab row.length cap) row.length (ints64 row) (by rfl) own1d 1 1 W1.drew.heap.size rfl (by rfl) (by rfl) (by rfl) hms hms2 hBd ?_
                     intro v' w9 own9 hgr
                     obtain ⟨A9, c9, rfl, _, _⟩ := own_form own9
                     have c5' := (HB.out.drew.grown hgr.grown (fun e => n1 e.symm)).cell 5
                     simp at c5'
                     have cb' := hgr.cell (a := ⟨gt, tr, none⟩) cb (by rcases n2.symm with e | e; (rw [e]; simp); exact e)
                     have zb' := (hgr.keep (own_drew HO.out) n2).frozenAt tr)
      all_goals
        go_wp2_with fail
        refine bodyPost_end (results_none rfl _ _ _) rfl ?_
        have hm9 := MachS.onT (M := { M with mv := M.mv + 1 }) HM.out.drew (by rw [HnT.out]; exact htr) (by rw [Hvb.out]; exact hgr) (own9_snoc own9)
        have hpp := push_none (l := l) (M := M) (by rw [Hq.out]; exact hn2.out)
        rw [Htr.out, Hrow.out] at hpp
        rw [hpp]
        refine ⟨rfl, ?_, _, _, hm9⟩
        exact (hbs.trans (below_drew' (hgr.below (own_ge own1d) hBd))).setCell (p := ⟨gt, tr, none⟩) (own_ge HO.out _ rfl) _
end Go.Proofs.Ytlljanbhbnempaa
