/- The walk of rollin's Loads. -/
import Derived.Test.YtocohkgdkebmdaaGreatTlM6
namespace Go.Proofs.YtocohkgdkebmdaaGreat
open Go.RowKit
namespace Tl
def ldIn (k ln : Nat) : Nat → Nat → List Nat → List Nat
  | 0, _, o => o
  | f + 1, b, o => ldIn k ln f (b + 1) (if k.testBit b = true then o.set b (o.getD b 0 + ln) else o)
def ldStep (l : List IT) (K : List Nat) (S : Nat) (o : List Nat) (i : Nat) : List Nat :=
  (ldIn (kAt K i) (it l i).ln (S - (it l i).rd) (it l i).rd o).set (S + (it l i).tr) ((ldIn (kAt K i) (it l i).ln (S - (it l i).rd) (it l i).rd o).getD (S + (it l i).tr) 0 + (it l i).ln)
def ldTo (l : List IT) (K : List Nat) (S i : Nat) : List Nat := (List.range i).foldl (ldStep l K S) (List.replicate (S + nTn l) 0)
/-- The lengths that the tracks need. -/
def loads (l : List IT) (K : List Nat) (S : Nat) : List Nat := ldTo l K S l.length
theorem ldTo_succ (l : List IT) (K : List Nat) (S i : Nat) : ldTo l K S (i + 1) = ldStep l K S (ldTo l K S i) i := by
  unfold ldTo
  rw [List.range_succ, List.foldl_append]
  rfl
def LdB (o : List Nat) (m : Nat) : Prop := ∀ j, o.getD j 0 ≤ m
theorem LdB.set {o : List Nat} {m b a : Nat} (h : LdB o m) (ha : a ≤ 400) : LdB (o.set b (o.getD b 0 + a)) (m + 400) := by
  intro j
  by_cases e : b = j
  · subst e
    by_cases hb : b < o.length
    · rw [getD_set_same hb]
      have := h b
      omega
    · rw [List.set_eq_of_length_le (by omega)]
      have := h b
      omega
  · rw [getD_set_other e]
    have := h j
    omega
theorem LdB.more {o : List Nat} {m m' : Nat} (h : LdB o m) (hm : m ≤ m') : LdB o m' := fun j => Nat.le_trans (h j) hm
theorem ldIn_bd {k ln : Nat} (hl : ln ≤ 400) : ∀ (f b : Nat) (o : List Nat) (m : Nat), LdB o m → LdB (ldIn k ln f b o) (m + 400 * f)
  | 0, _, _, m, h => h.more (by omega)
  | f + 1, b, o, m, h => by
    unfold ldIn
    refine (ldIn_bd hl f (b + 1) _ (m + 400) ?_).more (by omega)
    split
    · exact h.set hl
    · exact h.more (by omega)
theorem ldTo_bd {l : List IT} {K : List Nat} {S k : Nat} (hj : JobOk l k) (hS : S ≤ 12) : ∀ i, i ≤ l.length → LdB (ldTo l K S i) (5200 * i)
  | 0, _ => fun j => by
    unfold ldTo
    show (List.replicate (S + nTn l) 0).getD j 0 ≤ _
    rw [List.getD_eq_getElem?_getD, List.getElem?_replicate]
    split <;> exact Nat.zero_le _
  | i + 1, hi => by
    rw [ldTo_succ]
    unfold ldStep
    have hln := (hj.its _ (it_mem (show i < l.length by omega))).2.2.2.2
    have h1 := ldIn_bd (k := kAt K i) hln (S - (it l i).rd) (it l i).rd _ _ (ldTo_bd (K := K) hj hS i (by omega))
    exact (h1.set hln).more (by omega)
end Tl
/-- What Loads leaves. -/
def LdR (l : List IT) (K : List Nat) (S : Nat) (w : World) (e : Ending) (w' : World) : Prop :=
  ∃ g : Nat, e = .returned (.tuple #[.slice (some ⟨g, 0, none⟩) (S + Tl.nTn l) (S + Tl.nTn l), .int .i64 0]) ∧ w'.ownsRow w.heap.size 3 1 (.slice (some ⟨g, 0, none⟩) (S + Tl.nTn l) (S + Tl.nTn l)) (S + Tl.nTn l) (ints64 (Tl.loads l K S)) ∧ Below w.heap.size w w'
/-- The outer loop. -/
def LdA (B g n m : Nat) (l : List IT) (K : List Nat) (S : Nat) (w : World) (p : Value) (w' : World) : Prop :=
  ∃ i : Nat, i ≤ n ∧ p = .int .i64 i ∧ w'.ownsRow B 3 1 (.slice (some ⟨g, 0, none⟩) m m) m (ints64 (Tl.ldTo l K S i)) ∧ Below w.heap.size w w'
/-- The inner loop. -/
def LdI (B g ib m S kx bd : Nat) (q : IT) (R : List Nat) (w : World) (p : Value) (w' : World) : Prop :=
  ∃ (b : Nat) (o : List Nat), b ≤ max q.rd S ∧ q.rd ≤ b ∧ p = .int .i64 b ∧ w'.ownsRow B 3 1 (.slice (some ⟨g, 0, none⟩) m m) m (ints64 o) ∧ Hid (Tl.LdB o (bd + 400 * (b - q.rd))) ∧ Hid (Tl.ldIn kx q.ln (S - b) b o = R) ∧ Below w.heap.size w w' ∧ Blk w' ib 67 #[.int .i64 q.tr, .int .i64 q.bl, .int .i64 q.rd, .int .i64 q.ln]
/-- Behind the making of the list. -/
def LdC (B m : Nat) (w1 : World) (v : Value) (W : World) : Prop :=
  ∃ g, v = .slice (some ⟨g, 0, none⟩) m m ∧ w1.heap.size ≤ g ∧ W.ownsRow B 3 1 (.slice (some ⟨g, 0, none⟩) m m) m (List.replicate m (.int .i64 0)) ∧ Below w1.heap.size w1 W
set_option maxRecDepth 100000 in
set_option maxHeartbeats 4000000 in
theorem rloads_c (A AK : Option Addr) (n c k S cK : Nat) (l : List IT) (K : List Nat) (w : World) (hj : Tl.JobOk l k) (hp : Tl.PlanOk l k S K) (h : IR4 w A n l) (hK : Reads w w.heap.size 1 AK n (ints64 K)) :
    Calls Tryz.prog 59 #[jobV A n c k, planV S AK n cK] w (LdR l K S w) := by
  have hl := h.len
  have hn := hj.len
  have hS := hp.st
  have hnt : Tl.nTn l ≤ 16 := Tl.nTn_le fun x hx => by have := (hj.its x hx).1; omega
  obtain ⟨W0, hW0⟩ : ∃ W0, (w.alloc (.cells #[.slice A n c, .int .i64 k] 57)).alloc (.cells #[.int .i64 S, .slice AK n cK] 59) = W0 := ⟨_, rfl⟩
  have hB1 : Blk W0 w.heap.size 57 #[.slice A n c, .int .i64 k] := by rw [← hW0]; exact (Blk.new w _ _).alloc _
  have hB2 : Blk W0 (w.heap.size + 1) 59 #[.int .i64 S, .slice AK n cK] := by
    rw [← hW0]
    have := Blk.new (w.alloc (.cells #[.slice A n c, .int .i64 k] 57)) 59 #[.int .i64 S, .slice AK n cK]
    simpa using this
  have hb0 : Below w.heap.size w W0 := by rw [← hW0]; exact ((Below.refl _ _).alloc (Nat.le_refl _) _).alloc (by simp) _
  have hs0 := hb0.size
  have h0 : Reads W0 W0.heap.size 4 A n (flat4 l) := h.below hb0
  have hK0 : Reads W0 W0.heap.size 1 AK n (ints64 K) := (hK.below hb0).more hs0
  have HV := Lib.hid (rvalid_c A AK n c k S cK l K W0 hj hp h0 hK0)
  have HJ := Lib.hid hj
  have HP := Lib.hid hp
  unfold jobV planV at HV ⊢
  obtain ⟨B, hB⟩ : ∃ B, w.heap.size = B := ⟨_, rfl⟩
  rw [hB] at hB1 hB2 hb0 hs0
  have j0 := hB1.cell 0
  have j1 := hB1.cell 1
  have p0 := hB2.cell 0
  have p1 := hB2.cell 1
  simp at j0 j1 p0 p1
  clear hj hp h hK hB1 hB2
  go_enter Tryz.func59, Tryz.ntmps59
  go_wp2_with fail
  clear hW0
  refine HV.out.mono ?_
  rintro e w1 ⟨rfl, hb1⟩
  have h1 := IR4.below h0 hb1
  have hK1 := (hK0.below hb1).more hb1.size
  have HS := Lib.hid (mstart_c n c k S cK A AK l w1.drew h1 hS (by omega) (fun x hx => (HJ.out.its x hx).1))
  replace j0 := keep_cell hb1 j0
  replace j1 := keep_cell hb1 j1
  replace p0 := keep_cell hb1 p0
  replace p1 := keep_cell hb1 p1
  have hs1 : B ≤ w1.heap.size := Nat.le_trans hs0 hb1.size
  have hbw1 : Below B w w1 := hb0.trans (hb1.mono hs0)
  unfold jobV planV at HS
  clear HV h0 hK0 hb0 hb1 hs0
  have htl : (Tl.start l S).tn.length = Tl.nTn l := by simp [Tl.start]
  have hwr : IntKind.i64.wrap ((S : Int) + (Tl.nTn l : Nat)) = (S : Int) + (Tl.nTn l : Nat) := IntWalk.i64_in _ ⟨by omega, by omega⟩
  go_upto_region 4 with fail
  go_cut [7] from 8 (fun v W => LdC B (S + Tl.nTn l) w1 v W)
  case first =>
    have hs2 : B + 1 < w1.heap.size := by have := cell_lt p0; exact this
    go_region_law (go_simp; go_at_call 62; refine HS.out.mono ?_; rintro e w2 ⟨gm, gs, vT, rfl, hb2, vs1, vs2, hm⟩
                   have j0' := keep_cell_d hb2 j0
                   have p0' := keep_cell_d hb2 p0
                   have p1' := keep_cell_d hb2 p1
                   obtain ⟨AT, cT, rfl, _, _⟩ := own_form hm.own.b.outer
                   have c5 := hm.blk.cell 5
                   simp at c5
                   rw [htl] at c5
                   obtain ⟨i3, i3a, i3b, i3c, i3d⟩ := mk_intR.2
                   obtain ⟨w3, hrun, own3, hg3⟩ := run_make_full (P := Tryz.prog) w2 B 22 3 i3 (.int .i64 0) 1 mk_intR.1 i3a i3b i3c .i64 .i64 (S + Tl.nTn l) (by rw [i3d]; omega) (by unfold maxLen; omega) (Nat.le_trans hs1 hb2.size)
                   rw [Int.natCast_add] at hrun)
    all_goals
      go_wp2_with fail
      go_meet
      case rel =>
        rw [show (Value.int IntKind.i64 0).cells = #[Value.int IntKind.i64 0] from rfl, Nat.mul_one, toList_madeCells_one] at own3
        have hb3 : Below w2.heap.size w2 w3 := (Below.refl _ _).grown hg3 (Nat.le_refl _) (by simp)
        have hsz2 : w1.heap.size ≤ w2.heap.size := hb2.size
        exact ⟨w2.heap.size, rfl, hsz2, own3, (below_drew' hb2).trans (hb3.mono hsz2)⟩
  case rest =>
    obtain ⟨g, rfl, hg, own, hb2⟩ := hcut
    have hs2 : B + 1 < w1.heap.size := by have := cell_lt p0; exact this
    replace j0 := keep_cell hb2 j0
    rw [← ints64_zeros, show List.replicate (S + Tl.nTn l) 0 = Tl.ldTo l K S 0 from rfl] at own
    obtain ⟨m, hm⟩ : ∃ m, S + Tl.nTn l = m := ⟨_, rfl⟩
    rw [hm] at own
    have hm28 : m ≤ 28 := by omega
    have hmI : (S : Int) + (Tl.nTn l : Nat) = (m : Int) := by omega
    have hld := Tl.ldTo_bd (K := K) HJ.out hS
    have HLD := Lib.hid hld
    have Htr : Hid (∀ i, i < n → S + (Tl.it l i).tr < m ∧ (Tl.it l i).rd ≤ 12 ∧ (Tl.it l i).ln ≤ 400 ∧ Tl.kAt K i < 4096) := Lib.hid fun i hi => by
      have h5 := Tl.tr_ok (l := l) (x := i) (by omega)
      have h6 := HJ.out.its _ (Tl.it_mem (l := l) (x := i) (by omega))
      have h7 := (HP.out.codes i (by omega)).2
      have h12 : 2 ^ S ≤ 2 ^ 12 := Nat.pow_le_pow_right (by decide) hS
      exact ⟨by omega, h6.2.2.1, h6.2.2.2.2, by omega⟩
    clear hld HS
    simp only [hm]
    go_wp2_with fail
    go_loopw [31] (fun p wr => LdA B g n m l K S w1 p wr) (fun p _ => n - (intOf p).toNat)
    case atStart => exact (show LdA _ _ _ _ _ _ _ _ _ _ from ⟨0, by omega, rfl, own, hb2⟩)
    case round =>
      clear own hb2 j0
      obtain ⟨i, hi, rfl, own, hbr⟩ := hrel
      by_cases hlt : i < n
      · obtain ⟨ai, rfl, d1, d2, d3, d4⟩ := items_at (Reads.more (Reads.below h1 hbr) hbr.size) (Nat.le_refl _) hlt
        obtain ⟨hq1, hq2, hq3, hkx⟩ := Htr.out i hlt
        have hsucc := Tl.ldTo_succ l K S i
        unfold Tl.ldStep at hsucc
        obtain ⟨q, hq⟩ : ∃ q, Tl.it l i = q := ⟨_, rfl⟩
        rw [hq] at d1 d2 d3 d4 hq1 hq2 hq3 hsucc
        obtain ⟨kx, hkxE⟩ : ∃ kx, Tl.kAt K i = kx := ⟨_, rfl⟩
        rw [hkxE] at hkx hsucc
        have hbd0 := HLD.out i (by omega)
        obtain ⟨o0, ho0⟩ : ∃ o0, Tl.ldTo l K S i = o0 := ⟨_, rfl⟩
        rw [ho0] at own hsucc hbd0
        obtain ⟨R, hR⟩ : ∃ R, Tl.ldIn kx q.ln (S - q.rd) q.rd o0 = R := ⟨_, rfl⟩
        rw [hR] at hsucc
        obtain ⟨ak, rfl, _, ck⟩ := codes_at (hK1.below hbr) hlt
        rw [hkxE] at ck
        obtain ⟨W4, hW4⟩ : ∃ W4, wr.alloc (Obj.cells #[.int .i64 q.tr, .int .i64 q.bl, .int .i64 q.rd, .int .i64 q.ln] 67) = W4 := ⟨_, rfl⟩
        have hba : Below w1.heap.size w1 W4 := by rw [← hW4]; exact hbr.alloc hbr.size _
        have hib : Blk W4 wr.heap.size 67 #[.int .i64 q.tr, .int .i64 q.bl, .int .i64 q.rd, .int .i64 q.ln] := by rw [← hW4]; exact Blk.new wr _ _
        have own4 : W4.ownsRow B 3 1 (.slice (some ⟨g, 0, none⟩) m m) m (ints64 o0) := by rw [← hW4]; exact own.alloc _
        obtain ⟨ib, hibE⟩ : ∃ ib, wr.heap.size = ib := ⟨_, rfl⟩
        rw [hibE] at hib
        have i2 := hib.cell 2
        simp at i2
        have HSu := Lib.hid hsucc
        have HR := Lib.hid hR
        have Hbd0 := Lib.hid hbd0
        clear hsucc hR hbd0 own hq ho0
        go_wp2_with fail
        clear d1 d2 d3 d4 hW4 i2
        go_loopw [10] (fun p wr => LdI B g ib m S kx (5200 * i) q R w1 p wr) (fun p _ => S - (intOf p).toNat)
        case atStart => exact (show LdI _ _ _ _ _ _ _ _ _ _ _ _ from ⟨q.rd, o0, Nat.le_max_left _ _, Nat.le_refl _, rfl, own4, Lib.hid (by have := Hbd0.out; simpa using this), HR, hba, hib⟩)
        case round =>
          clear own4 hba hib
          obtain ⟨b, o, hbm, hqb, rfl, own, HB, HI, hbr2, hib⟩ := hrel
          have r0 := keep_cell hbr2 p0
          have r1 := keep_cell hbr2 p1
          by_cases hlb : b < S
          · have hdl : decide ((b : Int) < (S : Int)) = true := decide_eq_true (by omega)
            have ck2 := codes_at (hK1.below hbr2) hlt
            rw [hkxE] at ck2
            obtain ⟨ak2, hak2, _, ck2⟩ := ck2
            obtain rfl := Option.some.inj hak2
            obtain ⟨f, hf⟩ : ∃ f, S - b = f + 1 := ⟨S - b - 1, by omega⟩
            have HI2 := HI.out
            rw [hf] at HI2
            unfold Tl.ldIn at HI2
            rw [show f = S - (b + 1) by omega] at HI2
            cases htt : kx.testBit b with
            | false =>
              rw [htt, if_neg (by simp)] at HI2
              have HI3 := Lib.hid HI2
              have hb0 := bit_no hkx htt
              have HB3 : Hid (Tl.LdB o (5200 * i + 400 * (b + 1 - q.rd))) := Lib.hid (HB.out.more (by omega))
              clear HI HI2 HB htt hf hak2
              go_wp2_with fail
              go_roundw
              case rel => exact (show LdI _ _ _ _ _ _ _ _ _ _ _ _ from ⟨b + 1, o, by omega, by omega, by go_num, own, HB3, HI3, hbr2, hib⟩)
              case measure => simp [intOf]; omega
            | true =>
              rw [htt, if_pos rfl] at HI2
              have HI3 := Lib.hid HI2
              have hb1 := bit_yes hkx htt
              have HB3 : Hid (Tl.LdB (o.set b (o.getD b 0 + q.ln)) (5200 * i + 400 * (b + 1 - q.rd))) := Lib.hid ((HB.out.set hq3).more (by omega))
              have ob := HB.out b
              have co := own64_cell own (i := b) (by omega)
              have zo := own.frozenAt b
              have own5 := own64_set own (i := b) (o.getD b 0 + q.ln)
              obtain ⟨ov, hov⟩ : ∃ ov, o.getD b 0 = ov := ⟨_, rfl⟩
              rw [hov] at co ob own5 HI3 HB3
              have i3 := hib.cell 3
              simp at i3
              have hbm' : (b : Int) < (m : Int) := by omega
              have hng : ib ≠ g := by
                intro e
                have h1 := own_blk_ne own hib (by decide)
                exact h1 (by rw [e]; rfl)
              have hib5 := hib.far (p := ⟨g, b, none⟩) hng (.int .i64 ((ov + q.ln : Nat) : Int))
              have hbr5 := hbr2.setCell (p := ⟨g, b, none⟩) hg (.int .i64 ((ov + q.ln : Nat) : Int))
              rw [Int.natCast_add] at own5 hib5 hbr5
              have hwq : IntKind.i64.wrap ((ov : Int) + (q.ln : Int)) = (ov : Int) + (q.ln : Int) := IntWalk.i64_in _ ⟨by omega, by omega⟩
              clear HI HI2 HB htt hf hak2 hov own hib
              go_wp2_with fail
              go_region
              all_goals
                go_wp2_with fail
                go_roundw
                case rel => exact (show LdI _ _ _ _ _ _ _ _ _ _ _ _ from ⟨b + 1, _, by omega, by omega, by go_num, own5, HB3, HI3, below_drewN hbr5 1, hib5.drew⟩)
                case measure => simp [intOf]; omega
          · have hdl : decide ((b : Int) < (S : Int)) = false := decide_eq_false (by omega)
            have HI2 := HI.out
            rw [show S - b = 0 by omega] at HI2
            unfold Tl.ldIn at HI2
            subst HI2
            have ob := HB.out (S + q.tr)
            have co := own64_cell own (i := S + q.tr) hq1
            have zo := own.frozenAt (S + q.tr)
            have own5 := own64_set own (i := S + q.tr) (o.getD (S + q.tr) 0 + q.ln)
            rw [← HSu.out] at own5
            obtain ⟨ov, hov⟩ : ∃ ov, o.getD (S + q.tr) 0 = ov := ⟨_, rfl⟩
            rw [hov] at co ob own5
            have i0 := hib.cell 0
            have i3 := hib.cell 3
            simp at i0 i3
            have hwi : IntKind.i64.wrap ((S : Int) + (q.tr : Int)) = (S : Int) + (q.tr : Int) := IntWalk.i64_in _ ⟨by omega, by omega⟩
            have hsum : (S : Int) + (q.tr : Int) = ((S + q.tr : Nat) : Int) := by omega
            obtain ⟨st, hst⟩ : ∃ st, S + q.tr = st := ⟨_, rfl⟩
            rw [hst] at co zo own5 hq1 hsum
            have hst0 : (0 : Int) ≤ (st : Int) := by omega
            have hst1 : (st : Int) < (m : Int) := by omega
            have hbr5 := hbr2.setCell (p := ⟨g, st, none⟩) hg (.int .i64 ((ov + q.ln : Nat) : Int))
            rw [Int.natCast_add] at own5 hbr5
            have hwq : IntKind.i64.wrap ((ov : Int) + (q.ln : Int)) = (ov : Int) + (q.ln : Int) := IntWalk.i64_in _ ⟨by omega, by omega⟩
            have hwi2 : IntKind.i64.wrap (st : Int) = (st : Int) := IntWalk.i64_in _ ⟨by omega, by omega⟩
            clear HI HB hov own hib hst
            go_wp2_with fail
            go_region
            all_goals
              go_wp2_with fail
              go_roundw
              case rel => exact (show LdA _ _ _ _ _ _ _ _ _ _ from ⟨i + 1, by omega, by go_num, own5, below_drewN hbr5 1⟩)
              case measure => simp [intOf]; omega
      · obtain rfl : i = n := by omega
        have hE : LdR l K S w (.returned (.tuple #[.slice (some ⟨g, 0, none⟩) (S + Tl.nTn l) (S + Tl.nTn l), .int .i64 0])) wr :=
          ⟨g, rfl, by rw [hm, hB]; unfold Tl.loads; rw [hl]; exact own, by rw [hB]; exact hbw1.trans (hbr.mono hs1)⟩
        rw [hm] at hE
        go_wp2_with fail
        go_ret2
        exact hE
end Go.Proofs.YtocohkgdkebmdaaGreat
