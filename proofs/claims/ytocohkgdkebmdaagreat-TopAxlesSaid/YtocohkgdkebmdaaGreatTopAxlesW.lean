/- The walk of 'TopAxles'. -/
import Derived.Test.YtocohkgdkebmdaaGreatV3
import Derived.Test.YtocohkgdkebmdaaGreatWG
import Derived.Test.YtocohkgdkebmdaaGreatAxDi
import Derived.Test.YtocohkgdkebmdaaGreatAxRe
import Derived.Test.YtocohkgdkebmdaaGreatAxAw
import Derived.Test.YtocohkgdkebmdaaGreatFnWag
import Derived.Test.YtocohkgdkebmdaaGreatTlLt
import Derived.Test.YtocohkgdkebmdaaGreatFnG4
namespace Go.Proofs.YtocohkgdkebmdaaGreat
open Go.RowKit
/-- The loop over the distances. -/
def TaT (sp dn : Nat) (D : List Nat) (w : World) (at_ tv p : Value) (wr : World) : Prop :=
  ∃ k : Nat, k ≤ dn ∧ p = .int .i64 k ∧ at_ = .int .i64 (Ax.tms sp D k : Nat) ∧ wr.ownsRow w.heap.size 3 1 tv (k + 1) (ints64 (Ax.tm0 sp D (k + 1))) ∧ Below w.heap.size w wr
/-- The loop that merges the pulses. -/
def TaM (sp m : Nat) (D : List Nat) (w : World) (pv vi vj : Value) (wr : World) : Prop :=
  ∃ (i j : Nat) (p : List V3), vi = .int .i64 i ∧ vj = .int .i64 j ∧ Ax.Mrg sp D m i j p ∧ j ≤ m ∧ wr.ownsRow w.heap.size 33 3 pv p.length (flat3 p) ∧ Below w.heap.size w wr
/-- The loop that parts the pulses. -/
def TaS (n : Nat) (p : List V3) (w : World) (fv sv pv : Value) (wr : World) : Prop :=
  ∃ k : Nat, k ≤ n ∧ pv = .int .i64 k ∧ wr.ownsRow w.heap.size 3 1 fv (Ax.fst0 (p.take k)).length (ints64 (Ax.fst0 (p.take k))) ∧ wr.ownsRow w.heap.size 3 1 sv (Ax.snd0 (p.take k)).length (ints64 (Ax.snd0 (p.take k))) ∧
    apart fv sv ∧ Below w.heap.size w wr
/-- The loop over the wagons. -/
def TaP (n : Nat) (W : List Ax.W2) (w : World) (r6 pv p : Value) (wr : World) : Prop :=
  ∃ (k : Nat) (vs : List Value), k ≤ n ∧ r6 = .bool false ∧ p = .int .i64 k ∧ OwnLL wr w.heap.size 22 3 pv k ((W.map Ax.pat).take k) vs ∧ Below w.heap.size w wr
/-- The loop over the axles of a wagon. -/
def TaQ (O : List Nat) (w : World) (sv p : Value) (wr : World) : Prop :=
  ∃ k : Nat, k + 1 ≤ O.length ∧ p = .int .i64 ((k + 1 : Nat) : Int) ∧ wr.ownsRow w.heap.size 3 1 sv k (ints64 ((Ax.diffs O).take k)) ∧ Below w.heap.size w wr
theorem speed_of (x : Int) : ∃ s : Nat, 1 ≤ s ∧ s ≤ 9 ∧ 1 + ((x.tmod 9 + 9) % 9) = (s : Int) ∧ 1 + x.tmod 9 % 9 = (s : Int) := by
  have := mod_bd (x.tmod 9 + 9) 9 (by omega)
  exact ⟨(1 + ((x.tmod 9 + 9) % 9)).toNat, by omega, by omega, by omega, by omega⟩
set_option linter.unusedVariables false in
set_option maxRecDepth 100000 in
set_option maxHeartbeats 16000000 in
theorem walk_TopAxles (a0 : Option Addr) (len0 cap0 : Nat) (z0 : List Int) (a1 : Option Addr) (len1 cap1 : Nat) (z1 : List Int) (b : Int) (w : World) (w0 : IsRow .i64 w a0 len0 cap0 z0) (w1 : IsRow .i64 w a1 len1 cap1 z1) (wb : (Lit.int .i64 b).wf = true) :
    Calls Tryz.prog 3 #[.slice a0 len0 cap0, .slice a1 len1 cap1, .int .i64 b] w fun e w' => e = .returned (.bool true) ∧ Below w.heap.size w w' := by
  obtain ⟨r0, m0, _⟩ := w0.reads
  obtain ⟨r1, m1, _⟩ := w1.reads
  clear w0 w1
  generalize z0.take len0 = l0 at r0
  generalize z1.take len1 = l1 at r1
  obtain ⟨sp, hs1, hs9, hsp, hsp'⟩ := speed_of b
  have hbt := tmod_bd b 9 (by omega)
  have R1 := Lib.hid r1
  have M1 := Lib.hid m1
  clear r1 m1
  go_enter Tryz.func3, Tryz.ntmps3
  go_wp2_with fail
  refine (new_c _ _ _ _ _ m0 r0).mono ?_
  rintro e w1 ⟨rfl, hm1, hb1, hz1⟩
  go_wp2_with fail
  refine (gwagons_c w.heap.size w.heap.size 0 5 w1 hm1 (by omega) (by omega) hb1.size).mono ?_
  rintro e w2 ⟨l, v2, c', rfl, own2, hl5, hmade, _, hm2, hg2⟩
  have hb2 : Below w.heap.size w w2 := hb1.grown hg2 hb1.size (fun b e => by have := Option.some.inj e; omega)
  obtain ⟨A2, c2, rfl, k2, k2'⟩ := own_form own2
  have HF : Hid (∀ x ∈ l, WagF x) := Lib.hid fun x hx => by
    obtain ⟨j, hj⟩ := List.getElem?_of_mem hx
    exact WagF.of (hmade.out j x hj).1
  have hW2 : WR w2 A2 l.length l := own_WR own2
  obtain ⟨n, hn⟩ : ∃ n, l.length = n := ⟨_, rfl⟩
  rw [hn] at hW2 hl5 k2 ⊢
  have Hn := Lib.hid hn
  clear hm1 hz1 hm2 hg2 hb1 hmade own2 hn r0 m0
  by_cases hn0 : n = 0
  · subst hn0
    go_wp2_with fail
    refine (awake_c w2).mono ?_
    rintro e w3 ⟨rfl, hb3⟩
    go_wp2_with fail
    go_ret
    exact ⟨rfl, below_step hb2 hb3⟩
  · have q0 : ((n : Int) == 0) = false := by simp; omega
    have q1 : (n == 0) = false := by simp; omega
    have HDi := Lib.hid (dists_c A2 n c2 l w2 (by omega) hW2 HF.out)
    have hn1 : 1 ≤ n := by omega
    clear hn0
    go_wp2_with fail
    refine HDi.out.mono ?_
    rintro e w3 ⟨v3, rfl, own3, hb3⟩
    obtain ⟨W, hW⟩ : ∃ W, l.map Ax.w2 = W := ⟨_, rfl⟩
    rw [hW] at own3
    have HW := Lib.hid hW
    have HWn : Hid (W.length = n) := Lib.hid (by rw [← hW, List.length_map, Hn.out])
    have HWok : Hid (∀ x ∈ W, Ax.Ok x) := Lib.hid fun x hx => by
      rw [← hW] at hx
      obtain ⟨y, hy, rfl⟩ := List.mem_map.1 hx
      exact (HF.out y hy).ok
    have hpl := Ax.pos_len_le W 0
    rw [HWn.out] at hpl
    have hp2 : 2 ≤ (Ax.pos 0 W).length := by
      have h1 : Ax.start W 1 = Ax.start W 0 + (Ax.offs (W[0]'(by rw [HWn.out]; omega))).length := Ax.start_succ W (i := 0) (by rw [HWn.out]; omega)
      have h2 := (Ax.offs_len (W[0]'(by rw [HWn.out]; omega))).1
      have h3 := Ax.start_le W 1
      omega
    have hdl := Ax.diffs_len (Ax.pos 0 W)
    have Hd4 := Lib.hid (Ax.D_le HWok.out)
    have Hd1 : Hid (∀ i, i < (Ax.diffs (Ax.pos 0 W)).length → 1 ≤ (Ax.diffs (Ax.pos 0 W)).getD i 0) := Lib.hid fun i hi => (Ax.D_bd HWok.out (by omega)).1
    have Hmd : Hid (∀ C H, Ax.Dp (Ax.diffs (Ax.pos 0 W)) (W.map Ax.pat) 0 C H → C.getD 0 0 = 0) := Lib.hid fun C H h => Ax.Dp.made (fun e => by have := HWn.out; rw [e] at this; simp at this; omega) h
    obtain ⟨D, hD⟩ : ∃ D, Ax.diffs (Ax.pos 0 W) = D := ⟨_, rfl⟩
    rw [hD] at own3 hdl Hd4 Hd1 Hmd
    obtain ⟨dn, hdn⟩ : ∃ dn, D.length = dn := ⟨_, rfl⟩
    rw [hdn] at own3 hdl Hd1
    have Hdn := Lib.hid hdn
    have hdn1 : 1 ≤ dn := by omega
    have hdn30 : dn ≤ 30 := by omega
    obtain ⟨A3, c3, rfl, k3, k3'⟩ := own_form own3
    have hb3a := below_step hb2 hb3
    have hW3 := hW2.below hb3
    have hN3 := NR.of_own own3
    clear hW hD hdn hdl hp2 hpl own3 hb3 hb2 HDi hW2 q0 q1
    obtain ⟨t0, ht0⟩ : ∃ t0, w3.alloc (.cells #[.int .i64 5000] 3) = t0 := ⟨_, rfl⟩
    have ownT : t0.ownsRow w3.heap.size 3 1 (.slice (some ⟨w3.heap.size, 0, none⟩) 1 1) 1 (ints64 (Ax.tm0 sp D 1)) := by
      rw [← ht0]
      exact lit_own (Ax.tm0 sp D 1) _ 1 rfl rfl (by omega)
    have hbT : Below w3.heap.size w3 t0 := by rw [← ht0]; exact (Below.refl _ _).alloc (Nat.le_refl _) _
    have HOT := Lib.hid ownT
    clear ownT
    go_wp2_with fail
    try simp only [hsp']
    clear ht0 hsp hsp'
    go_loopw [12, 13, 63] (fun at_ tv p wr => TaT sp dn D w3 at_ tv p wr) (fun _ _ p _ => dn - (intOf p).toNat)
    case atStart => exact (show TaT _ _ _ _ _ _ _ _ from ⟨0, Nat.zero_le _, rfl, rfl, HOT.out, hbT⟩)
    case round =>
      clear HOT hbT
      obtain ⟨k, hk, rfl, rfl, own, hbr⟩ := hrel
      by_cases hlt : k < dn
      · obtain ⟨ad, rfl, _, ck⟩ := codes_at (hN3.below hbr) hlt
        have hx4 := Hd4.out k
        have htl := Ax.tms_le hs9 Hd4.out k
        have hts : Ax.tms sp D (k + 1) = Ax.tms sp D k + D.getD k 0 * sp := rfl
        unfold Tl.kAt at ck
        obtain ⟨x, hx⟩ : ∃ x, D.getD k 0 = x := ⟨_, rfl⟩
        obtain ⟨t, ht⟩ : ∃ t, Ax.tms sp D k = t := ⟨_, rfl⟩
        rw [hx] at ck hx4 hts
        rw [ht] at htl hts
        simp only [ht]
        have hmul : x * sp ≤ 4000 * 9 := Nat.mul_le_mul hx4 hs9
        obtain ⟨y, hy⟩ : ∃ y, x * sp = y := ⟨_, rfl⟩
        rw [hy] at hts hmul
        have hyI : (x : Int) * (sp : Int) = (y : Int) := by rw [← hy]; push_cast; rfl
        have Hts := Lib.hid hts
        have Ht := Lib.hid ht
        have hbs := hbr.size
        clear hx hts hy ht
        go_wp2_with (at_builtin
                     go_must (
                     refine wpList_push sl_int rfl (.tmp 72) (.tmp 74) rfl w3.heap.size _ _ _ rfl own 1 1 rfl rfl rfl (by simp only [maxLen]; omega) (by omega) hbs ?_
                     intro v6 w6 own6 hgr6
                     have hb6 := hbr.trans (hgr6.below (own_ge own) hbs)))
        clear hyI
        go_roundw
        case rel => exact ⟨_, _, _, _, (show TaT _ _ _ _ _ _ _ _ from ⟨k + 1, by omega, by go_num, by rw [Hts.out]; go_num, by
          rw [Ax.tm0_snoc sp D (k + 1), Hts.out]
          simpa [ints64] using own6, hb6⟩), rfl, rfl, rfl, rfl⟩
        case measure => simp [intOf]; omega
      · obtain rfl : dn = k := by omega
        obtain ⟨AT, cT, rfl, _, _⟩ := own_form own
        have hb4 := below_step hb3a hbr
        have hN4 := hN3.below hbr
        have hW4 := hW3.below hbr
        have hT4 : NR wr AT (dn + 1) (Ax.tm0 sp D (dn + 1)) := NR.of_own own
        obtain ⟨m, hm⟩ : ∃ m, dn + 1 = m := ⟨_, rfl⟩
        rw [hm] at hT4 ⊢
        have hmI : (dn : Int) + 1 = (m : Int) := by omega
        have htb : Hid (∀ x, x < m → Ax.tms sp D x ≤ 30000000) := Lib.hid fun x hx => by have := Ax.tms_le hs9 Hd4.out x; omega
        have htg : Hid (∀ x, x < m → Tl.kAt (Ax.tm0 sp D m) x = Ax.tms sp D x) := Lib.hid fun x hx => Ax.range_at hx
        have Hmk := Lib.hid hm
        obtain ⟨w4, hw4⟩ : ∃ w4, w4 = wr := ⟨_, rfl⟩
        subst hw4
        clear own hb3a hbr hN3 hW3 hm
        go_wp2_with fail
        go_loopw [11, 16, 17] (fun pv vi vj wz => TaM sp m D w4 pv vi vj wz) (fun _ vi vj _ => (m - (intOf vi).toNat) + (m - (intOf vj).toNat))
        case atStart => exact (show TaM _ _ _ _ _ _ _ _ from ⟨0, 0, [], rfl, rfl, Ax.Mrg.start sp D m, Nat.zero_le _, World.ownsRow_nil _ _ _ _, Below.refl _ _⟩)
        case round =>
          obtain ⟨i, j, p, rfl, rfl, hM, hjm, own, hbr⟩ := hrel
          have HM := Lib.hid hM
          have him := hM.im
          have hji := hM.ji
          have hpl := hM.len
          obtain ⟨pn, hpn⟩ : ∃ pn, p.length = pn := ⟨_, rfl⟩
          rw [hpn] at own hpl
          have hpl1 : pn ≤ i + j := Nat.le_of_eq hpl
          have hpl2 : i + j ≤ pn := Nat.le_of_eq hpl.symm
          have Hpn := Lib.hid hpn
          obtain ⟨Ap, cp, rfl, kp, kp'⟩ := own_form own
          have s50 : (50 : Int) * (sp : Int) = ((50 * sp : Nat) : Int) := by push_cast; rfl
          obtain ⟨s5, hs5⟩ : ∃ s5, 50 * sp = s5 := ⟨_, rfl⟩
          rw [hs5] at s50
          have hs5b : s5 ≤ 450 := by omega
          have ws50 : IntKind.i64.wrap (s5 : Int) = (s5 : Int) := IntWalk.i64_in _ ⟨by omega, by omega⟩
          have Hs5 := Lib.hid hs5
          clear hM hpn hs5 hpl
          by_cases hlt : i < m
          · have hjlt : j < m := by omega
            obtain ⟨ad, rfl, _, ci⟩ := codes_at (hT4.below hbr) hlt
            obtain ⟨ad', hae, _, cj⟩ := codes_at (hT4.below hbr) hjlt
            obtain rfl := Option.some.inj hae
            rw [htg.out i hlt] at ci
            rw [htg.out j hjlt] at cj
            have bi := htb.out i hlt
            have bj := htb.out j hjlt
            obtain ⟨ti, hti⟩ : ∃ t, Ax.tms sp D i = t := ⟨_, rfl⟩
            obtain ⟨tj, htj⟩ : ∃ t, Ax.tms sp D j = t := ⟨_, rfl⟩
            rw [hti] at ci bi
            rw [htj] at cj bj
            have ws2 : IntKind.i64.wrap ((tj : Int) + (s5 : Int)) = (tj : Int) + (s5 : Int) := IntWalk.i64_in _ ⟨by omega, by omega⟩
            have Hti := Lib.hid hti
            have Htj := Lib.hid htj
            have e1 : decide ((i : Int) < (m : Int)) = true := decide_eq_true (by omega)
            have e1' : decide (i < m) = true := decide_eq_true hlt
            have hiI : (i : Int) < (m : Int) := by omega
            have hjI : (j : Int) < (m : Int) := by omega
            have hbs := hbr.size
            clear hti htj hae
            by_cases hc : ti ≤ tj + s5
            · have e2 : decide ((ti : Int) ≤ (tj : Int) + (s5 : Int)) = true := decide_eq_true (by omega)
              have HM2 := Lib.hid (HM.out.first hlt (by rw [Hti.out, Htj.out, Hs5.out]; exact hc) (by rw [Hti.out]; omega))
              rw [Hti.out] at HM2
              have ci' := fun q : Nat => (show (wr.drewN q).cell? (ad.add i) = _ from ci)
              clear hc
              go_wp2_with fail
              go_quiet (fail)
              have hbq := below_drewN hbr nq
              have ownq : (wr.drewN nq).ownsRow w4.heap.size 33 3 (.slice Ap pn cp) pn (flat3 p) := own
              have ciq : (wr.drewN nq).cell? (ad.add i) = some (.int .i64 (ti : Int)) := ci
              generalize wr.drewN nq = W5 at hbq ownq ciq ⊢
              clear own hbr ci cj ci'
              go_wp2_with (at_builtin
                           go_must (
                           refine wpList_push sl_pul rfl (.tmp 105) (.tmp 111) rfl w4.heap.size _ _ _ rfl ownq 1 1 rfl rfl rfl (by simp only [maxLen]; omega) (by omega) hbq.size ?_
                           intro v6 w6 own6 hgr6
                           have hb6 := hbq.trans (hgr6.below (own_ge ownq) hbq.size)))
              have own7 : w6.ownsRow w4.heap.size 33 3 v6 (p ++ [(⟨0, (ti : Int), 1⟩ : V3)]).length (flat3 (p ++ [(⟨0, (ti : Int), 1⟩ : V3)])) := by
                rw [List.length_append, Hpn.out, flat3_snoc]; exact own6
              have Own7 := Lib.hid own7
              clear own6 own7
              go_roundw
              case rel => first
                | exact (show TaM _ _ _ _ _ _ _ _ from ⟨i + 1, j, _, by go_num, rfl, HM2.out, hjm, Own7.out, hb6⟩)
                | exact ⟨_, _, _, (show TaM _ _ _ _ _ _ _ _ from ⟨i + 1, j, _, by go_num, rfl, HM2.out, hjm, Own7.out, hb6⟩), rfl, rfl, rfl⟩
              case measure => simp [intOf]; omega
            · have e2 : decide ((ti : Int) ≤ (tj : Int) + (s5 : Int)) = false := decide_eq_false (by omega)
              have HM2 := Lib.hid (HM.out.second hjlt (fun _ => by rw [Hti.out, Htj.out, Hs5.out]; omega) (by rw [Htj.out, Hs5.out]; omega))
              rw [Htj.out, Hs5.out] at HM2
              clear hc
              go_wp2_with fail
              go_quiet (fail)
              have hbq := below_drewN hbr nq
              have ownq : (wr.drewN nq).ownsRow w4.heap.size 33 3 (.slice Ap pn cp) pn (flat3 p) := own
              have cjq : (wr.drewN nq).cell? (ad.add j) = some (.int .i64 (tj : Int)) := cj
              generalize wr.drewN nq = W5 at hbq ownq cjq ⊢
              clear own hbr ci cj
              go_wp2_with (at_builtin
                           go_must (
                           refine wpList_push sl_pul rfl (.tmp 115) (.tmp 124) rfl w4.heap.size _ _ _ rfl ownq 1 1 rfl rfl rfl (by simp only [maxLen]; omega) (by omega) hbq.size ?_
                           intro v6 w6 own6 hgr6
                           have hb6 := hbq.trans (hgr6.below (own_ge ownq) hbq.size)))
              have own7 : w6.ownsRow w4.heap.size 33 3 v6 (p ++ [(⟨1, ((tj + s5 : Nat) : Int), 1⟩ : V3)]).length (flat3 (p ++ [(⟨1, ((tj + s5 : Nat) : Int), 1⟩ : V3)])) := by
                rw [List.length_append, Hpn.out, flat3_snoc]; exact own6
              have Own7 := Lib.hid own7
              clear own6 own7
              go_roundw
              case rel => first
                | exact (show TaM _ _ _ _ _ _ _ _ from ⟨_, j + 1, _, rfl, by go_num, HM2.out, hjlt, Own7.out, hb6⟩)
                | exact ⟨_, _, _, (show TaM _ _ _ _ _ _ _ _ from ⟨_, j + 1, _, rfl, by go_num, HM2.out, hjlt, Own7.out, hb6⟩), rfl, rfl, rfl⟩
              case measure => simp [intOf]; omega
          · obtain rfl : i = m := by omega
            have e1 : decide ((i : Int) < (i : Int)) = false := decide_eq_false (by omega)
            by_cases hjlt : j < i
            · obtain ⟨ad, rfl, _, cj⟩ := codes_at (hT4.below hbr) hjlt
              rw [htg.out j hjlt] at cj
              have bj := htb.out j hjlt
              obtain ⟨tj, htj⟩ : ∃ t, Ax.tms sp D j = t := ⟨_, rfl⟩
              rw [htj] at cj bj
              have Htj := Lib.hid htj
              have hjI : (j : Int) < (i : Int) := by omega
              have hbs := hbr.size
              have hc : True := trivial
              have HM2 := Lib.hid (HM.out.second hjlt (fun h => absurd h (by omega)) (by rw [Htj.out, Hs5.out]; omega))
              rw [Htj.out, Hs5.out] at HM2
              have ci : True := trivial
              clear htj
              clear hc
              go_wp2_with fail
              go_quiet (fail)
              have hbq := below_drewN hbr nq
              have ownq : (wr.drewN nq).ownsRow w4.heap.size 33 3 (.slice Ap pn cp) pn (flat3 p) := own
              have cjq : (wr.drewN nq).cell? (ad.add j) = some (.int .i64 (tj : Int)) := cj
              generalize wr.drewN nq = W5 at hbq ownq cjq ⊢
              clear own hbr ci cj
              go_wp2_with (at_builtin
                           go_must (
                           refine wpList_push sl_pul rfl (.tmp 115) (.tmp 124) rfl w4.heap.size _ _ _ rfl ownq 1 1 rfl rfl rfl (by simp only [maxLen]; omega) (by omega) hbq.size ?_
                           intro v6 w6 own6 hgr6
                           have hb6 := hbq.trans (hgr6.below (own_ge ownq) hbq.size)))
              have own7 : w6.ownsRow w4.heap.size 33 3 v6 (p ++ [(⟨1, ((tj + s5 : Nat) : Int), 1⟩ : V3)]).length (flat3 (p ++ [(⟨1, ((tj + s5 : Nat) : Int), 1⟩ : V3)])) := by
                rw [List.length_append, Hpn.out, flat3_snoc]; exact own6
              have Own7 := Lib.hid own7
              clear own6 own7
              go_roundw
              case rel => first
                | exact (show TaM _ _ _ _ _ _ _ _ from ⟨_, j + 1, _, rfl, by go_num, HM2.out, hjlt, Own7.out, hb6⟩)
                | exact ⟨_, _, _, (show TaM _ _ _ _ _ _ _ _ from ⟨_, j + 1, _, rfl, by go_num, HM2.out, hjlt, Own7.out, hb6⟩), rfl, rfl, rfl⟩
              case measure => simp [intOf]; omega
            · obtain rfl : j = i := by omega
              have hok := HM.out.ok
              obtain ⟨hF0, hF1⟩ := Ax.fst0_of HM.out
              obtain ⟨G, gl1, gl2, _⟩ := Det.vals_len _ p (Nat.le_refl _)
              rw [Hpn.out] at gl1 gl2
              have Hvr := Lib.hid (Det.vals_range _ p (Nat.le_refl _) hok)
              have Hpar := Lib.hid (Det.parse_one p hok)
              have HEn := Lib.hid (encode_made Ap pn cp p wr kp kp' (own_VR own) hok (by omega))
              have Hok := Lib.hid (Det.vGo_valid p none hok)
              have HF0 := Lib.hid hF0
              have HF1 := Lib.hid hF1
              obtain ⟨mV, hmV⟩ : ∃ mV, (Det.vals p).length = mV := ⟨_, rfl⟩
              rw [hmV] at gl1 HEn
              have hmV1 : 0 < mV := by omega
              have hmV2 : mV ≤ 1000 := by omega
              obtain ⟨V, hV⟩ : ∃ V, Det.vals p = V := ⟨_, rfl⟩
              rw [hV] at HEn Hvr Hpar hmV
              have HmV := Lib.hid hmV
              have hd1 : ¬ j < j := by omega
              clear hok hF0 hF1 gl1 gl2 hV hmV own hlt hjlt e1 HM
              go_wp2_with fail
              refine HEn.out.mono ?_
              rintro e w5 ⟨v5, rfl, own5, hb5⟩
              obtain ⟨g5, c5, rfl, hg5, _⟩ := own5.form (by omega)
              have hb45 := below_step hbr hb5
              have hbw5 := below_step hb4 hb45
              have HFl := Lib.hid (tflip_c wr.heap.size g5 mV c5 V a1 len1 cap1 l1 w5 HmV.out hmV2 M1.out own5 (R1.out.below hbw5) (fun h ad e => by
                obtain ⟨ad', e', hbk, _⟩ := R1.out.2 h
                obtain rfl := Option.some.inj (e.symm.trans e')
                have := hb4.size
                have := hbr.size
                omega))
              have hg54 : w4.heap.size ≤ g5 := Nat.le_trans hbr.size hg5
              clear own5 hb5 HEn
              go_wp2_with fail
              refine HFl.out.mono ?_
              rintro e w6 ⟨rfl, B, hnear, own6, hg6⟩
              have hb46 := hb45.grown hg6 hb45.size (fun b e => by have := Option.some.inj e; omega)
              have hun := hnear.unpack Hvr.out (by rw [HmV.out]; omega)
              have HDe := Lib.hid (decode_as (some ⟨g5, 0, none⟩) (2 * mV) c5 B p [] w6 (by simp only [maxLen]; omega) (own_IR own6) hnear.range (dec_of hun.1 hun.2.1 Hpar.out (by rw [Hpn.out]; omega)) pn 0 Hpn.out rfl)
              clear hnear own6 hg6 hun HFl hb45 hbw5
              go_wp2_with fail
              refine HDe.out.mono ?_
              rintro e w7 ⟨v7, u7, rfl, own7, own7', hb7⟩
              obtain ⟨A7, c7, rfl, _, _⟩ := own_form own7
              obtain ⟨B7, d7, rfl, _, _⟩ := own_form own7'
              have hb47 := below_step hb46 hb7
              have hb7w := below_step hb4 hb47
              have hN7 := hN4.below hb47
              have hW7 := hW4.below hb47
              have hV7 := own_VR own7
              clear hb46 hb7 own7 own7' HDe hb47 hb4 hN4 hW4 hT4 hbr kp kp'
              go_wp2_with fail
              go_loopw [23, 24, 155] (fun fv sv pv wz => TaS pn p w7 fv sv pv wz) (fun _ _ pv _ => pn - (intOf pv).toNat)
              case atStart => exact (show TaS _ _ _ _ _ _ _ from ⟨0, Nat.zero_le _, rfl, World.ownsRow_nil _ _ _ _, World.ownsRow_nil _ _ _ _, .inl rfl, Below.refl _ _⟩)
              case round =>
                obtain ⟨k, hk, rfl, ownF, ownS, hap, hbr⟩ := hrel
                by_cases hlt : k < pn
                · obtain ⟨qd, q, rfl, _, hq, c1, c2, c3⟩ := (hV7.below hbr).at_ hlt
                  have hts : p.take (k + 1) = p.take k ++ [q] := by
                    obtain ⟨h1, h2⟩ := List.getElem?_eq_some_iff.1 hq
                    rw [List.take_succ_eq_append_getElem h1, h2]
                  have hq0 : 0 ≤ q.b := by
                    have := Hok.out q (List.mem_of_getElem? hq)
                    simp [Det.okP] at this
                    omega
                  obtain ⟨hl1, hl2⟩ := Ax.fst0_len (p.take k)
                  have hl3 : (p.take k).length ≤ k := List.length_take_le _ _
                  obtain ⟨qa, qb, qc⟩ := q
                  simp only at c1 c2 c3 hq0
                  obtain ⟨qn, rfl⟩ := Int.eq_ofNat_of_zero_le hq0
                  obtain ⟨nF, hnF⟩ : ∃ nF, (Ax.fst0 (p.take k)).length = nF := ⟨_, rfl⟩
                  obtain ⟨nS, hnS⟩ : ∃ nS, (Ax.snd0 (p.take k)).length = nS := ⟨_, rfl⟩
                  rw [hnF] at ownF hl1
                  rw [hnS] at ownS hl2
                  obtain ⟨Af, cf, rfl, _, _⟩ := own_form ownF
                  obtain ⟨As, cs, rfl, _, _⟩ := own_form ownS
                  have ownF' := ownF.alloc (.cells #[.int .i64 qa, .int .i64 qn, .int .i64 qc] 33)
                  have ownS' := ownS.alloc (.cells #[.int .i64 qa, .int .i64 qn, .int .i64 qc] 33)
                  have hbr' := hbr.alloc hbr.size (.cells #[.int .i64 qa, .int .i64 qn, .int .i64 qc] 33)
                  have HnF := Lib.hid hnF
                  have HnS := Lib.hid hnS
                  have Hts := Lib.hid hts
                  have hnF1 : nF ≤ 100 := by omega
                  have hnS1 : nS ≤ 100 := by omega
                  clear hts hq hnF hnS ownF ownS hl1 hl2 hl3
                  by_cases ha : qa = 0
                  · have e1 : (qa == 0) = true := by simp [ha]
                    have Hy := Lib.hid (Ax.fst0_yes (p := p.take k) (q := ⟨qa, qn, qc⟩) ha)
                    clear ha
                    go_wp2_with (at_builtin
                                 go_must (
                                 refine wpList_pushb sl_int rfl (.tmp 162) (.tmp 165) rfl w7.heap.size _ _ _ rfl ownF' 1 1 _ (by simp) rfl rfl rfl (by simp only [maxLen]; omega) (by omega) hbr'.size ?_
                                 intro v8 w8 own8 hgr8
                                 have hb8 := hbr'.trans (hgr8.below (own_ge ownF') hbr'.size)
                                 have ownS8 := hgr8.keep ownS' hap.symm
                                 have hap8 := (hgr8.apart_l ownS' hap.symm).symm))
                    have o8 : w8.ownsRow w7.heap.size 3 1 v8 (Ax.fst0 (p.take (k + 1))).length (ints64 (Ax.fst0 (p.take (k + 1)))) := by
                      rw [Hts.out, Hy.out.1, List.length_append, HnF.out]
                      simpa [ints64] using own8
                    have o9 : w8.ownsRow w7.heap.size 3 1 (.slice As nS cs) (Ax.snd0 (p.take (k + 1))).length (ints64 (Ax.snd0 (p.take (k + 1)))) := by
                      rw [Hts.out, Hy.out.2, HnS.out]
                      exact ownS8
                    have O8 := Lib.hid (And.intro o8 o9)
                    clear o8 o9 own8 ownS8
                    go_roundw
                    case rel => first
                      | exact (show TaS _ _ _ _ _ _ _ from ⟨k + 1, by omega, by go_num, O8.out.1, O8.out.2, hap8, hb8⟩)
                      | exact ⟨_, _, _, (show TaS _ _ _ _ _ _ _ from ⟨k + 1, by omega, by go_num, O8.out.1, O8.out.2, hap8, hb8⟩), rfl, rfl, rfl⟩
                      | exact ⟨_, _, _, _, (show TaS _ _ _ _ _ _ _ from ⟨k + 1, by omega, by go_num, O8.out.1, O8.out.2, hap8, hb8⟩), rfl, rfl, rfl, rfl⟩
                    case measure => simp [intOf]; omega
                  · have e1 : (qa == 0) = false := by simp [ha]
                    have Hy := Lib.hid (Ax.fst0_no (p := p.take k) (q := ⟨qa, qn, qc⟩) ha)
                    clear ha
                    go_wp2_with (at_builtin
                                 go_must (
                                 refine wpList_pushb sl_int rfl (.tmp 167) (.tmp 170) rfl w7.heap.size _ _ _ rfl ownS' 1 1 _ (by simp) rfl rfl rfl (by simp only [maxLen]; omega) (by omega) hbr'.size ?_
                                 intro v8 w8 own8 hgr8
                                 have hb8 := hbr'.trans (hgr8.below (own_ge ownS') hbr'.size)
                                 have ownF8 := hgr8.keep ownF' hap
                                 have hap8 := hgr8.apart_l ownF' hap))
                    have o8 : w8.ownsRow w7.heap.size 3 1 (.slice Af nF cf) (Ax.fst0 (p.take (k + 1))).length (ints64 (Ax.fst0 (p.take (k + 1)))) := by
                      rw [Hts.out, Hy.out.1, HnF.out]
                      exact ownF8
                    have o9 : w8.ownsRow w7.heap.size 3 1 v8 (Ax.snd0 (p.take (k + 1))).length (ints64 (Ax.snd0 (p.take (k + 1)))) := by
                      rw [Hts.out, Hy.out.2, List.length_append, HnS.out]
                      simpa [ints64] using own8
                    have O8 := Lib.hid (And.intro o8 o9)
                    clear o8 o9 own8 ownF8
                    go_roundw
                    case rel => first
                      | exact (show TaS _ _ _ _ _ _ _ from ⟨k + 1, by omega, by go_num, O8.out.1, O8.out.2, hap8, hb8⟩)
                      | exact ⟨_, _, _, (show TaS _ _ _ _ _ _ _ from ⟨k + 1, by omega, by go_num, O8.out.1, O8.out.2, hap8, hb8⟩), rfl, rfl, rfl⟩
                      | exact ⟨_, _, _, _, (show TaS _ _ _ _ _ _ _ from ⟨k + 1, by omega, by go_num, O8.out.1, O8.out.2, hap8, hb8⟩), rfl, rfl, rfl, rfl⟩
                    case measure => simp [intOf]; omega
                · obtain rfl : k = pn := by omega
                  have htk : p.take k = p := List.take_of_length_le (by rw [Hpn.out]; exact Nat.le_refl _)
                  rw [htk, HF0.out] at ownF
                  rw [htk, HF1.out] at ownS
                  have hT := Ax.met hs1 hs9 (m := j) (d := D) (by rw [Hdn.out]; exact Hmk.out) (by omega) Hd4.out (fun i hi => Hd1.out i (by rw [← Hdn.out]; exact hi))
                  have h0l : (Ax.tm0 sp D j).length = j := by simp [Ax.tm0]
                  have h1l : (Ax.tm1 sp D j).length = j := by simp [Ax.tm1]
                  rw [h0l] at ownF
                  rw [h1l] at ownS
                  obtain ⟨Af, cf, rfl, _, _⟩ := own_form ownF
                  obtain ⟨As, cs, rfl, _, _⟩ := own_form ownS
                  have hN8 := hN7.below hbr
                  have hW8 := hW7.below hbr
                  have hb8w := below_step hb7w hbr
                  have HMe := Lib.hid (measure_c Af As j cf cs _ _ D wr (by omega) (NR.of_own ownF) (NR.of_own ownS) hT)
                  clear htk hT h0l h1l ownF ownS hap hlt hbr hN7 hW7 hb7w hV7
                  go_wp2_with fail
                  refine HMe.out.mono ?_
                  rintro e w9 ⟨v9, rfl, own9, hb9⟩
                  rw [Hdn.out] at own9
                  obtain ⟨A9, c9, rfl, k9, k9'⟩ := own_form own9
                  have hN9 := hN8.below hb9
                  have hM9 : NR w9 A9 dn D := NR.of_own own9
                  have hW9 := hW8.below hb9
                  have hb9w := below_step hb8w hb9
                  have HIn := Lib.hid (ints_q A9 A3 dn c9 c3 (D.map fun (x : Nat) => (x : Int)) w9 (by unfold maxLen; omega) (by have := hM9; unfold NR at this; rw [ints64_map] at this; exact this) (by have := hN9; unfold NR at this; rw [ints64_map] at this; exact this))
                  clear HMe own9 hb9 hN8 hW8 hb8w hN9
                  go_wp2_with fail
                  refine HIn.out.mono ?_
                  rintro e w10 ⟨rfl, qd, rfl⟩
                  have hM10 : NR (w9.drewN qd) A9 dn D := hM9
                  have hW10 : WR (w9.drewN qd) A2 n l := hW9
                  have hb10w := below_drewN hb9w qd
                  clear hM9 hW9 hb9w HIn
                  generalize w9.drewN qd = w10 at hM10 hW10 hb10w ⊢
                  go_wp2_with fail
                  go_loopw [6, 29, 189] (fun r6 pv p wz => TaP n W w10 r6 pv p wz) (fun _ _ p _ => n - (intOf p).toNat)
                  case atStart => exact (show TaP _ _ _ _ _ _ _ from ⟨0, [], Nat.zero_le _, rfl, rfl, OwnLL.none_, Below.refl _ _⟩)
                  case round =>
                    obtain ⟨k, vs, hk, rfl, rfl, hLL, hbr⟩ := hrel
                    by_cases hlt : k < n
                    · obtain ⟨ad, x, rfl, _, hp, c0, c1, c2, c3, c4, c5, c6, c7⟩ := (hW10.below hbr).at_ hlt
                      have hF := HF.out x (List.mem_of_getElem? hp)
                      have hkW : k < W.length := by rw [HWn.out]; exact hlt
                      have hWk : (W.map Ax.pat).take (k + 1) = (W.map Ax.pat).take k ++ [Ax.pat (Ax.w2 x)] := by
                        have h1 : W[k]? = some (Ax.w2 x) := by rw [← HW.out, List.getElem?_map, hp]; rfl
                        have h2 : (W.map Ax.pat)[k]? = some (Ax.pat (Ax.w2 x)) := by rw [List.getElem?_map, h1]; rfl
                        obtain ⟨h3, h4⟩ := List.getElem?_eq_some_iff.1 h2
                        rw [List.take_succ_eq_append_getElem h3, h4]
                      have hb1 := hbr.alloc hbr.size (.cells #[.string x.nu, .int .i64 x.len, .int .i64 x.ax, .int .i64 x.ms, .int .i64 x.br, .int .i64 x.gd, .bool x.gt, .string x.de] 45)
                      have hL1 := hLL.below ((Below.refl wr.heap.size wr).alloc (Nat.le_refl _) (.cells #[.string x.nu, .int .i64 x.len, .int .i64 x.ax, .int .i64 x.ms, .int .i64 x.br, .int .i64 x.gd, .bool x.gt, .string x.de] 45))
                      have HOf := Lib.hid (fun Z => offsetsE_c x Z hF.er hF.s1 hF.s2 hF.kn)
                      have hst := Ax.pos_stp [Ax.w2 x] 0 (fun y hy => by rw [List.mem_singleton.1 hy]; exact hF.ok)
                      rw [Ax.pos_one] at hst
                      have hol := Ax.offs_len (Ax.w2 x)
                      have hpat : Ax.pat (Ax.w2 x) = Ax.diffs (Ax.offs (Ax.w2 x)) := rfl
                      rw [hpat] at hWk
                      obtain ⟨O, hO⟩ : ∃ O, Ax.offs (Ax.w2 x) = O := ⟨_, rfl⟩
                      rw [hO] at hst hol HOf hWk
                      obtain ⟨on, hon⟩ : ∃ on, O.length = on := ⟨_, rfl⟩
                      rw [hon] at hol HOf
                      have Hst := Lib.hid hst
                      have Hon := Lib.hid hon
                      have HWk := Lib.hid hWk
                      have Hole : Hid (∀ i, O.getD i 0 ≤ 4000) := Lib.hid fun i => by
                        by_cases h : i < O.length
                        · rw [← hO] at h ⊢
                          exact Nat.le_trans (Ax.offs_le hF.ok h) hF.ok.2.1
                        · rw [List.getD_eq_getElem?_getD, List.getElem?_eq_none (by omega)]; exact Nat.zero_le _
                      clear hp hF hkW hWk hst hpat hO hon hLL
                      go_wp2_with fail
                      refine (HOf.out _).mono ?_
                      rintro e w11 ⟨vO, rfl, ownO, hb11⟩
                      obtain ⟨AO, cO, rfl, _, _⟩ := own_form ownO
                      have hL11 := hL1.below hb11
                      have hbr11 := below_step hb1 hb11
                      have hNO := NR.of_own ownO
                      clear c0 c1 c2 c3 c4 c5 c6 c7 hb1 hb11 hL1 HOf ownO
                      go_wp2_with fail
                      go_loopw [34, 35] (fun sv p wz => TaQ O w11 sv p wz) (fun _ p _ => on - (intOf p).toNat)
                      case atStart => exact (show TaQ _ _ _ _ _ from ⟨0, by rw [Hon.out]; omega, rfl, World.ownsRow_nil _ _ _ _, Below.refl _ _⟩)
                      case round =>
                        obtain ⟨y, hy, rfl, own, hbq⟩ := hrel
                        rw [Hon.out] at hy
                        by_cases hly : y + 1 < on
                        · obtain ⟨od, rfl, _, k1⟩ := codes_at (hNO.below hbq) hly
                          obtain ⟨od', hoe, _, k2⟩ := codes_at (hNO.below hbq) (x := y) (by omega)
                          obtain rfl := Option.some.inj hoe
                          have hs := Hst.out.get y (by rw [Hon.out]; exact hly)
                          have hdk : (Ax.diffs O).take (y + 1) = (Ax.diffs O).take y ++ [O.getD (y + 1) 0 - O.getD y 0] := by
                            have h1 : y < (Ax.diffs O).length := by rw [Ax.diffs_len, Hon.out]; omega
                            rw [List.take_succ_eq_append_getElem h1, ← Ax.diffs_get O (by rw [Hon.out]; exact hly), List.getD_eq_getElem?_getD, List.getElem?_eq_getElem h1]
                            rfl
                          have ho1 := Hole.out (y + 1)
                          unfold Tl.kAt at k1 k2
                          obtain ⟨p1, hp1⟩ : ∃ p1, O.getD (y + 1) 0 = p1 := ⟨_, rfl⟩
                          obtain ⟨p2, hp2⟩ : ∃ p2, O.getD y 0 = p2 := ⟨_, rfl⟩
                          rw [hp1] at k1 hs hdk ho1
                          rw [hp2] at k2 hs hdk
                          obtain ⟨z, hz⟩ : ∃ z, z = y + 1 := ⟨_, rfl⟩
                          have hzI : ((y + 1 : Nat) : Int) = (z : Int) := by omega
                          have hz1 : (z : Int) - 1 = (y : Int) := by omega
                          have hz2 : IntKind.i64.wrap ((z : Int) - 1) = (y : Int) := by rw [hz1]; exact IntWalk.i64_in _ ⟨by omega, by omega⟩
                          have hz3 : IntKind.i64.wrap (y : Int) = (y : Int) := IntWalk.i64_in _ ⟨by omega, by omega⟩
                          have hzo : (z : Int) < (on : Int) := by omega
                          have hzo' : z < on := by omega
                          have hyo : (y : Int) < (on : Int) := by omega
                          have hyo' : y < on := by omega
                          have hy0 : (0 : Int) ≤ (y : Int) := by omega
                          have wz : IntKind.i64.wrap ((p1 : Int) - (p2 : Int)) = (p1 : Int) - (p2 : Int) := IntWalk.i64_in _ ⟨by omega, by omega⟩
                          rw [← hz] at k1
                          simp only [hzI]
                          obtain ⟨Av, cv, rfl, _, _⟩ := own_form own
                          have own1d := own_drew own
                          have hms : y + 1 ≤ maxLen := by unfold maxLen; omega
                          have hms2 : (y + 1) * 8 ≤ 140737488355328 := by omega
                          have hBd2 : w11.heap.size ≤ wr.drew.heap.size := hbq.size
                          have Hdk := Lib.hid hdk
                          have Hbq := Lib.hid hbq
                          have Hz := Lib.hid hz
                          have Hs := Lib.hid hs
                          have hmz : on - (z + 1) < on - z := by omega
                          clear hp1 hp2 hz hzI hdk hs hoe hbq own
                          go_wp2_with fail
                          go_region_law (refine step_pushb sl_int (by rfl) (.tmp 206) (.tmp 217) (by rfl) w11.heap.size (.slice Av y cv) y (ints64 ((Ax.diffs O).take y)) (by rfl) own1d 1 1 wr.drew.heap.size rfl (by rfl) (by rfl) (by rfl) hms hms2 hBd2 ?_
                                         intro v' w13 own13 hgr13)
                          all_goals
                            have own14 : w13.ownsRow w11.heap.size 3 1 v' (y + 1) (ints64 ((Ax.diffs O).take (y + 1))) := by
                              rw [Hdk.out]
                              have he : ints64 ((Ax.diffs O).take y ++ [p1 - p2]) = ints64 ((Ax.diffs O).take y) ++ #[Value.int .i64 ((p1 : Int) - (p2 : Int))].toList := by
                                have := Hs.out
                                simp [ints64]; omega
                              rw [he]
                              exact own13
                            have Own14 := Lib.hid own14
                            clear own13 own14
                            go_wp2_with fail
                            go_roundw
                            case rel => first
                              | exact (show TaQ _ _ _ _ _ from ⟨y + 1, by rw [Hon.out]; omega, by rw [Hz.out]; go_num, Own14.out, Hbq.out.trans (below_drew' (hgr13.below (own_ge own1d) hBd2))⟩)
                              | exact ⟨_, _, (show TaQ _ _ _ _ _ from ⟨y + 1, by rw [Hon.out]; omega, by rw [Hz.out]; go_num, Own14.out, Hbq.out.trans (below_drew' (hgr13.below (own_ge own1d) hBd2))⟩), rfl, rfl⟩
                            case measure => simp [intOf]; omega
                        · obtain rfl : on = y + 1 := by omega
                          have hdl : (Ax.diffs O).length = y := by rw [Ax.diffs_len, Hon.out]; omega
                          rw [List.take_of_length_le (by rw [hdl]; exact Nat.le_refl _)] at own
                          obtain ⟨Av, cv, rfl, _, _⟩ := own_form own
                          have hL13 := hL11.below hbq
                          have hb13 := below_step hbr11 hbq
                          have hap : ∀ i, i < k → apart (vs.getD i nilS) (.slice Av y cv) := fun i hi => apart_old (hL11.inner i hi) own (Nat.le_refl _)
                          have ownB := own_more own hbr11.size
                          have hl24 : (k + 1) * 24 ≤ 140737488355328 := by omega
                          have hl63 : k + 1 ≤ maxLen := by unfold maxLen; omega
                          have Hap := Lib.hid hap
                          have Hdl := Lib.hid hdl
                          have hnot : ¬ (((y + 1 : Nat) : Int) < ((y + 1 : Nat) : Int)) := by omega
                          clear hap hdl own hbq hL11 hbr11 hNO hly hnot
                          go_wp2_with (at_builtin
                                       go_must (
                                       refine wpList_push sl_lint rfl (.tmp 219) (.tmp 221) rfl w10.heap.size _ _ _ rfl hL13.outer 1 1 rfl rfl rfl hl63 hl24 hb13.size ?_
                                       intro v14 w14 own14 hgr14
                                       have hb14 := hb13.trans (hgr14.below (own_ge hL13.outer) hb13.size)
                                       have hL14 := hL13.push (l := Ax.diffs O) (by decide) (by rw [Hdl.out]; exact ownB) Hap.out own14 hgr14))
                          have HL14 : Hid (OwnLL w14 w10.heap.size 22 3 v14 (k + 1) ((W.map Ax.pat).take (k + 1)) (vs ++ [.slice Av y cv])) := Lib.hid (by rw [HWk.out]; exact hL14)
                          clear hL14 own14
                          go_roundw
                          case rel => first
                            | exact (show TaP _ _ _ _ _ _ _ from ⟨k + 1, _, by omega, rfl, by go_num, HL14.out, hb14⟩)
                            | exact ⟨_, _, _, (show TaP _ _ _ _ _ _ _ from ⟨k + 1, _, by omega, rfl, by go_num, HL14.out, hb14⟩), rfl, rfl, rfl⟩
                            | exact ⟨_, _, _, _, (show TaP _ _ _ _ _ _ _ from ⟨k + 1, _, by omega, rfl, by go_num, HL14.out, hb14⟩), rfl, rfl, rfl, rfl⟩
                            | exact ⟨_, _, _, _, _, (show TaP _ _ _ _ _ _ _ from ⟨k + 1, _, by omega, rfl, by go_num, HL14.out, hb14⟩), rfl, rfl, rfl, rfl, rfl⟩
                          case measure => simp [intOf]; omega
                    · obtain rfl : n = k := by omega
                      have htk : (W.map Ax.pat).take n = W.map Ax.pat := List.take_of_length_le (by rw [List.length_map, HWn.out]; exact Nat.le_refl _)
                      rw [htk] at hLL
                      obtain ⟨AP, cP, rfl, _, _⟩ := own_form hLL.outer
                      have hgW : ∀ i (hi : i < n), (W.map Ax.pat).getD i [] = Ax.pat (W[i]'(by rw [HWn.out]; exact hi)) := fun i hi => by
                        rw [List.getD_eq_getElem?_getD, List.getElem?_map, List.getElem?_eq_getElem (by rw [HWn.out]; exact hi)]; rfl
                      have HRe := Lib.hid (recog_c A9 AP dn c9 n cP D (W.map Ax.pat) vs wr k9 k9' (by omega) (by omega) (hM10.below hbr) hLL.reads (fun i hi => ⟨Hd1.out i hi, by have := Hd4.out i; omega⟩)
                        (fun i hi => by rw [hgW i hi]; exact Ax.pat_bd (HWok.out _ (List.getElem_mem _))) Hmd.out)
                      have hb15 := below_step hb10w hbr
                      clear htk hgW hLL hbr hM10 hW10 hb10w
                      go_wp2_with fail
                      refine HRe.out.mono ?_
                      rintro e w12 ⟨v12, Q, rfl, hQ, own12, hb12⟩
                      obtain ⟨qn, hqn⟩ : ∃ qn, Q.length = qn := ⟨_, rfl⟩
                      rw [hqn] at own12 hQ
                      obtain ⟨A12, c12, rfl, _, _⟩ := own_form own12
                      have HAl := Lib.hid (align_c A12 qn c12 Q w12 (by omega) (NR.of_own own12))
                      have hb16 := below_step hb15 hb12
                      clear hqn own12 hb12 hb15 HRe
                      go_wp2_with fail
                      refine HAl.out.mono ?_
                      rintro e w13 ⟨v13, rfl, own13, hb13⟩
                      obtain ⟨A13, c13, rfl, _, _⟩ := own_form own13
                      have hb17 := below_step hb16 hb13
                      have HAw := Lib.hid (awake_c w13)
                      clear own13 hb13 hb16 HAl
                      go_wp2_with fail
                      refine HAw.out.mono ?_
                      rintro e w14 ⟨rfl, hb14⟩
                      have hb18 := below_step hb17 hb14
                      clear hb17 hb14 HAw
                      go_wp2_with fail
                      go_ret
                      exact ⟨rfl, hb18⟩
end Go.Proofs.YtocohkgdkebmdaaGreat
