/- The walk of 'FinalsheetReads'. -/
import Derived.Test.YtiegpkbollihgaaDoorFnMade
import Derived.Test.YtiegpkbollihgaaDoorFnW9
import Derived.Test.YtiegpkbollihgaaDoorFnSane
import Derived.Test.YtiegpkbollihgaaDoorFnSame
import Derived.Test.YtiegpkbollihgaaDoorFnRPar
import Derived.Test.YtiegpkbollihgaaDoorFnOk
import Derived.Deep.QuietTactic
import Derived.BigQuiet
namespace Go.Proofs.YtiegpkbollihgaaDoor
open Go.RowKit
def FrdI (w : World) (g c : Nat) (v4 v8 : Value) (W : World) : Prop := ∃ i c' : Nat, i ≤ 8 ∧ v4 = .bool false ∧ v8 = .int .i64 (i : Int) ∧ c' ≤ c + 10 * i ∧ Mk g W g c' ∧ Below w.heap.size w W
/-- The text that is read. -/
def FrdX (w : World) (g c : Nat) (v9 : Value) (W : World) : Prop := ∃ (x : ByteArray) (c' : Nat), v9 = .string x ∧ x.size ≤ maxLen ∧ c' ≤ c ∧ Mk g W g c' ∧ Below w.heap.size w W
def FrdU (S : ByteArray) (a : Nat) (v11 : Value) : Prop := ∃ t : Nat, v11 = .int .i64 (t : Int) ∧ a ≤ t ∧ t < S.size
def FrdT (S : ByteArray) (v11 : Value) : Prop := ∃ t : Nat, v11 = .int .i64 (t : Int) ∧ t < S.size
set_option linter.unusedVariables false in
set_option maxRecDepth 100000 in
set_option maxHeartbeats 16000000 in
theorem walk_FinalsheetReads (a0 : Option Addr) (len0 cap0 : Nat) (z0 : List Int) (t1 : ByteArray) (mx : Int) (w : World) (w0 : IsRow .i64 w a0 len0 cap0 z0) (w1 : t1.size ≤ maxLen) (hmx : w.cell? ⟨0, 0, none⟩ = some (.int .i64 mx)) (ht : Tab10 w) :
    Calls Tryd.prog 4 #[.slice a0 len0 cap0, .string t1] w fun e w' => e = .returned (.bool true) ∧ Below w.heap.size w w' := by
  obtain ⟨r0, m0, _⟩ := w0.reads
  clear w0
  generalize z0.take len0 = l0 at r0
  have HN := Lib.hid (new_c a0 len0 cap0 l0 w m0 r0)
  clear r0
  go_enter Tryd.func4, Tryd.ntmps4
  go_wp2_with fail
  refine HN.out.mono ?_
  rintro e w1' ⟨rfl, hm1, hb1, hz1⟩
  obtain ⟨g, hg⟩ : ∃ g, w.heap.size = g := ⟨_, rfl⟩
  rw [hg] at hm1
  have hgw : g ≤ w.heap.size := by omega
  have hgw' : w.heap.size ≤ g := by omega
  have hs1 := hb1.size
  clear hz1 HN
  go_wp2_with fail
  refine (fmade_c g g 0 5 w1' hm1 (by omega) (by omega) (by have := hm1.lt; omega)).mono ?_
  rintro e w2 ⟨A, m, cp, Bs, k, d, f, b0, b1, b2, b3, b4, b5, b6, c2, rfl, HOK, Hbk, oW, oS, hc2, hm2, hg2⟩
  have hb2 : Below w.heap.size w w2 := hb1.trans (grown_below hg2 hs1 (by omega))
  have hFR2 := ok_FR oW oS HOK.out
  have hb7 : f.bk.length = 7 := by rw [Hbk.out]; rfl
  have HFm := Lib.hid (rformat38_c A m cp Bs k d f b0 b1 b2 b3 b4 b5 b6 w2 Hbk.out hFR2)
  unfold FFormatR at HFm
  rw [ok_fmt HOK.out] at HFm
  simp only at HFm
  have hlen := Fn.len_fmt HOK.out.err hb7
  have hend := fmt_end f
  obtain ⟨S, hS⟩ : ∃ S, baOf (Fn.fmtL f) = S := ⟨_, rfl⟩
  have hSz : S.size ≤ 9000 := by rw [← hS, Fn.ba_size]; exact hlen
  have hLast : ∃ h : S.size - 1 < S.size, S[S.size - 1].toNat = 10 := by
    obtain ⟨q, hq⟩ := hend
    have hsz : S.size = q.length + 1 := by rw [← hS, Fn.ba_size, hq]; simp
    refine ⟨by omega, ?_⟩
    have hl : S.data.toList = q ++ [10] := by rw [← hS, baOf_data, hq]
    have h2 : S.data.toList[S.size - 1]'(by rw [hl]; simp; omega) = 10 := by
      have : ∀ (L : List UInt8) (h : S.size - 1 < L.length), L = q ++ [10] → L[S.size - 1] = 10 := by
        intro L h e
        subst e
        rw [List.getElem_append_right (by omega)]
        simp
      exact this _ _ hl
    have h3 : S[S.size - 1]'(by omega) = 10 := h2
    rw [h3]; rfl
  obtain ⟨hS1, hS10⟩ := hLast
  have HS10 := Lib.hid hS10
  have hS0 : 1 ≤ S.size := by omega
  rw [hS] at HFm
  unfold fnV at HFm
  clear hlen hb7 hS hend oW oS hg2 hm1 hb1 hs1 hFR2 hS10
  unfold fnV
  go_wp2_with fail
  refine HFm.out.mono ?_
  rintro e w4 ⟨rfl, hb4⟩
  have hm4 := hm2.below hb4
  have hbw4 := below_step hb2 hb4
  clear hm2 hb2 HFm hb4
  go_wp2_with fail
  go_loopw [4, 8] (fun v4 v8 wr => FrdI w g c2 v4 v8 wr) (fun _ v8 _ => 8 - (intOf v8).toNat)
  case atStart => exact (show FrdI _ _ _ _ _ _ from ⟨0, c2, by omega, rfl, rfl, by omega, hm4, hbw4⟩)
  case round =>
    obtain ⟨i, c, hi, rfl, rfl, hc, hmk, hbr⟩ := hrel
    clear hm4 hbw4
    by_cases hlt : i < 8
    · have dlt : decide ((i : Int) < 8) = true := decide_eq_true (by omega)
      have dlt' : decide (i < 8) = true := decide_eq_true hlt
      go_upto_block 2 with fail
      go_cut [9, 10, 11] from 32 to 93 (fun v9 _ _ W => FrdX w g (c + 9) v9 W)
      case first =>
        have h8 : i = 0 ∨ i = 1 ∨ i = 2 ∨ i = 3 ∨ i = 4 ∨ i = 5 ∨ i = 6 ∨ i = 7 := by omega
        have hSm : S.size ≤ maxLen := by unfold maxLen; omega
        rcases h8 with rfl | rfl | rfl | rfl | rfl | rfl | rfl | rfl
        · go_wp2_with fail
          go_meet
          exact (show FrdX _ _ _ _ _ from ⟨S, c, rfl, hSm, by omega, hmk, hbr⟩)
        · go_wp2_with fail
          refine (spoil_c g g c S wr hmk (by omega) (by omega)).mono ?_
          rintro e w5 ⟨s1, c5, rfl, hz1, hc5, hm5, hg5⟩
          have hb5 : Below w.heap.size w w5 := hbr.grown hg5 hbr.size (fun b e => by have := Option.some.inj e; omega)
          go_wp2_with fail
          go_meet
          exact (show FrdX _ _ _ _ _ from ⟨s1, c5, rfl, by unfold maxLen; omega, by omega, hm5, hb5⟩)
        · go_wp2_with fail
          refine (spoil_c g g c S wr hmk (by omega) (by omega)).mono ?_
          rintro e w5 ⟨s1, c5, rfl, hz1, hc5, hm5, hg5⟩
          have hb5 : Below w.heap.size w w5 := hbr.grown hg5 hbr.size (fun b e => by have := Option.some.inj e; omega)
          go_wp2_with fail
          go_meet
          exact (show FrdX _ _ _ _ _ from ⟨s1, c5, rfl, by unfold maxLen; omega, by omega, hm5, hb5⟩)
        · go_wp2_with fail
          refine (spoil_c g g c S wr hmk (by omega) (by omega)).mono ?_
          rintro e w5 ⟨s1, c5, rfl, hz1, hc5, hm5, hg5⟩
          have hb5 : Below w.heap.size w w5 := hbr.grown hg5 hbr.size (fun b e => by have := Option.some.inj e; omega)
          go_wp2_with fail
          go_meet
          exact (show FrdX _ _ _ _ _ from ⟨s1, c5, rfl, by unfold maxLen; omega, by omega, hm5, hb5⟩)
        · go_wp2_with fail
          refine (next_c g g c ((S.size : Int) + 1) wr hmk (by omega) (by omega) (by omega)).mono ?_
          rintro e w5 ⟨y0, hy0, hy1, rfl, hm5, hg5⟩
          obtain ⟨y, rfl⟩ := Int.eq_ofNat_of_zero_le hy0
          have hyS : (y : Int) ≤ (S.size : Int) := by omega
          have hb5 : Below w.heap.size w w5 := hbr.grown hg5 hbr.size (fun b e => by have := Option.some.inj e; omega)
          go_wp2_with fail
          go_meet
          exact (show FrdX _ _ _ _ _ from ⟨_, c + 1, rfl, by simp only [ByteArray.size_extract]; unfold maxLen; omega, by omega, hm5, hb5⟩)
        · go_wp2_with fail
          refine (next_c g g c S.size wr hmk (by omega) (by omega) (by omega)).mono ?_
          rintro e w5 ⟨y0, hy0, hy1, rfl, hm5, hg5⟩
          obtain ⟨y, rfl⟩ := Int.eq_ofNat_of_zero_le hy0
          have hyS : y < S.size := by omega
          have hb5 : Below w.heap.size w w5 := hbr.grown hg5 hbr.size (fun b e => by have := Option.some.inj e; omega)
          clear hmk hbr hg5 hy0 hy1
          go_wp2_with fail
          go_loopw [10] (fun v10 wi => FrdT S v10 ∧ wi = w5) (fun v10 _ => (intOf v10).toNat)
          case atStart => exact ⟨(show FrdT _ _ from ⟨y, rfl, hyS⟩), rfl⟩
          case round =>
            obtain ⟨⟨t, rfl, htS⟩, hwi⟩ := hrel
            subst wr
            clear hyS
            by_cases ht0 : 0 < t
            · have d0 : decide ((0 : Int) < (t : Int)) = true := decide_eq_true (by omega)
              have d0' : decide (0 < t) = true := decide_eq_true ht0
              have hti : (t : Int) - 1 < (S.size : Int) := by omega
              have ht1 : (1 : Int) ≤ (t : Int) := by omega
              have ht1' : 1 ≤ t := ht0
              have htp : t - 1 < S.size := by omega
              have htn : ((t : Int) - 1).toNat = t - 1 := by omega
              obtain ⟨cc, hcc⟩ : ∃ cc, S[t - 1].toNat = cc := ⟨_, rfl⟩
              by_cases h10 : cc = 10
              case neg =>
                have hc10 : ((cc : Int) != 10) = true := by simp; omega
                clear h10
                go_wp2_with fail
                go_roundw
                case rel => exact ⟨(show FrdT _ _ from ⟨t - 1, by go_num, by omega⟩), trivial⟩
                case measure => simp [intOf]; omega
              case pos =>
                have hc10 : ((cc : Int) != 10) = false := by simp; omega
                clear h10
                go_wp2_with fail
                clear hcc htn
                go_loopw [11] (fun v11 wi => FrdU S t v11 ∧ wi = w5) (fun v11 _ => S.size - (intOf v11).toNat)
                case atStart => exact ⟨(show FrdU _ _ _ from ⟨t, rfl, Nat.le_refl _, htS⟩), rfl⟩
                case round =>
                  obtain ⟨⟨u, rfl, htu, huS⟩, hwi⟩ := hrel
                  subst wr
                  have hui : (u : Int) < (S.size : Int) := by omega
                  obtain ⟨cu, hcu⟩ : ∃ cu, S[u].toNat = cu := ⟨_, rfl⟩
                  by_cases h10u : cu = 10
                  case neg =>
                    have hc10u : ((cu : Int) != 10) = true := by simp; omega
                    have hu1 : u + 1 < S.size := by
                      rcases Nat.lt_or_ge (u + 1) S.size with h | h
                      · exact h
                      · exfalso
                        have hu2 : u = S.size - 1 := by omega
                        subst hu2
                        exact h10u (hcu.symm.trans HS10.out)
                    clear h10u
                    go_wp2_with fail
                    go_roundw
                    case rel => exact ⟨(show FrdU _ _ _ from ⟨u + 1, by go_num, by omega, by omega⟩), trivial⟩
                    case measure => simp [intOf]; omega
                  case pos =>
                    have hc10u : ((cu : Int) != 10) = false := by simp; omega
                    have hu1 : (u : Int) + 1 ≤ (S.size : Int) := by omega
                    have hu0 : (0 : Int) ≤ (u : Int) + 1 := by omega
                    have hun : ((u : Int) + 1).toNat = u + 1 := by omega
                    have htl : (t : Int) ≤ (S.size : Int) := by omega
                    have huw : IntKind.i64.wrap ((u : Int) + 1) = (u : Int) + 1 := IntWalk.i64_in _ ⟨by omega, by omega⟩
                    have hsz1 : ¬ 9223372036854775807 < min t S.size + (S.size - (u + 1)) := by omega
                    have hsz2 : ¬ 9223372036854775807 < t + (S.size - (u + 1)) := by omega
                    have hmt : min t S.size = t := by omega
                    clear h10u
                    go_wp2_with fail
                    go_quiet (fail)
                    have hmq := mk_drewN hm5 nq
                    have hbq := below_drewN hb5 nq
                    go_wp2_with fail
                    go_meet
                    exact (show FrdX _ _ _ _ _ from ⟨_, c + 1, rfl, by simp only [ByteArray.size_append, ByteArray.size_extract]; unfold maxLen; omega, by omega, hmq, hbq⟩)
            · have d0 : decide ((0 : Int) < (t : Int)) = false := decide_eq_false (by omega)
              have d0' : decide (0 < t) = false := decide_eq_false ht0
              go_wp2_with fail
              go_loopw [11] (fun v11 wi => FrdU S t v11 ∧ wi = w5) (fun v11 _ => S.size - (intOf v11).toNat)
              case atStart => exact ⟨(show FrdU _ _ _ from ⟨t, rfl, Nat.le_refl _, htS⟩), rfl⟩
              case round =>
                obtain ⟨⟨u, rfl, htu, huS⟩, hwi⟩ := hrel
                subst wr
                have hui : (u : Int) < (S.size : Int) := by omega
                obtain ⟨cu, hcu⟩ : ∃ cu, S[u].toNat = cu := ⟨_, rfl⟩
                by_cases h10u : cu = 10
                case neg =>
                  have hc10u : ((cu : Int) != 10) = true := by simp; omega
                  have hu1 : u + 1 < S.size := by
                    rcases Nat.lt_or_ge (u + 1) S.size with h | h
                    · exact h
                    · exfalso
                      have hu2 : u = S.size - 1 := by omega
                      subst hu2
                      exact h10u (hcu.symm.trans HS10.out)
                  clear h10u
                  go_wp2_with fail
                  go_roundw
                  case rel => exact ⟨(show FrdU _ _ _ from ⟨u + 1, by go_num, by omega, by omega⟩), trivial⟩
                  case measure => simp [intOf]; omega
                case pos =>
                  have hc10u : ((cu : Int) != 10) = false := by simp; omega
                  have hu1 : (u : Int) + 1 ≤ (S.size : Int) := by omega
                  have hu0 : (0 : Int) ≤ (u : Int) + 1 := by omega
                  have hun : ((u : Int) + 1).toNat = u + 1 := by omega
                  have htl : (t : Int) ≤ (S.size : Int) := by omega
                  have huw : IntKind.i64.wrap ((u : Int) + 1) = (u : Int) + 1 := IntWalk.i64_in _ ⟨by omega, by omega⟩
                  have hsz1 : ¬ 9223372036854775807 < min t S.size + (S.size - (u + 1)) := by omega
                  have hsz2 : ¬ 9223372036854775807 < t + (S.size - (u + 1)) := by omega
                  have hmt : min t S.size = t := by omega
                  clear h10u
                  go_wp2_with fail
                  go_quiet (fail)
                  have hmq := mk_drewN hm5 nq
                  have hbq := below_drewN hb5 nq
                  go_wp2_with fail
                  go_meet
                  exact (show FrdX _ _ _ _ _ from ⟨_, c + 1, rfl, by simp only [ByteArray.size_append, ByteArray.size_extract]; unfold maxLen; omega, by omega, hmq, hbq⟩)
        · go_wp2_with fail
          refine (next_c g g c S.size wr hmk (by omega) (by omega) (by omega)).mono ?_
          rintro e w5 ⟨y0, hy0, hy1, rfl, hm5, hg5⟩
          obtain ⟨y, rfl⟩ := Int.eq_ofNat_of_zero_le hy0
          have hyS : y < S.size := by omega
          have hb5 : Below w.heap.size w w5 := hbr.grown hg5 hbr.size (fun b e => by have := Option.some.inj e; omega)
          clear hmk hbr hg5 hy0 hy1
          go_wp2_with fail
          go_loopw [10] (fun v10 wi => FrdT S v10 ∧ wi = w5) (fun v10 _ => (intOf v10).toNat)
          case atStart => exact ⟨(show FrdT _ _ from ⟨y, rfl, hyS⟩), rfl⟩
          case round =>
            obtain ⟨⟨t, rfl, htS⟩, hwi⟩ := hrel
            subst wr
            clear hyS
            by_cases ht0 : 0 < t
            · have d0 : decide ((0 : Int) < (t : Int)) = true := decide_eq_true (by omega)
              have d0' : decide (0 < t) = true := decide_eq_true ht0
              have hti : (t : Int) - 1 < (S.size : Int) := by omega
              have ht1 : (1 : Int) ≤ (t : Int) := by omega
              have ht1' : 1 ≤ t := ht0
              have htp : t - 1 < S.size := by omega
              have htn : ((t : Int) - 1).toNat = t - 1 := by omega
              obtain ⟨cc, hcc⟩ : ∃ cc, S[t - 1].toNat = cc := ⟨_, rfl⟩
              by_cases h10 : cc = 10
              case neg =>
                have hc10 : ((cc : Int) != 10) = true := by simp; omega
                clear h10
                go_wp2_with fail
                go_roundw
                case rel => exact ⟨(show FrdT _ _ from ⟨t - 1, by go_num, by omega⟩), trivial⟩
                case measure => simp [intOf]; omega
              case pos =>
                have hc10 : ((cc : Int) != 10) = false := by simp; omega
                clear h10
                go_wp2_with fail
                clear hcc htn
                go_loopw [11] (fun v11 wi => FrdU S t v11 ∧ wi = w5) (fun v11 _ => S.size - (intOf v11).toNat)
                case atStart => exact ⟨(show FrdU _ _ _ from ⟨t, rfl, Nat.le_refl _, htS⟩), rfl⟩
                case round =>
                  obtain ⟨⟨u, rfl, htu, huS⟩, hwi⟩ := hrel
                  subst wr
                  have hui : (u : Int) < (S.size : Int) := by omega
                  obtain ⟨cu, hcu⟩ : ∃ cu, S[u].toNat = cu := ⟨_, rfl⟩
                  by_cases h10u : cu = 10
                  case neg =>
                    have hc10u : ((cu : Int) != 10) = true := by simp; omega
                    have hu1 : u + 1 < S.size := by
                      rcases Nat.lt_or_ge (u + 1) S.size with h | h
                      · exact h
                      · exfalso
                        have hu2 : u = S.size - 1 := by omega
                        subst hu2
                        exact h10u (hcu.symm.trans HS10.out)
                    clear h10u
                    go_wp2_with fail
                    go_roundw
                    case rel => exact ⟨(show FrdU _ _ _ from ⟨u + 1, by go_num, by omega, by omega⟩), trivial⟩
                    case measure => simp [intOf]; omega
                  case pos =>
                    have hc10u : ((cu : Int) != 10) = false := by simp; omega
                    have hu1 : (u : Int) + 1 ≤ (S.size : Int) := by omega
                    have hu0 : (0 : Int) ≤ (u : Int) + 1 := by omega
                    have hun : ((u : Int) + 1).toNat = u + 1 := by omega
                    have htl : (t : Int) ≤ (S.size : Int) := by omega
                    have huw : IntKind.i64.wrap ((u : Int) + 1) = (u : Int) + 1 := IntWalk.i64_in _ ⟨by omega, by omega⟩
                    have hsz1 : ¬ 9223372036854775807 < min t S.size + (S.size - (u + 1)) := by omega
                    have hsz2 : ¬ 9223372036854775807 < t + (S.size - (u + 1)) := by omega
                    have hmt : min t S.size = t := by omega
                    clear h10u
                    go_wp2_with fail
                    go_quiet (fail)
                    have hmq := mk_drewN hm5 nq
                    have hbq := below_drewN hb5 nq
                    have hsz3 : ¬ 9223372036854775807 < min (u + 1) S.size + (S.size - t) := by omega
                    have hsz4 : ¬ 9223372036854775807 < u + 1 + (S.size - t) := by omega
                    have hmu : min (u + 1) S.size = u + 1 := by omega
                    clear hm5 hb5
                    generalize w5.drewN nq = w6 at hmq hbq ⊢
                    go_wp2_with fail
                    go_quiet (fail)
                    have hmq2 := mk_drewN hmq nq
                    have hbq2 := below_drewN hbq nq
                    go_wp2_with fail
                    go_meet
                    exact (show FrdX _ _ _ _ _ from ⟨_, c + 1, rfl, by simp only [ByteArray.size_append, ByteArray.size_extract]; unfold maxLen; omega, by omega, hmq2, hbq2⟩)
            · have d0 : decide ((0 : Int) < (t : Int)) = false := decide_eq_false (by omega)
              have d0' : decide (0 < t) = false := decide_eq_false ht0
              go_wp2_with fail
              go_loopw [11] (fun v11 wi => FrdU S t v11 ∧ wi = w5) (fun v11 _ => S.size - (intOf v11).toNat)
              case atStart => exact ⟨(show FrdU _ _ _ from ⟨t, rfl, Nat.le_refl _, htS⟩), rfl⟩
              case round =>
                obtain ⟨⟨u, rfl, htu, huS⟩, hwi⟩ := hrel
                subst wr
                have hui : (u : Int) < (S.size : Int) := by omega
                obtain ⟨cu, hcu⟩ : ∃ cu, S[u].toNat = cu := ⟨_, rfl⟩
                by_cases h10u : cu = 10
                case neg =>
                  have hc10u : ((cu : Int) != 10) = true := by simp; omega
                  have hu1 : u + 1 < S.size := by
                    rcases Nat.lt_or_ge (u + 1) S.size with h | h
                    · exact h
                    · exfalso
                      have hu2 : u = S.size - 1 := by omega
                      subst hu2
                      exact h10u (hcu.symm.trans HS10.out)
                  clear h10u
                  go_wp2_with fail
                  go_roundw
                  case rel => exact ⟨(show FrdU _ _ _ from ⟨u + 1, by go_num, by omega, by omega⟩), trivial⟩
                  case measure => simp [intOf]; omega
                case pos =>
                  have hc10u : ((cu : Int) != 10) = false := by simp; omega
                  have hu1 : (u : Int) + 1 ≤ (S.size : Int) := by omega
                  have hu0 : (0 : Int) ≤ (u : Int) + 1 := by omega
                  have hun : ((u : Int) + 1).toNat = u + 1 := by omega
                  have htl : (t : Int) ≤ (S.size : Int) := by omega
                  have huw : IntKind.i64.wrap ((u : Int) + 1) = (u : Int) + 1 := IntWalk.i64_in _ ⟨by omega, by omega⟩
                  have hsz1 : ¬ 9223372036854775807 < min t S.size + (S.size - (u + 1)) := by omega
                  have hsz2 : ¬ 9223372036854775807 < t + (S.size - (u + 1)) := by omega
                  have hmt : min t S.size = t := by omega
                  clear h10u
                  go_wp2_with fail
                  go_quiet (fail)
                  have hmq := mk_drewN hm5 nq
                  have hbq := below_drewN hb5 nq
                  have hsz3 : ¬ 9223372036854775807 < min (u + 1) S.size + (S.size - t) := by omega
                  have hsz4 : ¬ 9223372036854775807 < u + 1 + (S.size - t) := by omega
                  have hmu : min (u + 1) S.size = u + 1 := by omega
                  clear hm5 hb5
                  generalize w5.drewN nq = w6 at hmq hbq ⊢
                  go_wp2_with fail
                  go_quiet (fail)
                  have hmq2 := mk_drewN hmq nq
                  have hbq2 := below_drewN hbq nq
                  go_wp2_with fail
                  go_meet
                  exact (show FrdX _ _ _ _ _ from ⟨_, c + 1, rfl, by simp only [ByteArray.size_append, ByteArray.size_extract]; unfold maxLen; omega, by omega, hmq2, hbq2⟩)
        · go_wp2_with fail
          go_meet
          exact (show FrdX _ _ _ _ _ from ⟨t1, c, rfl, w1, by omega, hmk, hbr⟩)
      case rest =>
        obtain ⟨x, c', rfl, hx, hcx, hmx2, hbx⟩ := hcut
        clear hmk hbr
        by_cases h4 : 4000 < x.size
        · have d4 : decide ((4000 : Int) < (x.size : Int)) = true := decide_eq_true (by omega)
          have d4' : decide (4000 < x.size) = true := decide_eq_true h4
          go_wp2_with fail
          go_roundw
          case rel => exact (show FrdI _ _ _ _ _ _ from ⟨i + 1, c', by omega, rfl, by go_num, by omega, hmx2, hbx⟩)
          case measure => simp [intOf]; omega
        · have d4 : decide ((4000 : Int) < (x.size : Int)) = false := decide_eq_false (by omega)
          have d4' : decide (4000 < x.size) = false := decide_eq_false h4
          clear h4
          go_wp2_with fail
          refine (fparse_c x mx wc hx (keep_cell hbx hmx)).mono ?_
          rintro e w5 hP
          unfold FParseR at hP
          obtain ⟨Aa, na, ca, Ba, ma, da, q0, q1, q2, q3, q4, q5, q6, rfl, hbk1, hFRa, _, hb5⟩ := hP
          obtain ⟨P, hPP⟩ : ∃ P, Fn.parse x = P := ⟨_, rfl⟩
          have HPP := Lib.hid hPP
          rw [hPP] at hbk1 hFRa
          rw [hPP]
          obtain ⟨fq, nq, eq⟩ := P
          simp only at hbk1 hFRa
          simp only
          unfold fnV
          have hm5 := hmx2.below hb5
          have hbw5 := below_step hbx hb5
          clear hmx2 hbx hb5 hPP
          obtain ⟨xa, hxa⟩ : ∃ xa, w5.heap.size = xa := ⟨_, rfl⟩
          obtain ⟨W6, hW6⟩ : ∃ W6, w5.alloc (.cells #[.string fq.nm, .slice Aa na ca, .int .i64 q0, .int .i64 q1, .int .i64 q2, .int .i64 q3, .int .i64 q4, .int .i64 q5, .int .i64 q6, .slice Ba ma da] 28) = W6 := ⟨_, rfl⟩
          have hA6 : Blk W6 xa 28 #[.string fq.nm, .slice Aa na ca, .int .i64 q0, .int .i64 q1, .int .i64 q2, .int .i64 q3, .int .i64 q4, .int .i64 q5, .int .i64 q6, .slice Ba ma da] := by rw [← hW6, ← hxa]; exact Blk.new w5 _ _
          have hba : Below w5.heap.size w5 W6 := by rw [← hW6]; exact (Below.refl _ _).alloc (Nat.le_refl _) _
          have hm6 := hm5.below hba
          have hFR6 := hFRa.below hba
          have hb6 := below_step hbw5 hba
          clear hm5 hFRa hbw5 hba
          go_wp2_with fail
          refine (rparse38_c x W6 hx).mono ?_
          rintro e w7 hP
          unfold FParseR at hP
          rw [HPP.out] at hP
          obtain ⟨Ab, nb, cb, Bb, mb, db, p0, p1, p2, p3, p4, p5, p6, rfl, hbk2, hFRb, _, hb7⟩ := hP
          obtain ⟨rfl, rfl, rfl, rfl, rfl, rfl, rfl⟩ : q0 = p0 ∧ q1 = p1 ∧ q2 = p2 ∧ q3 = p3 ∧ q4 = p4 ∧ q5 = p5 ∧ q6 = p6 := by
            have := hbk1.symm.trans hbk2
            simpa using this
          simp only at hFRb
          simp only
          unfold fnV
          have hm7 := hm6.below hb7
          have hA7 := hA6.below hb7 hA6.lt
          have hFRa7 := hFR6.below hb7
          have hbw7 := below_step hb6 hb7
          clear hm6 hA6 hFR6 hb6 hb7 hbk1 hbk2
          obtain ⟨xc, hxc⟩ : ∃ xc, w7.heap.size = xc := ⟨_, rfl⟩
          obtain ⟨W8, hW8⟩ : ∃ W8, w7.alloc (.cells #[.string fq.nm, .slice Ab nb cb, .int .i64 q0, .int .i64 q1, .int .i64 q2, .int .i64 q3, .int .i64 q4, .int .i64 q5, .int .i64 q6, .slice Bb mb db] 28) = W8 := ⟨_, rfl⟩
          have hB8 : Blk W8 xc 28 #[.string fq.nm, .slice Ab nb cb, .int .i64 q0, .int .i64 q1, .int .i64 q2, .int .i64 q3, .int .i64 q4, .int .i64 q5, .int .i64 q6, .slice Bb mb db] := by rw [← hW8, ← hxc]; exact Blk.new w7 _ _
          have hA8 : Blk W8 xa 28 #[.string fq.nm, .slice Aa na ca, .int .i64 q0, .int .i64 q1, .int .i64 q2, .int .i64 q3, .int .i64 q4, .int .i64 q5, .int .i64 q6, .slice Ba ma da] := by rw [← hW8]; exact hA7.alloc _
          have hba : Below w7.heap.size w7 W8 := by rw [← hW8]; exact (Below.refl _ _).alloc (Nat.le_refl _) _
          have hm8 := hm7.below hba
          have hFA8 := hFRa7.below hba
          have hFB8 := hFRb.below hba
          have hb8 := below_step hbw7 hba
          have HSM := Lib.hid (sameFinals_c Aa Ab na nb ca cb Ba Bb ma mb da db fq q0 q1 q2 q3 q4 q5 q6 W8 hFA8 hFB8)
          unfold fnV at HSM
          have x0 : W8.cell? ⟨xa, 0, none⟩ = some (.string fq.nm) := hA8.cell 0
          have x1 : W8.cell? ⟨xa, 1, none⟩ = some (.slice Aa na ca) := hA8.cell 1
          have x2 : W8.cell? ⟨xa, 2, none⟩ = some (.int .i64 q0) := hA8.cell 2
          have x3 : W8.cell? ⟨xa, 3, none⟩ = some (.int .i64 q1) := hA8.cell 3
          have x4 : W8.cell? ⟨xa, 4, none⟩ = some (.int .i64 q2) := hA8.cell 4
          have x5 : W8.cell? ⟨xa, 5, none⟩ = some (.int .i64 q3) := hA8.cell 5
          have x6 : W8.cell? ⟨xa, 6, none⟩ = some (.int .i64 q4) := hA8.cell 6
          have x7 : W8.cell? ⟨xa, 7, none⟩ = some (.int .i64 q5) := hA8.cell 7
          have x8 : W8.cell? ⟨xa, 8, none⟩ = some (.int .i64 q6) := hA8.cell 8
          have x9 : W8.cell? ⟨xa, 9, none⟩ = some (.slice Ba ma da) := hA8.cell 9
          have y0 : W8.cell? ⟨xc, 0, none⟩ = some (.string fq.nm) := hB8.cell 0
          have y1 : W8.cell? ⟨xc, 1, none⟩ = some (.slice Ab nb cb) := hB8.cell 1
          have y2 : W8.cell? ⟨xc, 2, none⟩ = some (.int .i64 q0) := hB8.cell 2
          have y3 : W8.cell? ⟨xc, 3, none⟩ = some (.int .i64 q1) := hB8.cell 3
          have y4 : W8.cell? ⟨xc, 4, none⟩ = some (.int .i64 q2) := hB8.cell 4
          have y5 : W8.cell? ⟨xc, 5, none⟩ = some (.int .i64 q3) := hB8.cell 5
          have y6 : W8.cell? ⟨xc, 6, none⟩ = some (.int .i64 q4) := hB8.cell 6
          have y7 : W8.cell? ⟨xc, 7, none⟩ = some (.int .i64 q5) := hB8.cell 7
          have y8 : W8.cell? ⟨xc, 8, none⟩ = some (.int .i64 q6) := hB8.cell 8
          have y9 : W8.cell? ⟨xc, 9, none⟩ = some (.slice Bb mb db) := hB8.cell 9
          clear hm7 hA7 hFRa7 hFRb hbw7 hba hFA8 hFB8
          obtain ⟨ck, hck⟩ : ∃ ck, ((Fn.chk x.data.toList : Nat) : Int) = ck := ⟨_, rfl⟩
          have HC1 := Lib.hid (fun W => fcheck_c x W hx)
          have HC2 := Lib.hid (fun W => rcheck_c x W hx)
          rw [hck] at HC1 HC2
          clear hck
          go_wp2_with fail
          refine HSM.out.mono ?_
          rintro e w9 ⟨rfl, hb9⟩
          have hm9 := hm8.below hb9
          have hbw9 := below_step hb8 hb9
          clear hm8 hb8 hb9 x0 x1 x2 x3 x4 x5 x6 x7 x8 x9 y0 y1 y2 y3 y4 y5 y6 y7 y8 y9 hA8 hB8 HSM
          go_wp2_with fail
          refine (HC1.out _).mono ?_
          rintro e w10 ⟨rfl, rfl⟩
          go_wp2_with fail
          refine (HC2.out _).mono ?_
          rintro e w11 ⟨rfl, rfl⟩
          go_wp2_with fail
          go_roundw
          case rel => exact (show FrdI _ _ _ _ _ _ from ⟨i + 1, c', by omega, rfl, by go_num, by omega, hm9, hbw9⟩)
          case measure => simp [intOf]; omega
    · obtain rfl : i = 8 := by omega
      have dlt : decide (((8 : Nat) : Int) < 8) = false := rfl
      go_wp2_with fail
      refine (sane38_c mx wr (keep_cell hbr hmx) (ht.below hbr)).mono ?_
      rintro e w6 ⟨rfl, hb6⟩
      have hbw6 := below_step hbr hb6
      go_wp2_with fail
      go_ret
      exact ⟨rfl, hbw6⟩
end Go.Proofs.YtiegpkbollihgaaDoor
