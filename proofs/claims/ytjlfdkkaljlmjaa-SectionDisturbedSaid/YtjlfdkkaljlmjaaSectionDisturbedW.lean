/- The walk of 'SectionDisturbed'. -/
import Derived.Test.YtjlfdkkaljlmjaaSectionAddsW
namespace Go.Proofs.Ytjlfdkkaljlmjaa
open Go.RowKit
theorem Sec.st_two (x : Int × Int) (h : x.2 < 0) : Sec.stOf x = 2 := by rw [Sec.stOf, if_pos h]
theorem Sec.st_not (x : Int × Int) (h : ¬x.2 < 0) : Sec.stOf x = 0 ∨ Sec.stOf x = 1 := by
  rw [Sec.stOf, if_neg h]
  split
  · exact .inr rfl
  · exact .inl rfl
def DisO (w : World) (v : Value) (wr : World) : Prop := ∃ k : Nat, k ≤ 4 ∧ v = .int .i64 k ∧ Below w.heap.size w wr
def DisI (w : World) (l p : List V3) (s : Int) (m : Nat) (u v : Value) (wr : World) : Prop := ∃ (i : Nat) (b : Bool), i ≤ m + 1 ∧ v = .int .i64 i ∧ u = .bool b ∧ Hid (b = true → (Sec.cnt l (p.take i) s (-1)).2 < 0) ∧ Below w.heap.size w wr
set_option linter.unusedVariables false in
set_option maxRecDepth 100000 in
set_option maxHeartbeats 4000000 in
theorem walk_SectionDisturbed (a0 : Option Addr) (len0 cap0 : Nat) (z0 : List Int) (w : World) (w0 : IsRow .i64 w a0 len0 cap0 z0) :
    Calls Try.prog 6 #[.slice a0 len0 cap0] w fun e w' => e = .returned (.bool true) ∧ Below w.heap.size w w' := by
  obtain ⟨r0, m0, _⟩ := w0.reads
  clear w0
  generalize z0.take len0 = l0 at r0
  go_enter Try.func6, Try.ntmps6
  go_wp2_with fail
  refine (new_c _ _ _ _ _ m0 r0).mono ?_
  rintro e w1 ⟨rfl, hm1, hb1, hz1⟩
  go_wp2_with fail
  refine (borders_c w.heap.size w.heap.size 0 10 w1 hm1 (by omega) (by omega) hb1.size).mono ?_
  rintro e w2 ⟨v2, l, c2', rfl, own2, hl10, hmB, hc2, hm2, hg2⟩
  have hb2 := hb1.trans (grown_below hg2 hb1.size (Nat.le_refl _))
  go_wp2_with fail
  refine (pulses_c w.heap.size w.heap.size c2' 24 w2 hm2 (by omega) (by omega)).mono ?_
  rintro e w3 ⟨v3, p, c3', rfl, own3, hp20, hmP, hc3, hm3, hg3⟩
  have own2a := own2.kept hg3 (.inr (hm2.ne own2 (by decide)))
  have hb3 := hb2.trans (grown_below hg3 hb2.size (Nat.le_refl _))
  clear own2 hm2 hm1 hg2 hg3 hz1 hb1 hb2 hm3
  have Hall := Lib.hid (fun (s : Int) (k : Nat) (hin : Sec.inB s = true) => And.intro (Sec.chk_all (s := s) hmB.ok (by omega) hmP.ok (by omega) hin) (Sec.chk_take (s := s) k hmB.ok (by omega) hmP.ok (by omega) hin))
  have Hval := Lib.hid (Det.vGo_valid p none hmP.ok)
  clear hmB hmP
  obtain ⟨n, hn⟩ : ∃ n, l.length = n := ⟨_, rfl⟩
  obtain ⟨m, hm⟩ : ∃ m, p.length = m := ⟨_, rfl⟩
  rw [hn] at own2a hl10
  rw [hm] at own3 hp20
  obtain ⟨A2, d2, rfl, k2, k2'⟩ := own_form own2a
  obtain ⟨A3, d3, rfl, k3, k3'⟩ := own_form own3
  have Hn := Lib.hid hn
  have Hm := Lib.hid hm
  clear hn hm
  have vl := own_VR own2a
  have vp := own_VR own3
  clear own2a own3
  have hw3 := hb3.size
  go_wp2_with fail
  go_loopw [6] (fun v wr => DisO w3 v wr) (fun v _ => 4 - (intOf v).toNat)
  case atStart => exact (show DisO _ _ _ from ⟨0, by omega, rfl, Below.refl _ _⟩)
  case round =>
    obtain ⟨s, hs, rfl, hbr⟩ := hrel
    by_cases hlt : s < 4
    · have hin : Sec.inB (s : Int) = true := by simp [Sec.inB]; omega
      have Hs := Lib.hid (Hall.out s · hin)
      clear hin
      have hd4 : decide ((s : Int) < 4) = true := by simp; omega
      go_wp2_with fail
      go_loopw [7, 8] (fun u v wr => DisI w3 l p s m u v wr) (fun _ v _ => m + 1 - (intOf v).toNat)
      case atStart => exact (show DisI _ _ _ _ _ _ _ _ from ⟨0, false, by omega, rfl, rfl, Lib.hid (by simp), hbr⟩)
      case round =>
        obtain ⟨i, b, hi, rfl, rfl, hbi, hbr2⟩ := hrel
        have vl1 := vl.below hbr2
        have vp1 := vp.below hbr2
        by_cases him : i ≤ m
        · by_cases hneg : (Sec.cnt l (p.take i) s (-1)).2 < 0
          · have H2 := Lib.hid (Sec.st_two _ hneg)
            have Hn2 := Lib.hid (Sec.cnt_stays l p s (-1) i hneg)
            clear hneg
            cases b
            all_goals
              go_wp2_with fail
              refine (state_ok _ _ _ _ _ _ l (p.take i) s (-1) 2 _ (by omega) (by omega) vl1 (vp1.take (g := i) (by omega)) (Hs.out i).2 H2.out).mono ?_
              rintro e w4 ⟨rfl, hb4⟩
              go_wp2_with fail
              go_roundw
              case rel => exact (show DisI _ _ _ _ _ _ _ _ from ⟨i + 1, true, by omega, by go_num, rfl, Lib.hid (fun _ => Hn2.out), below_step hbr2 hb4⟩)
              case measure => simp [intOf]; omega
          · have hb0 : b = false := by
              cases hb : b
              · rfl
              · exact absurd (hbi.out hb) hneg
            subst hb0
            rcases Sec.st_not _ hneg with H2 | H2
            all_goals
              have H2 := Lib.hid H2
              clear hneg
              go_wp2_with fail
              first
                | (refine (state_ok _ _ _ _ _ _ l (p.take i) s (-1) 0 _ (by omega) (by omega) vl1 (vp1.take (g := i) (by omega)) (Hs.out i).2 H2.out).mono ?_)
                | (refine (state_ok _ _ _ _ _ _ l (p.take i) s (-1) 1 _ (by omega) (by omega) vl1 (vp1.take (g := i) (by omega)) (Hs.out i).2 H2.out).mono ?_)
              rintro e w4 ⟨rfl, hb4⟩
              go_wp2_with fail
              go_roundw
              case rel => exact (show DisI _ _ _ _ _ _ _ _ from ⟨i + 1, false, by omega, by go_num, rfl, Lib.hid (by simp), below_step hbr2 hb4⟩)
              case measure => simp [intOf]; omega
        · have H0 := Lib.hid (show Sec.stOf (Sec.cnt l p s 1000000000) = 0 by
            rw [Sec.cnt_late l s 1000000000 _ p rfl (fun x hx => (Det.okP_time (Hval.out x hx)).2)]; rfl)
          go_wp2_with fail
          refine (state_ok _ _ _ _ _ _ l p s 1000000000 0 _ (by omega) (by omega) vl1 vp1 (Hs.out 0).1 H0.out).mono ?_
          rintro e w4 ⟨rfl, hb4⟩
          go_wp2_with fail
          go_roundw
          case rel => exact (show DisO _ _ _ from ⟨s + 1, by omega, by go_num, below_step hbr2 hb4⟩)
          case measure => simp [intOf]; omega
    · go_wp2_with fail
      refine (sane05_c _).mono ?_
      rintro e w5 ⟨rfl, hb5⟩
      go_wp2_with fail
      go_ret
      exact ⟨rfl, hb3.trans ((below_step hbr hb5).mono hw3)⟩
end Go.Proofs.Ytjlfdkkaljlmjaa
