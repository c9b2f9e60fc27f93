/- The walk of 'SectionLimits'. -/
import Derived.Test.YtjlfdkkaljlmjaaSecS
import Derived.Test.YtjlfdkkaljlmjaaSecR1
import Derived.Test.YtjlfdkkaljlmjaaBits
namespace Go.Proofs.Ytjlfdkkaljlmjaa
open Go.RowKit
theorem inM (v m : Int) (hm : 0 < m) : ∃ n : Nat, (n : Int) < m ∧ ((v.tmod m + m) % m) = (n : Int) := by
  have := mod_bd (v.tmod m + m) m hm
  exact ⟨((v.tmod m + m) % m).toNat, by omega, by omega⟩
theorem sl_border : SlT Try.prog 22 24 3 24 := slT_of (z := .agg #[.int .i64 0, .int .i64 0, .int .i64 0]) Try.underlying22 (by kernel_rfl) rfl (by omega)
def LimR (w : World) (n : Nat) (v p : Value) (wr : World) : Prop := ∃ (k : Nat) (l : List V3), k ≤ n ∧ p = .int .i64 k ∧ wr.ownsRow w.heap.size 24 3 v k (flat3 l) ∧ Below w.heap.size w wr
set_option linter.unusedVariables false in
set_option maxRecDepth 100000 in
set_option maxHeartbeats 2000000 in
theorem walk_SectionLimits (a0 a1 : Int) (w : World) (w0 : (Lit.int .i64 a0).wf = true) (w1 : (Lit.int .i64 a1).wf = true) :
    Calls Try.prog 3 #[.int .i64 a0, .int .i64 a1] w fun e w' => e = .returned (.bool true) ∧ Below w.heap.size w w' := by
  obtain ⟨r, hr, hrx⟩ := inM a0 3 (by omega)
  obtain ⟨m, hm, hmx⟩ := inM a1 32 (by omega)
  have t0 := tmod_bd a0 3 (by omega)
  have t1 := tmod_bd a1 32 (by omega)
  obtain ⟨n, hn⟩ : ∃ n : Nat, n = 63 + r := ⟨_, rfl⟩
  have hn1 : 63 ≤ n := by omega
  have hn2 : n ≤ 65 := by omega
  have hnx : (63 : Int) + (r : Int) = (n : Int) := by omega
  clear hn
  go_enter Try.func3, Try.ntmps3
  go_wp2_with fail
  go_loopw [5, 6] (fun v p wr => LimR w n v p wr) (fun _ p _ => n - (intOf p).toNat)
  case atStart => exact ⟨0, [], by omega, rfl, World.ownsRow_nil _ _ _ _, Below.refl _ _⟩
  case round =>
    obtain ⟨k, l, hk, rfl, own, hbr⟩ := hrel
    by_cases hlt : k < n
    · clear hrx hmx hnx
      go_wp2_with (at_builtin; refine wpList_push sl_border rfl (.tmp 24) (.tmp 44) rfl w.heap.size _ _ _ rfl own 1 1 rfl rfl rfl (by simp only [maxLen]; omega) (by omega) hbr.size ?_; intro v6 w6 own6 hgr6)
      go_roundw
      case rel => exact (show LimR _ _ _ _ _ from ⟨k + 1, l ++ [⟨_, _, _⟩], by omega, by go_num, by rw [flat3_snoc]; exact own6, hbr.trans (hgr6.below (own_ge own) hbr.size)⟩)
      case measure => simp [intOf]; omega
    · obtain rfl : k = n := by omega
      have hl := own3_len own
      obtain ⟨A, c, rfl, k1, k2⟩ := own_form own
      clear hrx hmx hnx
      by_cases hbig : 64 < k
      · have hE : Sec.vErr l = 3 := by rw [Sec.vErr, if_pos (by omega)]
        have HE := Lib.hid hE
        have HT := Lib.hid (show Sec.thrR l = [] by rw [Sec.thrR, if_neg (by omega)])
        clear hE
        go_wp2_with fail
        refine (svalid_c _ _ _ l _ (by omega) (own_VR own)).mono ?_
        rintro e w2 ⟨rfl, hb2⟩
        have own2 := own_below own hb2
        rw [HE.out]
        go_wp2_with fail
        refine (through_c _ _ _ l _ (by omega) (own_VR own2)).mono ?_
        rintro e w3 ⟨v3, rfl, own3, hb3⟩
        rw [HE.out]
        rw [HT.out] at own3
        obtain ⟨A3, c3, rfl, _, _⟩ := own_form own3
        have hb4 := below_step (below_step hbr hb2) hb3
        clear hb2 hb3 own own2 hbr
        go_wp2_with fail
        refine (sane05_c _).mono ?_
        rintro e w5 ⟨rfl, hb5⟩
        go_wp2_with fail
        go_ret
        exact ⟨rfl, below_step hb4 hb5⟩
      · obtain ⟨E, hE⟩ : ∃ E, Sec.vErr l = E := ⟨_, rfl⟩
        have HE := Lib.hid hE
        clear hE
        go_wp2_with fail
        refine (svalid_c _ _ _ l _ (by omega) (own_VR own)).mono ?_
        rintro e w2 ⟨rfl, hb2⟩
        have own2 := own_below own hb2
        rw [HE.out]
        go_wp2_with fail
        refine (through_c _ _ _ l _ (by omega) (own_VR own2)).mono ?_
        rintro e w3 ⟨v3, rfl, own3, hb3⟩
        rw [HE.out]
        have own4 := own_below own2 hb3
        have hb4 := below_step (below_step hbr hb2) hb3
        clear hb2 hb3 own own2 hbr
        go_wp2_with fail
        refine (rvalid5_c _ _ _ l _ (by omega) (own_VR own4)).mono ?_
        rintro e w5 ⟨rfl, hb5⟩
        rw [HE.out]
        have hb6 := below_step hb4 hb5
        clear hb4 hb5
        go_wp2_with fail
        refine (sane05_c _).mono ?_
        rintro e w7 ⟨rfl, hb7⟩
        go_wp2_with fail
        go_ret
        exact ⟨rfl, below_step hb6 hb7⟩
end Go.Proofs.Ytjlfdkkaljlmjaa
