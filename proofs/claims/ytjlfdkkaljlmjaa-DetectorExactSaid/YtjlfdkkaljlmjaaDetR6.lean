/- The walk of humpyardlaw04.reads. -/
import Derived.Test.YtjlfdkkaljlmjaaDetR5
import Derived.Test.YtjlfdkkaljlmjaaGenSame
namespace Go.Proofs.Ytjlfdkkaljlmjaa
open Go.RowKit
set_option maxRecDepth 100000 in
set_option maxHeartbeats 2000000 in
theorem reads_c (A : Option Addr) (n c : Nat) (b : List Int) (w : World) (hn : n ≤ maxLen) (h : IR .u8 w A n b) (hr : ∀ x ∈ b, 0 ≤ x ∧ x < 256) :
    Calls Try.prog 40 #[.slice A n c] w fun e w' => e = .returned (.bool true) ∧ Below w.heap.size w w' := by
  have H1 := Lib.hid (fun W (hW : IR .u8 W A n b) => ddecode_c A n c b W hn hW hr)
  have H2 := Lib.hid (fun W (hW : IR .u8 W A n b) => rdecode_c A n c b W hn hW hr)
  have Hi := Lib.hid h
  generalize Det.decE b = x1 at H1 H2
  generalize Det.decP b = x2 at H1 H2
  generalize Det.decG b = x3 at H1 H2
  obtain ⟨k2, hk2⟩ : ∃ k, x2.length = k := ⟨_, rfl⟩
  obtain ⟨k3, hk3⟩ : ∃ k, x3.length = k := ⟨_, rfl⟩
  rw [hk2, hk3] at H1 H2
  clear hk2 hk3 h
  go_enter Try.func40, Try.ntmps40
  go_wp2_with fail
  refine (H1.out _ Hi.out).mono ?_
  rintro e w1 ⟨v1, u1, rfl, own1, own1', hb1⟩
  obtain ⟨A1, c1, rfl, p1, p1'⟩ := own_form own1
  obtain ⟨B1, d1, rfl, q1, q1'⟩ := own_form own1'
  go_wp2_with fail
  refine (H2.out _ (Hi.out.below hb1)).mono ?_
  rintro e w2 ⟨v2, u2, rfl, own2, own2', hb2⟩
  obtain ⟨A2, c2, rfl, p2, p2'⟩ := own_form own2
  obtain ⟨B2, d2, rfl, q2, q2'⟩ := own_form own2'
  have own1a := own_below own1 hb2
  have own1b := own_below own1' hb2
  have hb2a := below_step hb1 hb2
  clear own1 own1' hb1 hb2
  go_wp2_with fail
  refine (gpulses_eq _ _ _ _ _ _ _ _ (by omega) (own_VR own1a) (own_VR own2)).mono ?_
  rintro e w3 ⟨rfl, hb3⟩
  have own1c := own_below own1b hb3
  have own2c := own_below own2' hb3
  have hb3a := below_step hb2a hb3
  clear own1a own1b own2 own2' hb3 hb2a
  go_wp2_with fail
  refine (givs_eq _ _ _ _ _ _ _ _ (by omega) (own_PR own1c) (own_PR own2c)).mono ?_
  rintro e w4 ⟨rfl, hb4⟩
  go_wp2_with fail
  go_ret
  exact ⟨rfl, below_step hb3a hb4⟩
end Go.Proofs.Ytjlfdkkaljlmjaa
