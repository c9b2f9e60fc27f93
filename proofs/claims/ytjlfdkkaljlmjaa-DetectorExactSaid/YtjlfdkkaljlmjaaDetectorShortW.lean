/- The walk of 'DetectorShort'; Encode at a made list. -/
import Derived.Test.YtjlfdkkaljlmjaaDetS
import Derived.Test.YtjlfdkkaljlmjaaDetLaws
namespace Go.Proofs.Ytjlfdkkaljlmjaa
open Go.RowKit
theorem encode_made (A : Option Addr) (n c : Nat) (l : List V3) (w : World) (hnc : n ≤ c) (hc : c ≤ maxLen) (h : VR w A n l) (hm : Det.vGo l none = 0) (hn4 : n ≤ 4096) :
    Calls Try.prog 30 #[.slice A n c] w fun e w' => ∃ v, e = .returned (.tuple #[v, .int .i64 0]) ∧ w'.ownsRow w.heap.size 5 1 v (2 * (Det.vals l).length) ((Ham.encB (Det.vals l)).map (Value.int .u8)) ∧ Below w.heap.size w w' := by
  have hl := h.len
  refine (dencode_c A n c l w hnc hc h (Det.vErr_of hm (by omega)) (Det.vals_range _ l (Nat.le_refl _) hm) (Det.vGo_valid l none hm) hn4).mono fun e w' ⟨v, h1, h2, h3⟩ => ⟨v, h1, ?_, h3⟩
  rwa [Ham.encB_len] at h2
set_option linter.unusedVariables false in
set_option maxRecDepth 100000 in
set_option maxHeartbeats 2000000 in
theorem walk_DetectorShort (a0 : Option Addr) (len0 cap0 : Nat) (z0 : List Int) (w : World) (w0 : IsRow .i64 w a0 len0 cap0 z0) :
    Calls Try.prog 14 #[.slice a0 len0 cap0] w fun e w' => e = .returned (.bool true) ∧ Below w.heap.size w w' := by
  obtain ⟨r0, m0, _⟩ := w0.reads
  clear w0
  generalize z0.take len0 = l0 at r0
  go_enter Try.func14, Try.ntmps14
  go_wp2_with fail
  refine (new_c _ _ _ _ _ m0 r0).mono ?_
  rintro e w1 ⟨rfl, hm1, hb1, hz1⟩
  go_wp2_with fail
  refine (pulses_c w.heap.size w.heap.size 0 40 w1 hm1 (by omega) (by omega)).mono ?_
  rintro e w2 ⟨v2, l, c', rfl, own2, hl40, hmade, _, hm2, hg2⟩
  have hb2 := hb1.trans (grown_below hg2 hb1.size (Nat.le_refl _))
  obtain ⟨A2, c2, rfl, k2, k2'⟩ := own_form own2
  clear hm1 hz1 hm2 hg2 hb1
  obtain ⟨G, g1, g2, g3⟩ := Det.vals_len _ l (Nat.le_refl _)
  have hok := hmade.ok
  have Hok := Lib.hid hok
  clear hok hmade
  obtain ⟨n, hn⟩ : ∃ n, l.length = n := ⟨_, rfl⟩
  rw [hn] at own2 hl40 k2 g1 g2 g3 ⊢
  clear hn
  go_wp2_with fail
  refine (encode_made _ n _ l _ k2 k2' (own_VR own2) Hok.out (by omega)).mono ?_
  rintro e w3 ⟨v3, rfl, own3, hb3⟩
  obtain ⟨A3, c3, rfl, _, _⟩ := own_form own3
  have hb3a := below_step hb2 hb3
  obtain ⟨m, hm⟩ : ∃ m, (Det.vals l).length = m := ⟨_, rfl⟩
  rw [hm] at own3 g1 ⊢
  have hB1 : decide (2 * (m : Int) ≤ 12 * (n : Int)) = true := by simp; omega
  have hB2 : decide (4 * (n : Int) + 8 * (((n : Int) + 7) / 8) ≤ 2 * (m : Int)) = true := by simp; omega
  clear hm own3 own2 hb3 hb2
  go_wp2_with fail
  refine (sane04_c _).mono ?_
  rintro e w4 ⟨rfl, hb4⟩
  go_wp2_with fail
  go_ret
  exact ⟨rfl, below_step hb3a hb4⟩
end Go.Proofs.Ytjlfdkkaljlmjaa
