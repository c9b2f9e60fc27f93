/- Encode of the program and of the reference, for any list. -/
import Derived.Test.YtjlfdkkaljlmjaaDetR2
import Derived.Test.YtjlfdkkaljlmjaaHamR2
import Derived.Test.YtjlfdkkaljlmjaaDetectorLimitsW
namespace Go.Proofs.Ytjlfdkkaljlmjaa
open Go.RowKit
def Det.encR (l : List V3) : List Int := if Det.vErr l = 0 then Ham.encB (Det.vals l) else []
theorem det_ok {l : List V3} (h : Det.vErr l = 0) : l.length ≤ 4096 ∧ Det.vGo l none = 0 ∧ ∀ x ∈ l, Det.okP x = true := by
  unfold Det.vErr at h
  split at h
  · omega
  · exact ⟨by omega, h, Det.vGo_valid l none h⟩
theorem dencode_all (A : Option Addr) (n c : Nat) (l : List V3) (w : World) (hnc : n ≤ c) (hc : c ≤ maxLen) (h : VR w A n l) :
    Calls Try.prog 30 #[.slice A n c] w fun e w' => ∃ v, e = .returned (.tuple #[v, .int .i64 (Det.vErr l)]) ∧ w'.ownsRow w.heap.size 5 1 v (Det.encR l).length ((Det.encR l).map (Value.int .u8)) ∧ Below w.heap.size w w' := by
  by_cases hv : Det.vErr l = 0
  · obtain ⟨h1, h2, h3⟩ := det_ok hv
    rw [Det.encR, if_pos hv, hv]
    exact dencode_c A n c l w hnc hc h hv (Det.vals_range _ l (Nat.le_refl _) h2) h3 (by have := h.len; omega)
  · rw [Det.encR, if_neg hv]
    exact (encode_bad A n c l w (by omega) h _ rfl hv).mono fun _ _ ⟨h1, h2⟩ => ⟨_, h1, World.ownsRow_nil _ _ _ _, h2⟩
set_option maxHeartbeats 1000000 in
theorem rencode_all (A : Option Addr) (n c : Nat) (l : List V3) (w : World) (hnc : n ≤ c) (hc : c ≤ maxLen) (h : VR w A n l) :
    Calls Try.prog 35 #[.slice A n c] w fun e w' => ∃ v, e = .returned (.tuple #[v, .int .i64 (Det.vErr l)]) ∧ w'.ownsRow w.heap.size 5 1 v (Det.encR l).length ((Det.encR l).map (Value.int .u8)) ∧ Below w.heap.size w w' := by
  have hl := h.len
  by_cases hv : Det.vErr l = 0
  · obtain ⟨h1, h2, h3⟩ := det_ok hv
    obtain ⟨G, a1, a2, _⟩ := Det.vals_len _ l (Nat.le_refl _)
    have hall := Ham.vals_ok (Det.vals l) (Det.vals_range _ l (Nat.le_refl _) h2)
    have hpe : Ham.packE (Det.vals l) = 0 := by rw [Ham.packE, if_neg (by omega), if_pos hall]
    have hpb : Ham.packB (Det.vals l) = Ham.encB (Det.vals l) := by rw [Ham.packB, if_neg (by omega), if_pos hall]
    rw [Det.encR, if_pos hv, hv]
    have Hv := Lib.hid hv
    have Hpe := Lib.hid hpe
    have Hpb := Lib.hid hpb
    have hvl : (Det.vals l).length ≤ 65536 := by omega
    obtain ⟨m, hm⟩ : ∃ m, (Det.vals l).length = m := ⟨_, rfl⟩
    rw [hm] at hvl
    have Hm := Lib.hid hm
    clear hv hpe hpb hall a1 a2 hm
    go_enter Try.func35, Try.ntmps35
    go_wp2_with fail
    refine (rvalid4_c A n c l _ (by omega) h).mono ?_
    rintro e w1 ⟨rfl, hb1⟩
    rw [Hv.out]
    go_wp2_with fail
    refine (rvalues_c A n c l _ (by omega) (h.below hb1) h3).mono ?_
    rintro e w2 ⟨v2, rfl, own2, hb2⟩
    rw [Hm.out] at own2
    obtain ⟨A2, c2, rfl, k2, k2'⟩ := own_form own2
    have hb2a := below_step hb1 hb2
    clear hb1 hb2
    go_wp2_with fail
    refine (pack_r A2 m c2 (Det.vals l) _ (by simp only [maxLen]; omega) (own_IR own2)).mono ?_
    rintro e w3 ⟨v3, rfl, own3, hb3⟩
    rw [Hpe.out]
    rw [Hpb.out] at own3
    go_wp2_with fail
    go_ret2
    exact ⟨_, rfl, own_more own3 hb2a.size, below_step hb2a hb3⟩
  · rw [Det.encR, if_neg hv]
    have e2 : (Det.vErr l != 0) = true := by simpa using hv
    clear hv
    go_enter Try.func35, Try.ntmps35
    go_wp2_with fail
    refine (rvalid4_c A n c l _ (by omega) h).mono ?_
    rintro e w1 ⟨rfl, hb1⟩
    go_wp2_with fail
    go_ret2
    exact ⟨_, rfl, World.ownsRow_nil _ _ _ _, hb1⟩
end Go.Proofs.Ytjlfdkkaljlmjaa
