/- What the laws of layer 4 share: 'sane'. -/
import Derived.Test.YtjlfdkkaljlmjaaDetW4
import Derived.Test.YtjlfdkkaljlmjaaGenSame
import Derived.RegionTactic
import Derived.BigRegion
namespace Go.Proofs.Ytjlfdkkaljlmjaa
open Go.RowKit
namespace Det
def L1 : List V3 := [⟨2, 5, 1⟩]
def B1 : List Int := [192, 12, 0, 0, 0, 0, 0, 90, 129, 77, 0, 0]
def B2 : List Int := [192, 12, 3, 0, 0, 0, 0, 90, 129, 77, 0, 0]
theorem s_enc : Ham.encB (vals L1) = B1 := by decide +kernel
theorem s_val : vals L1 = [1537, 0, 0, 5, 1029, 0] := by decide +kernel
theorem s_err : vErr L1 = 0 := by decide +kernel
theorem s_decE : decE B1 = 0 := by decide +kernel
theorem s_decP : decP B1 = L1 := by kernel_rfl
theorem s_decG : decG B1 = [] := by decide +kernel
theorem s_decE2 : decE B2 = 0 := by decide +kernel
theorem s_decP2 : decP B2 = [] := by kernel_rfl
theorem s_decG2 : decG B2 = [(0, 5)] := by decide +kernel
theorem s_range1 : ∀ x ∈ B1, 0 ≤ x ∧ x < 256 := by decide +kernel
theorem s_range2 : ∀ x ∈ B2, 0 ≤ x ∧ x < 256 := by decide +kernel
theorem s_set : B1.set 2 3 = B2 := by decide +kernel
end Det
theorem VR.new {w : World} {cs : Array Value} {t : TypeId} (l : List V3) (n : Nat) (hl : l.length = n) (h : cs.toList = flat3 l) (hm : n ≤ maxLen) : VR (w.alloc (.cells cs t)) (some ⟨w.heap.size, 0, none⟩) n l := by
  have hs : cs.size = n * 3 := by
    have := congrArg List.length h
    rw [flat3_len] at this
    simp at this
    omega
  have h2 := World.ownsRow_lit (base := 0) (e := t) (size := 3) w cs n (Nat.zero_le _) hm hs
  rw [h] at h2
  exact own_VR h2
theorem PR.new {w : World} {cs : Array Value} {t : TypeId} (l : List (Int × Int)) (n : Nat) (hl : l.length = n) (h : cs.toList = flat2 l) (hm : n ≤ maxLen) : PR (w.alloc (.cells cs t)) (some ⟨w.heap.size, 0, none⟩) n l := by
  have hs : cs.size = n * 2 := by
    have := congrArg List.length h
    rw [flat2_len] at this
    simp at this
    omega
  have h2 := World.ownsRow_lit (base := 0) (e := t) (size := 2) w cs n (Nat.zero_le _) hm hs
  rw [h] at h2
  exact own_PR h2
theorem s_encode (A : Option Addr) (c : Nat) (w : World) (hnc : 1 ≤ c) (hc : c ≤ maxLen) (h : VR w A 1 Det.L1) :
    Calls Try.prog 30 #[.slice A 1 c] w fun e w' => ∃ v, e = .returned (.tuple #[v, .int .i64 0]) ∧ w'.ownsRow w.heap.size 5 1 v 12 (Det.B1.map (Value.int .u8)) ∧ Below w.heap.size w w' := by
  refine (dencode_c A 1 c Det.L1 w hnc hc h Det.s_err (by rw [Det.s_val]; decide) (by simp [Det.L1, Det.okP]) (by omega)).mono fun e w' ⟨v, h1, h2, h3⟩ => ⟨v, h1, ?_, h3⟩
  rw [Det.s_enc] at h2
  exact h2
theorem s_decode (A : Option Addr) (c : Nat) (w : World) (h : IR .u8 w A 12 Det.B1) :
    Calls Try.prog 33 #[.slice A 12 c] w fun e w' => ∃ v u, e = .returned (.tuple #[v, u, .int .i64 0]) ∧ w'.ownsRow w.heap.size 41 3 v 1 (flat3 Det.L1) ∧ w'.ownsRow w.heap.size 67 2 u 0 [] ∧ Below w.heap.size w w' := by
  refine (ddecode_c A 12 c Det.B1 w (by decide) h Det.s_range1).mono fun e w' ⟨v, u, h1, h2, h3, h4⟩ => ⟨v, u, by rw [h1, Det.s_decE], ?_, ?_, h4⟩
  · rw [Det.s_decP] at h2; exact h2
  · rw [Det.s_decG] at h3; exact h3
theorem s_decode2 (A : Option Addr) (c : Nat) (w : World) (h : IR .u8 w A 12 Det.B2) :
    Calls Try.prog 33 #[.slice A 12 c] w fun e w' => ∃ v u, e = .returned (.tuple #[v, u, .int .i64 0]) ∧ w'.ownsRow w.heap.size 41 3 v 0 [] ∧ w'.ownsRow w.heap.size 67 2 u 1 (flat2 [(0, 5)]) ∧ Below w.heap.size w w' := by
  refine (ddecode_c A 12 c Det.B2 w (by decide) h Det.s_range2).mono fun e w' ⟨v, u, h1, h2, h3, h4⟩ => ⟨v, u, by rw [h1, Det.s_decE2], ?_, ?_, h4⟩
  · rw [Det.s_decP2] at h2; exact h2
  · rw [Det.s_decG2] at h3; exact h3
set_option maxRecDepth 100000 in
set_option maxHeartbeats 2000000 in
theorem sane04_c (w : World) : Calls Try.prog 32 #[] w fun e w' => e = .returned (.bool true) ∧ Below w.heap.size w w' := by
  go_enter Try.func32, Try.ntmps32
  go_wp2_with fail
  have hvl := VR.new (w := w) (cs := #[.int .i64 2, .int .i64 5, .int .i64 1]) (t := 41) Det.L1 1 rfl rfl (by decide)
  have hb0 := (Below.refl w.heap.size w).alloc (Nat.le_refl _) (.cells #[.int .i64 2, .int .i64 5, .int .i64 1] 41)
  generalize (w.alloc (.cells #[.int .i64 2, .int .i64 5, .int .i64 1] 41)) = w0 at hvl hb0 ⊢
  refine (s_encode _ _ _ (by omega) (by decide) hvl).mono ?_
  rintro e w1 ⟨v1, rfl, own1, hb1⟩
  obtain ⟨g, cap, rfl, hbg, hgl⟩ := own1.form (by omega)
  go_wp2_with fail
  refine (s_decode _ _ _ (own_IR own1)).mono ?_
  rintro e w2 ⟨v2, u2, rfl, own2, own2', hb2⟩
  have hap := apart_old own1 own2 (Nat.le_refl _)
  obtain ⟨A2, c2, rfl, k2, k2'⟩ := own_form own2
  obtain ⟨B2, d2, rfl, _, _⟩ := own_form own2'
  have own1a := own_below own1 hb2
  have hbw2 := below_step hb1 hb2
  have hcell : w2.cell? ⟨g, 2, none⟩ = some (.int .u8 0) := own_cell own1a (j := 2) (by omega)
  have hfz := own1a.frozenAt 2
  have own1b := own_set own1a (j := 2) 3
  rw [Det.s_set] at own1b
  have own2b := own_set_other own2 (g := g) (j := 2) (by
    rcases hap.symm with ha | ha
    · rw [ha]; simp
    · exact ha) (.int .u8 3)
  have hbw3 := Below.setCell hbw2 (p := ⟨g, 2, none⟩) hbg (.int .u8 3)
  have hx : bits .xor .u8 0 3 = 3 := by decide
  clear own1 hb2 hb1 own1a own2 hbw2 own2'
  go_wp2_with fail
  generalize w2.setCell ⟨g, 2, none⟩ (.int .u8 3) = w3 at own1b own2b hbw3 ⊢
  clear hcell hfz hx
  refine (s_decode2 _ _ _ (own_IR own1b)).mono ?_
  rintro e w4 ⟨v4, u4, rfl, own4, own4', hb4⟩
  obtain ⟨A4, c4, rfl, _, _⟩ := own_form own4
  obtain ⟨B4, d4, rfl, l4, l4'⟩ := own_form own4'
  have own2c := own_below own2b hb4
  have hbw4 := below_step hbw3 hb4
  clear own1b own2b hbw3 hb4 own4
  go_wp2_with fail
  refine (gpulses_eq _ _ _ _ _ _ _ _ (by decide) (own_VR own2c) (hvl.below hbw4)).mono ?_
  rintro e w5 ⟨rfl, hb5⟩
  have own4b := own_below own4' hb5
  have hbw5 := below_step hbw4 hb5
  clear own2c hb5 hbw4 own4'
  go_wp2_with fail
  have hpn := PR.new (w := w5) (cs := #[.int .i64 0, .int .i64 5]) (t := 67) [(0, 5)] 1 rfl rfl (by decide)
  refine (givs_eq _ _ _ _ _ _ _ _ (by decide) (own_PR (own4b.alloc _)) hpn).mono ?_
  rintro e w6 ⟨rfl, hb6⟩
  have hbw6 := below_step (hbw5.alloc hbw5.size (.cells #[.int .i64 0, .int .i64 5] 67)) hb6
  clear hb6 hbw5 own4b hpn
  go_wp2_with fail
  go_ret
  exact ⟨rfl, below_step hb0 hbw6⟩
end Go.Proofs.Ytjlfdkkaljlmjaa
