/- The walk of plant's number. -/
import Derived.Test.YtkkpkekkaoccbaaDoorPlN1
namespace Go.Proofs.YtkkpkekkaoccbaaDoor
open Go.RowKit
theorem numR_bad {s : ByteArray} (h : numOk s.data.toList = false) : numR s = (0, false) := by unfold numR; rw [if_neg (by rw [h]; decide)]
theorem numR_good {s : ByteArray} (h : numOk s.data.toList = true) : numR s = (numV s.data.toList, true) := by unfold numR; rw [if_pos h]
def NumberR (s : ByteArray) (w : World) (e : Ending) (w' : World) : Prop := e = .returned (.tuple #[.int .i64 ((numR s).1 : Int), .bool ((numR s).2 && decide ((numR s).1 ≤ 1000000))]) ∧ w = w'
theorem NumberR.bad {s : ByteArray} {w : World} (h : numOk s.data.toList = false) : NumberR s w (.returned (.tuple #[.int .i64 0, .bool false])) w := by
  unfold NumberR
  rw [numR_bad h]
  exact ⟨rfl, rfl⟩
theorem NumberR.good {s : ByteArray} {w : World} {v : Nat} {b : Bool} (h : numOk s.data.toList = true) (hv : numV s.data.toList = v) (hb : b = decide (v ≤ 1000000)) : NumberR s w (.returned (.tuple #[.int .i64 (v : Int), .bool b])) w := by
  unfold NumberR
  rw [numR_good h, hv, hb]
  exact ⟨rfl, rfl⟩
set_option maxRecDepth 100000 in
set_option maxHeartbeats 4000000 in
theorem number_c (s : ByteArray) (w : World) (hs : s.size ≤ maxLen) :
    Calls Tryd.prog 44 #[.string s] w (NumberR s w) := by
  unfold maxLen at hs
  by_cases h0 : s.size = 0
  · have hE := isEmpty_zero h0
    have HB := Lib.hid (NumberR.bad (w := w) (numOk_size (.inl h0)))
    go_enter Tryd.func44, Tryd.ntmps44
    go_wp2_with fail
    go_ret2
    exact HB.out
  · have hpos : 0 < s.size := by omega
    have hE := isEmpty_of hpos
    by_cases h7 : 7 < s.size
    · have d1 : decide (7 < (s.size : Int)) = true := by simp; omega
      have d1' : decide (7 < s.size) = true := by simp; omega
      have HB := Lib.hid (NumberR.bad (w := w) (numOk_size (.inr h7)))
      go_enter Tryd.func44, Tryd.ntmps44
      go_wp2_with fail
      go_ret2
      exact HB.out
    · have d1 : decide (7 < (s.size : Int)) = false := by simp; omega
      have d1' : decide (7 < s.size) = false := by simp; omega
      have hcs : (s[0].toNat = 48 ∧ 1 < s.size) ∨ (s[0].toNat = 48 ∧ s.size = 1) ∨ s[0].toNat ≠ 48 := by omega
      have hlead : (s[0].toNat = 48 ∧ 1 < s.size) ∨ Hid (∀ h : 0 < s.size, s[0].toNat = 48 → s.size = 1) := by
        rcases hcs with h | h | h
        · exact .inl h
        · exact .inr (Lib.hid fun _ _ => h.2)
        · exact .inr (Lib.hid fun _ e => absurd e h)
      rcases hlead with ⟨hz, hz1⟩ | hlead
      · have e0 : ((s[0].toNat : Int) == 48) = true := by simp; omega
        have e1 := not48 hz1
        have HB := Lib.hid (NumberR.bad (w := w) (numOk_lead hz1 hz))
        clear hz hz1 hcs
        go_enter Tryd.func44, Tryd.ntmps44
        go_wp2_with fail
        go_ret2
        exact HB.out
      · have hway : (((s[0].toNat : Int) == 48) = true ∧ (s.toList == [48]) = true) ∨ (((s[0].toNat : Int) == 48) = false) := by
          by_cases h48 : s[0].toNat = 48
          · exact .inl ⟨by simp; omega, is48 (hlead.out hpos h48) h48⟩
          · exact .inr (by simp; omega)
        clear hcs
        rcases hway with ⟨e0, e1⟩ | e0
        all_goals
          go_enter Tryd.func44, Tryd.ntmps44
          go_wp2_with fail
          go_loop [4, 24] (fun v i => ∃ k : Nat, k ≤ s.size ∧ i = .int .i64 k ∧ Hid (NumS s k) ∧ ∃ n : Nat, n < 10000000 ∧ v = .int .i64 (n : Int) ∧ Hid (numV (s.data.toList.take k) = n)) (fun _ i => s.size - (intOf i).toNat)
          case atStart => exact ⟨0, by omega, rfl, Lib.hid (by intro c hc; simp at hc), 0, by omega, rfl, Lib.hid rfl⟩
          case round =>
            obtain ⟨k, hk, rfl, hN, n, hn, rfl, hv⟩ := hrel
            by_cases hlt : k < s.size
            · obtain ⟨c, hc⟩ : ∃ c, s[k].toNat = c := ⟨_, rfl⟩
              have hC := Lib.hid (show digC s[k] = (decide (48 ≤ c) && decide (c ≤ 57)) by rw [← hc]; rfl)
              have hSt := Lib.hid (show numV (s.data.toList.take (k + 1)) = 10 * n + (c - 48) by rw [numV_step hlt, hv.out, hc])
              have h3 := three_of c
              unfold three at h3
              rcases h3 with h3 | h3 | h3
              · have g1 : decide ((c : Int) < 48) = true := by simp; omega
                have g1' : decide (c < 48) = true := by simp; omega
                have HB := Lib.hid (NumberR.bad (w := w) (NumS.bad hlt (by rw [hC.out]; simp; omega)))
                go_wp2_with fail
                go_ret2
                exact HB.out
              · have g1 : decide ((c : Int) < 48) = false := by simp; omega
                have g1' : decide (c < 48) = false := by simp; omega
                have g2 : decide (57 < (c : Int)) = false := by simp; omega
                have g2' : decide (57 < c) = false := by simp; omega
                have hN' := Lib.hid (hN.out.step hlt (by rw [hC.out]; simp; omega))
                have hsm := numV_small _ hN'.out (by simp; omega)
                rw [hSt.out] at hsm
                go_wp2_with fail
                go_round
                case rel => exact ⟨k + 1, by omega, by go_num, hN', 10 * n + (c - 48), hsm, vint (by omega), hSt⟩
                case measure => simp [intOf]; omega
              · have g1 : decide ((c : Int) < 48) = false := by simp; omega
                have g1' : decide (c < 48) = false := by simp; omega
                have g2 : decide (57 < (c : Int)) = true := by simp; omega
                have g2' : decide (57 < c) = true := by simp; omega
                have HB := Lib.hid (NumberR.bad (w := w) (NumS.bad hlt (by rw [hC.out]; simp; omega)))
                go_wp2_with fail
                go_ret2
                exact HB.out
            · obtain rfl : k = s.size := by omega
              have hok := Lib.hid (numOk_good (by omega) (by omega) hlead.out hN.out)
              have hvv : Hid (numV s.data.toList = n) := Lib.hid (by have := hv.out; rwa [List.take_of_length_le (by simp)] at this)
              go_wp2_with fail
              go_ret2
              exact NumberR.good hok.out hvv.out (by simp; omega)
end Go.Proofs.YtkkpkekkaoccbaaDoor
