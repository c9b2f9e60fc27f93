/- The walks of a sheet's words and numbers, program and reference. -/
import Derived.Test.YtiegpkbollihgaaDoorFnText2
import Derived.Test.YtiegpkbollihgaaDoorLyLib
namespace Go.Proofs.YtiegpkbollihgaaDoor
open Go.RowKit
def numOk (l : List UInt8) : Bool := decide (1 ≤ l.length) && decide (l.length ≤ 7) && !(decide (l.headD 0 = 48) && decide (1 < l.length)) && l.all digC
theorem numV_small (l : List UInt8) (h : ∀ c ∈ l, digC c = true) (h7 : l.length ≤ 7) : numV l < 10000000 :=
  Nat.lt_of_lt_of_le (numV_lt l h) (Nat.le_trans (Nat.pow_le_pow_right (by decide) h7) (by decide))
def three (c : Nat) : Prop := c < 48 ∨ (48 ≤ c ∧ c ≤ 57) ∨ 57 < c
theorem three_of (c : Nat) : three c := by unfold three; omega
/-- What the loop of a number does: the digits read so far. -/
def NumS (s : ByteArray) (k : Nat) : Prop := ∀ c ∈ s.data.toList.take k, digC c = true
theorem NumS.step {s : ByteArray} {k : Nat} (h : NumS s k) (hk : k < s.size) (hd : digC s[k] = true) : NumS s (k + 1) := by
  intro c hc
  have hk' : k < s.data.toList.length := by simpa using hk
  rw [List.take_succ_eq_append_getElem hk'] at hc
  rcases List.mem_append.1 hc with hc | hc
  · exact h c hc
  · simp at hc
    subst hc
    exact hd
theorem numV_step {s : ByteArray} {k : Nat} (hk : k < s.size) : numV (s.data.toList.take (k + 1)) = 10 * numV (s.data.toList.take k) + (s[k].toNat - 48) := by
  have hk' : k < s.data.toList.length := by simpa using hk
  rw [List.take_succ_eq_append_getElem hk', numV_snoc]
  rfl
theorem NumS.bad {s : ByteArray} {k : Nat} (hk : k < s.size) (hd : digC s[k] = false) : numOk s.data.toList = false := by
  unfold numOk
  rw [Bool.and_eq_false_iff]
  right
  rw [Bool.eq_false_iff]
  intro ha
  have hk' : k < s.data.toList.length := by simpa using hk
  have := List.all_eq_true.1 ha _ (List.getElem_mem hk')
  rw [show s.data.toList[k] = s[k] from rfl, hd] at this
  cases this
def numR (s : ByteArray) : Nat × Bool := if numOk s.data.toList = true then (numV s.data.toList, true) else (0, false)
theorem head_of {s : ByteArray} (h : 0 < s.size) : s.data.toList.headD 0 = s[0] := by
  have hk' : 0 < s.data.toList.length := by simpa using h
  rw [List.headD_eq_head?_getD, List.head?_eq_getElem?, List.getElem?_eq_getElem hk']
  rfl
theorem numOk_good {s : ByteArray} (h1 : 1 ≤ s.size) (h7 : s.size ≤ 7) (h0 : ∀ h : 0 < s.size, s[0].toNat = 48 → s.size = 1) (hd : NumS s s.size) : numOk s.data.toList = true := by
  have hl : s.data.toList.length = s.size := by simp
  unfold numOk
  rw [head_of (by omega), hl]
  simp only [Bool.and_eq_true, decide_eq_true_eq, Bool.not_eq_true', Bool.and_eq_false_iff, decide_eq_false_iff_not]
  refine ⟨⟨⟨h1, h7⟩, ?_⟩, List.all_eq_true.2 fun c hc => hd c (by rw [List.take_of_length_le (by simp)]; exact hc)⟩
  by_cases e : s[0] = 48
  · right
    have := h0 (by omega) (by rw [e]; rfl)
    omega
  · exact .inl e
theorem numOk_lead {s : ByteArray} (h1 : 1 < s.size) (h0 : s[0].toNat = 48) : numOk s.data.toList = false := by
  have hl : s.data.toList.length = s.size := by simp
  have e : s[0] = 48 := UInt8.toNat_inj.1 h0
  unfold numOk
  rw [head_of (by omega), hl, e]
  simp
  omega
theorem numOk_size {s : ByteArray} (h : s.size = 0 ∨ 7 < s.size) : numOk s.data.toList = false := by
  have hl : s.data.toList.length = s.size := by simp
  unfold numOk
  rw [hl]
  rcases h with h | h
  · simp [h]
  · rw [decide_eq_false (show ¬ s.size ≤ 7 by omega)]; simp
theorem isEmpty_of {s : ByteArray} (h : 0 < s.size) : s.toList.isEmpty = false := by
  rw [Lib.toList_data]
  cases hs : s.data.toList with
  | nil => have : s.data.toList.length = s.size := by simp
           rw [hs] at this; simp at this; omega
  | cons a r => rfl
theorem isEmpty_zero {s : ByteArray} (h : s.size = 0) : s.toList.isEmpty = true := by
  rw [Lib.toList_data, List.isEmpty_iff]
  exact List.eq_nil_of_length_eq_zero (by simpa using h)
theorem is48 {s : ByteArray} (h : s.size = 1) (h0 : s[0].toNat = 48) : (s.toList == [48]) = true := by
  have e : s[0] = 48 := UInt8.toNat_inj.1 h0
  rw [Lib.toList_data, beq_iff_eq]
  refine List.ext_getElem (by simpa using h) fun i h1 h2 => ?_
  simp at h2
  subst h2
  exact e
theorem not48 {s : ByteArray} (h : 1 < s.size) : (s.toList == [48]) = false := by
  rw [Lib.toList_data, beq_eq_false_iff_ne]
  intro e
  have := congrArg List.length e
  simp at this
  omega
theorem numR_bad {s : ByteArray} (h : numOk s.data.toList = false) : numR s = (0, false) := by unfold numR; rw [if_neg (by rw [h]; decide)]
theorem numR_good {s : ByteArray} (h : numOk s.data.toList = true) : numR s = (numV s.data.toList, true) := by unfold numR; rw [if_pos h]
def RNumberR (s : ByteArray) (w : World) (e : Ending) (w' : World) : Prop := e = .returned (.tuple #[.int .i64 ((numR s).1 : Int), .bool (numR s).2]) ∧ w = w'
theorem RNumberR.bad {s : ByteArray} {w : World} (h : numOk s.data.toList = false) : RNumberR s w (.returned (.tuple #[.int .i64 0, .bool false])) w := by
  unfold RNumberR
  rw [numR_bad h]
  exact ⟨rfl, rfl⟩
theorem RNumberR.good {s : ByteArray} {w : World} {v : Nat} (h : numOk s.data.toList = true) (hv : numV s.data.toList = v) : RNumberR s w (.returned (.tuple #[.int .i64 (v : Int), .bool true])) w := by
  unfold RNumberR
  rw [numR_good h, hv]
  exact ⟨rfl, rfl⟩
set_option maxRecDepth 100000 in
set_option maxHeartbeats 4000000 in
theorem rnumber_c (s : ByteArray) (w : World) (hs : s.size ≤ maxLen) :
    Calls Tryd.prog 64 #[.string s, .int .i64 7] w (RNumberR s w) := by
  unfold maxLen at hs
  by_cases h0 : s.size = 0
  · have hE := isEmpty_zero h0
    have HB := Lib.hid (RNumberR.bad (w := w) (numOk_size (.inl h0)))
    go_enter Tryd.func64, Tryd.ntmps64
    go_wp2_with fail
    go_ret2
    exact HB.out
  · have hpos : 0 < s.size := by omega
    have hE := isEmpty_of hpos
    by_cases h7 : 7 < s.size
    · have d1 : decide (7 < (s.size : Int)) = true := by simp; omega
      have d1' : decide (7 < s.size) = true := by simp; omega
      have HB := Lib.hid (RNumberR.bad (w := w) (numOk_size (.inr h7)))
      go_enter Tryd.func64, Tryd.ntmps64
      go_wp2_with fail
      go_ret2
      exact HB.out
    · have d1 : decide (7 < (s.size : Int)) = false := by simp; omega
      have d1' : decide (7 < s.size) = false := by simp; omega
      have hcs : (s[0].toNat = 48 ∧ 1 < s.size) ∨ (s[0].toNat = 48 ∧ s.size = 1) ∨ s[0].toNat ≠ 48 := by omega
      have hlead : (s[0].toNat = 48 ∧ 1 < s.size) ∨ Hid (∀ h : 0 < s.size, s[0].toNat = 48 → s.size = 1) := by
        rcases hcs with h | h | h
        · exact .inl h
        · exact .inr (Lib.hid fun _ _ => h.2)
        · exact .inr (Lib.hid fun _ e => absurd e h)
      rcases hlead with ⟨hz, hz1⟩ | hlead
      · have e0 : ((s[0].toNat : Int) == 48) = true := by simp; omega
        have e1 : decide (1 < (s.size : Int)) = true := by simp; omega
        have e1' : decide (1 < s.size) = true := by simp; omega
        have HB := Lib.hid (RNumberR.bad (w := w) (numOk_lead hz1 hz))
        clear hz hz1 hcs
        go_enter Tryd.func64, Tryd.ntmps64
        go_wp2_with fail
        go_ret2
        exact HB.out
      · have hway : (((s[0].toNat : Int) == 48) = true ∧ decide (1 < (s.size : Int)) = false ∧ decide (1 < s.size) = false) ∨ (((s[0].toNat : Int) == 48) = false) := by
          by_cases h48 : s[0].toNat = 48
          · exact .inl ⟨by simp; omega, by have := hlead.out hpos h48; simp; omega, by have := hlead.out hpos h48; simp; omega⟩
          · exact .inr (by simp; omega)
        clear hcs
        rcases hway with ⟨e0, e1, e1'⟩ | e0
        all_goals
          go_enter Tryd.func64, Tryd.ntmps64
          go_wp2_with fail
          go_loop [6, 7] (fun v i => ∃ k : Nat, k ≤ s.size ∧ i = .int .i64 k ∧ Hid (NumS s k) ∧ ∃ n : Nat, n < 10000000 ∧ v = .int .i64 (n : Int) ∧ Hid (numV (s.data.toList.take k) = n)) (fun _ i => s.size - (intOf i).toNat)
          case atStart => exact ⟨0, by omega, rfl, Lib.hid (by intro c hc; simp at hc), 0, by omega, rfl, Lib.hid rfl⟩
          case round =>
            obtain ⟨k, hk, rfl, hN, n, hn, rfl, hv⟩ := hrel
            by_cases hlt : k < s.size
            · obtain ⟨c, hc⟩ : ∃ c, s[k].toNat = c := ⟨_, rfl⟩
              have hC := Lib.hid (show digC s[k] = (decide (48 ≤ c) && decide (c ≤ 57)) by rw [← hc]; rfl)
              have hSt := Lib.hid (show numV (s.data.toList.take (k + 1)) = 10 * n + (c - 48) by rw [numV_step hlt, hv.out, hc])
              have h3 := three_of c
              unfold three at h3
              rcases h3 with h3 | h3 | h3
              · have g1 : decide ((c : Int) < 48) = true := by simp; omega
                have g1' : decide (c < 48) = true := by simp; omega
                have HB := Lib.hid (RNumberR.bad (w := w) (NumS.bad hlt (by rw [hC.out]; simp; omega)))
                go_wp2_with fail
                go_ret2
                exact HB.out
              · have g1 : decide ((c : Int) < 48) = false := by simp; omega
                have g1' : decide (c < 48) = false := by simp; omega
                have g2 : decide (57 < (c : Int)) = false := by simp; omega
                have g2' : decide (57 < c) = false := by simp; omega
                have hN' := Lib.hid (hN.out.step hlt (by rw [hC.out]; simp; omega))
                have hsm := numV_small _ hN'.out (by simp; omega)
                rw [hSt.out] at hsm
                go_wp2_with fail
                go_round
                case rel => exact ⟨k + 1, by omega, by go_num, hN', 10 * n + (c - 48), hsm, vint (by omega), hSt⟩
                case measure => simp [intOf]; omega
              · have g1 : decide ((c : Int) < 48) = false := by simp; omega
                have g1' : decide (c < 48) = false := by simp; omega
                have g2 : decide (57 < (c : Int)) = true := by simp; omega
                have g2' : decide (57 < c) = true := by simp; omega
                have HB := Lib.hid (RNumberR.bad (w := w) (NumS.bad hlt (by rw [hC.out]; simp; omega)))
                go_wp2_with fail
                go_ret2
                exact HB.out
            · obtain rfl : k = s.size := by omega
              have hok := Lib.hid (numOk_good (by omega) (by omega) hlead.out hN.out)
              have hvv : Hid (numV s.data.toList = n) := Lib.hid (by have := hv.out; rwa [List.take_of_length_le (by simp)] at this)
              go_wp2_with fail
              go_ret2
              exact RNumberR.good hok.out hvv.out
set_option maxRecDepth 100000 in
set_option maxHeartbeats 4000000 in
theorem fnumber_c (s : ByteArray) (w : World) (hs : s.size ≤ maxLen) :
    Calls Tryd.prog 63 #[.string s] w (RNumberR s w) := by
  unfold maxLen at hs
  by_cases h0 : s.size = 0
  · have hE := isEmpty_zero h0
    have HB := Lib.hid (RNumberR.bad (w := w) (numOk_size (.inl h0)))
    go_enter Tryd.func63, Tryd.ntmps63
    go_wp2_with fail
    go_ret2
    exact HB.out
  · have hpos : 0 < s.size := by omega
    have hE := isEmpty_of hpos
    by_cases h7 : 7 < s.size
    · have d1 : decide (7 < (s.size : Int)) = true := by simp; omega
      have d1' : decide (7 < s.size) = true := by simp; omega
      have HB := Lib.hid (RNumberR.bad (w := w) (numOk_size (.inr h7)))
      go_enter Tryd.func63, Tryd.ntmps63
      go_wp2_with fail
      go_ret2
      exact HB.out
    · have d1 : decide (7 < (s.size : Int)) = false := by simp; omega
      have d1' : decide (7 < s.size) = false := by simp; omega
      have hcs : (s[0].toNat = 48 ∧ 1 < s.size) ∨ (s[0].toNat = 48 ∧ s.size = 1) ∨ s[0].toNat ≠ 48 := by omega
      have hlead : (s[0].toNat = 48 ∧ 1 < s.size) ∨ Hid (∀ h : 0 < s.size, s[0].toNat = 48 → s.size = 1) := by
        rcases hcs with h | h | h
        · exact .inl h
        · exact .inr (Lib.hid fun _ _ => h.2)
        · exact .inr (Lib.hid fun _ e => absurd e h)
      rcases hlead with ⟨hz, hz1⟩ | hlead
      · have e0 : ((s[0].toNat : Int) == 48) = true := by simp; omega
        have e1 := not48 hz1
        have HB := Lib.hid (RNumberR.bad (w := w) (numOk_lead hz1 hz))
        clear hz hz1 hcs
        go_enter Tryd.func63, Tryd.ntmps63
        go_wp2_with fail
        go_ret2
        exact HB.out
      · have hway : (((s[0].toNat : Int) == 48) = true ∧ (s.toList == [48]) = true) ∨ (((s[0].toNat : Int) == 48) = false) := by
          by_cases h48 : s[0].toNat = 48
          · exact .inl ⟨by simp; omega, is48 (hlead.out hpos h48) h48⟩
          · exact .inr (by simp; omega)
        clear hcs
        rcases hway with ⟨e0, e1⟩ | e0
        all_goals
          go_enter Tryd.func63, Tryd.ntmps63
          go_wp2_with fail
          go_loop [4, 24] (fun v i => ∃ k : Nat, k ≤ s.size ∧ i = .int .i64 k ∧ Hid (NumS s k) ∧ ∃ n : Nat, n < 10000000 ∧ v = .int .i64 (n : Int) ∧ Hid (numV (s.data.toList.take k) = n)) (fun _ i => s.size - (intOf i).toNat)
          case atStart => exact ⟨0, by omega, rfl, Lib.hid (by intro c hc; simp at hc), 0, by omega, rfl, Lib.hid rfl⟩
          case round =>
            obtain ⟨k, hk, rfl, hN, n, hn, rfl, hv⟩ := hrel
            by_cases hlt : k < s.size
            · obtain ⟨c, hc⟩ : ∃ c, s[k].toNat = c := ⟨_, rfl⟩
              have hC := Lib.hid (show digC s[k] = (decide (48 ≤ c) && decide (c ≤ 57)) by rw [← hc]; rfl)
              have hSt := Lib.hid (show numV (s.data.toList.take (k + 1)) = 10 * n + (c - 48) by rw [numV_step hlt, hv.out, hc])
              have h3 := three_of c
              unfold three at h3
              rcases h3 with h3 | h3 | h3
              · have g1 : decide ((c : Int) < 48) = true := by simp; omega
                have g1' : decide (c < 48) = true := by simp; omega
                have HB := Lib.hid (RNumberR.bad (w := w) (NumS.bad hlt (by rw [hC.out]; simp; omega)))
                go_wp2_with fail
                go_ret2
                exact HB.out
              · have g1 : decide ((c : Int) < 48) = false := by simp; omega
                have g1' : decide (c < 48) = false := by simp; omega
                have g2 : decide (57 < (c : Int)) = false := by simp; omega
                have g2' : decide (57 < c) = false := by simp; omega
                have hN' := Lib.hid (hN.out.step hlt (by rw [hC.out]; simp; omega))
                have hsm := numV_small _ hN'.out (by simp; omega)
                rw [hSt.out] at hsm
                go_wp2_with fail
                go_round
                case rel => exact ⟨k + 1, by omega, by go_num, hN', 10 * n + (c - 48), hsm, vint (by omega), hSt⟩
                case measure => simp [intOf]; omega
              · have g1 : decide ((c : Int) < 48) = false := by simp; omega
                have g1' : decide (c < 48) = false := by simp; omega
                have g2 : decide (57 < (c : Int)) = true := by simp; omega
                have g2' : decide (57 < c) = true := by simp; omega
                have HB := Lib.hid (RNumberR.bad (w := w) (NumS.bad hlt (by rw [hC.out]; simp; omega)))
                go_wp2_with fail
                go_ret2
                exact HB.out
            · obtain rfl : k = s.size := by omega
              have hok := Lib.hid (numOk_good (by omega) (by omega) hlead.out hN.out)
              have hvv : Hid (numV s.data.toList = n) := Lib.hid (by have := hv.out; rwa [List.take_of_length_le (by simp)] at this)
              go_wp2_with fail
              go_ret2
              exact RNumberR.good hok.out hvv.out
theorem nOk_eq (l : List UInt8) : Fn.nOk l = numOk l := rfl

theorem plainW_bad {s : ByteArray} {k : Nat} (hk : k < s.size) (h : Fn.plainC s[k] = false) : Fn.plainW s.data.toList = false := by
  unfold Fn.plainW
  rw [Bool.and_eq_false_iff]
  left
  rw [Bool.eq_false_iff]
  intro ha
  have := List.all_eq_true.1 ha s[k] (List.getElem_mem (l := s.data.toList) (by simpa using hk))
  rw [h] at this; cases this
theorem plainW_good {s : ByteArray} (h0 : 0 < s.size) (h : ∀ (k : Nat) (hk : k < s.size), Fn.plainC s[k] = true) : Fn.plainW s.data.toList = true := by
  unfold Fn.plainW
  rw [Bool.and_eq_true]
  refine ⟨List.all_eq_true.2 fun c hc => ?_, ?_⟩
  · obtain ⟨k, hk, rfl⟩ := List.getElem_of_mem hc
    exact h k (by simpa using hk)
  · have := isEmpty_of h0
    rw [Lib.toList_data] at this
    rw [this]; rfl
theorem plainW_nil {s : ByteArray} (h0 : s.size = 0) : Fn.plainW s.data.toList = false := by
  have := isEmpty_zero h0
  rw [Lib.toList_data] at this
  unfold Fn.plainW
  rw [this, Bool.and_comm]
  rfl
set_option maxHeartbeats 1000000 in
theorem plain_c (s : ByteArray) (w : World) (hs : s.size ≤ maxLen) :
    Calls Tryd.prog 47 #[.string s] w fun e w' => e = .returned (.bool (Fn.plainW s.data.toList)) ∧ w = w' := by
  unfold maxLen at hs
  go_enter Tryd.func47, Tryd.ntmps47
  go_wp2_with fail
  go_loop [6] (fun i => ∃ k : Nat, k ≤ s.size ∧ i = .int .i64 k ∧ Hid (∀ (j : Nat) (hj : j < s.size), j < k → Fn.plainC s[j] = true)) (fun i => s.size - (intOf i).toNat)
  case atStart => exact ⟨0, by omega, rfl, Lib.hid (fun j hj h => by omega)⟩
  case round =>
    obtain ⟨k, hk, rfl, hall⟩ := hrel
    by_cases hlt : k < s.size
    · obtain ⟨c, hc⟩ : ∃ c, s[k].toNat = c := ⟨_, rfl⟩
      have hC := Lib.hid (show Fn.plainC s[k] = (decide (33 ≤ c) && decide (c ≤ 126)) by rw [← hc]; rfl)
      have h3 : c < 33 ∨ (33 ≤ c ∧ c ≤ 126) ∨ 126 < c := by omega
      rcases h3 with h3 | h3 | h3
      · have e1 : decide ((c : Int) < 33) = true := decide_eq_true (by omega)
        have e1' : decide (c < 33) = true := decide_eq_true h3
        have Hn := Lib.hid (plainW_bad hlt (by rw [hC.out]; simp; omega))
        clear hC
        go_wp2_with fail
        go_ret
        exact ⟨retb Hn.out.symm, rfl⟩
      · have e1 : decide ((c : Int) < 33) = false := decide_eq_false (by omega)
        have e1' : decide (c < 33) = false := decide_eq_false (by omega)
        have e2 : decide (126 < (c : Int)) = false := decide_eq_false (by omega)
        have e2' : decide (126 < c) = false := decide_eq_false (by omega)
        have Ht : Hid (Fn.plainC s[k] = true) := Lib.hid (by rw [hC.out]; simp; omega)
        clear hC
        go_wp2_with fail
        go_round
        case rel => exact ⟨k + 1, by omega, by go_num, Lib.hid (fun j hj h => by
          rcases Nat.lt_or_ge j k with h' | h'
          · exact hall.out j hj h'
          · obtain rfl : j = k := by omega
            exact Ht.out)⟩
        case measure => simp [intOf]; omega
      · have e1 : decide ((c : Int) < 33) = false := decide_eq_false (by omega)
        have e1' : decide (c < 33) = false := decide_eq_false (by omega)
        have e2 : decide (126 < (c : Int)) = true := decide_eq_true (by omega)
        have e2' : decide (126 < c) = true := decide_eq_true h3
        have Hn := Lib.hid (plainW_bad hlt (by rw [hC.out]; simp; omega))
        clear hC
        go_wp2_with fail
        go_ret
        exact ⟨retb Hn.out.symm, rfl⟩
    · by_cases h0 : s.size = 0
      · have hE := isEmpty_zero h0
        have Hn := Lib.hid (plainW_nil h0)
        go_wp2_with fail
        go_ret
        exact ⟨retb Hn.out.symm, rfl⟩
      · have hE := isEmpty_of (s := s) (by omega)
        have Hn := Lib.hid (plainW_good (s := s) (by omega) (fun j hj => hall.out j hj (by omega)))
        go_wp2_with fail
        go_ret
        exact ⟨retb Hn.out.symm, rfl⟩
set_option maxHeartbeats 1000000 in
theorem word_c (s : ByteArray) (w : World) (hs : s.size ≤ maxLen) :
    Calls Tryd.prog 51 #[.string s] w fun e w' => e = .returned (.bool (Fn.plainW s.data.toList)) ∧ w = w' := by
  unfold maxLen at hs
  go_enter Tryd.func51, Tryd.ntmps51
  go_wp2_with fail
  go_loop [3] (fun i => ∃ k : Nat, k ≤ s.size ∧ i = .int .i64 k ∧ Hid (∀ (j : Nat) (hj : j < s.size), j < k → Fn.plainC s[j] = true)) (fun i => s.size - (intOf i).toNat)
  case atStart => exact ⟨0, by omega, rfl, Lib.hid (fun j hj h => by omega)⟩
  case round =>
    obtain ⟨k, hk, rfl, hall⟩ := hrel
    by_cases hlt : k < s.size
    · obtain ⟨c, hc⟩ : ∃ c, s[k].toNat = c := ⟨_, rfl⟩
      have hC := Lib.hid (show Fn.plainC s[k] = (decide (33 ≤ c) && decide (c ≤ 126)) by rw [← hc]; rfl)
      have h3 : c < 33 ∨ (33 ≤ c ∧ c ≤ 126) ∨ 126 < c := by omega
      rcases h3 with h3 | h3 | h3
      · have e1 : decide ((c : Int) < 33) = true := decide_eq_true (by omega)
        have e1' : decide (c < 33) = true := decide_eq_true h3
        have Hn := Lib.hid (plainW_bad hlt (by rw [hC.out]; simp; omega))
        clear hC
        go_wp2_with fail
        go_ret
        exact ⟨retb Hn.out.symm, rfl⟩
      · have e1 : decide ((c : Int) < 33) = false := decide_eq_false (by omega)
        have e1' : decide (c < 33) = false := decide_eq_false (by omega)
        have e2 : decide (126 < (c : Int)) = false := decide_eq_false (by omega)
        have e2' : decide (126 < c) = false := decide_eq_false (by omega)
        have Ht : Hid (Fn.plainC s[k] = true) := Lib.hid (by rw [hC.out]; simp; omega)
        clear hC
        go_wp2_with fail
        go_round
        case rel => exact ⟨k + 1, by omega, by go_num, Lib.hid (fun j hj h => by
          rcases Nat.lt_or_ge j k with h' | h'
          · exact hall.out j hj h'
          · obtain rfl : j = k := by omega
            exact Ht.out)⟩
        case measure => simp [intOf]; omega
      · have e1 : decide ((c : Int) < 33) = false := decide_eq_false (by omega)
        have e1' : decide (c < 33) = false := decide_eq_false (by omega)
        have e2 : decide (126 < (c : Int)) = true := decide_eq_true (by omega)
        have e2' : decide (126 < c) = true := decide_eq_true h3
        have Hn := Lib.hid (plainW_bad hlt (by rw [hC.out]; simp; omega))
        clear hC
        go_wp2_with fail
        go_ret
        exact ⟨retb Hn.out.symm, rfl⟩
    · by_cases h0 : s.size = 0
      · have hE := isEmpty_zero h0
        have Hn := Lib.hid (plainW_nil h0)
        go_wp2_with fail
        go_ret
        exact ⟨retb Hn.out.symm, rfl⟩
      · have hE := isEmpty_of (s := s) (by omega)
        have Hn := Lib.hid (plainW_good (s := s) (by omega) (fun j hj => hall.out j hj (by omega)))
        go_wp2_with fail
        go_ret
        exact ⟨retb Hn.out.symm, rfl⟩
end Go.Proofs.YtiegpkbollihgaaDoor
