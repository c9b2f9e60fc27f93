/- The walks of consist's and finalsheet's name, and of the reference's Name. -/
import Derived.Test.YtiegpkbollihgaaDoorWG
import Derived.BigGuardPart
namespace Go.Proofs.YtiegpkbollihgaaDoor
open Go.RowKit
def five (c : Nat) : Prop := c < 48 ∨ (48 ≤ c ∧ c ≤ 57) ∨ (57 < c ∧ c < 97) ∨ (97 ≤ c ∧ c ≤ 122) ∨ 122 < c
theorem five_of (c : Nat) : five c := by unfold five; omega
theorem nameOk_bad {s : ByteArray} {k : Nat} (hk : k < s.size) (h : Pl.nameC s[k] = false) : Pl.nameOk s = false := by
  unfold Pl.nameOk
  rw [Bool.and_eq_false_iff]
  right
  rw [Bool.eq_false_iff]
  intro ha
  have := List.all_eq_true.1 ha s[k] (List.getElem_mem (l := s.data.toList) (by simpa using hk))
  rw [h] at this; cases this
theorem nameOk_good {s : ByteArray} (h1 : 1 ≤ s.size) (h2 : s.size ≤ 12) (h : ∀ (k : Nat) (hk : k < s.size), Pl.nameC s[k] = true) : Pl.nameOk s = true := by
  unfold Pl.nameOk
  rw [Bool.and_eq_true, Bool.and_eq_true, decide_eq_true_eq, decide_eq_true_eq]
  refine ⟨⟨h1, h2⟩, List.all_eq_true.2 fun c hc => ?_⟩
  obtain ⟨k, hk, rfl⟩ := List.getElem_of_mem hc
  exact h k (by simpa using hk)
theorem nameOk_size {s : ByteArray} (h : s.size < 1 ∨ 12 < s.size) : Pl.nameOk s = false := by
  unfold Pl.nameOk
  rw [Bool.and_eq_false_iff, Bool.and_eq_false_iff]
  left
  rcases h with h | h
  · left; exact decide_eq_false (by omega)
  · right; exact decide_eq_false (by omega)
set_option maxHeartbeats 1000000 in
theorem cname_c (s : ByteArray) (w : World) (hs : s.size ≤ maxLen) :
    Calls Tryd.prog 84 #[.string s] w fun e w' => e = .returned (.bool (Pl.nameOk s)) ∧ w = w' := by
  unfold maxLen at hs
  go_enter Tryd.func84, Tryd.ntmps84
  go_wp2_with fail
  go_loop [3] (fun i => ∃ k : Nat, k ≤ s.size ∧ i = .int .i64 k ∧ Hid (∀ (j : Nat) (hj : j < s.size), j < k → Pl.nameC s[j] = true)) (fun i => s.size - (intOf i).toNat)
  case atStart => exact ⟨0, by omega, rfl, Lib.hid (fun j hj h => by omega)⟩
  case round =>
    obtain ⟨k, hk, rfl, hall⟩ := hrel
    by_cases hlt : k < s.size
    · obtain ⟨c, hc⟩ : ∃ c, s[k].toNat = c := ⟨_, rfl⟩
      have hC := Lib.hid (show Pl.nameC s[k] = (decide (97 ≤ c) && decide (c ≤ 122) || decide (48 ≤ c) && decide (c ≤ 57)) by rw [← hc]; rfl)
      have h5 := five_of c
      unfold five at h5
      rcases h5 with h5 | h5 | h5 | h5 | h5
      · have e1 : decide ((c : Int) < 97) = true := by simp; omega
        have e1' : decide (c < 97) = true := by simp; omega
        have e3 : decide ((c : Int) < 48) = true := by simp; omega
        have e3' : decide (c < 48) = true := by simp; omega
        have hcf : Pl.nameC s[k] = false := by rw [hC.out]; simp; omega
        have Hn := Lib.hid (nameOk_bad hlt hcf)
        clear hC hcf
        go_wp2_with fail
        go_ret
        exact ⟨retb Hn.out.symm, rfl⟩
      · have e1 : decide ((c : Int) < 97) = true := by simp; omega
        have e1' : decide (c < 97) = true := by simp; omega
        have e3 : decide ((c : Int) < 48) = false := by simp; omega
        have e3' : decide (c < 48) = false := by simp; omega
        have e4 : decide (57 < (c : Int)) = false := by simp; omega
        have e4' : decide (57 < c) = false := by simp; omega
        have hct : Pl.nameC s[k] = true := by rw [hC.out]; simp; omega
        have Ht := Lib.hid hct
        clear hC hct
        go_wp2_with fail
        go_round
        case rel => exact ⟨k + 1, by omega, by go_num, Lib.hid (fun j hj h => by
          rcases Nat.lt_or_ge j k with h' | h'
          · exact hall.out j hj h'
          · obtain rfl : j = k := by omega
            exact Ht.out)⟩
        case measure => simp [intOf]; omega
      · have e1 : decide ((c : Int) < 97) = true := by simp; omega
        have e1' : decide (c < 97) = true := by simp; omega
        have e3 : decide ((c : Int) < 48) = false := by simp; omega
        have e3' : decide (c < 48) = false := by simp; omega
        have e4 : decide (57 < (c : Int)) = true := by simp; omega
        have e4' : decide (57 < c) = true := by simp; omega
        have hcf : Pl.nameC s[k] = false := by rw [hC.out]; simp; omega
        have Hn := Lib.hid (nameOk_bad hlt hcf)
        clear hC hcf
        go_wp2_with fail
        go_ret
        exact ⟨retb Hn.out.symm, rfl⟩
      · have e1 : decide ((c : Int) < 97) = false := by simp; omega
        have e1' : decide (c < 97) = false := by simp; omega
        have e2 : decide (122 < (c : Int)) = false := by simp; omega
        have e2' : decide (122 < c) = false := by simp; omega
        have hct : Pl.nameC s[k] = true := by rw [hC.out]; simp; omega
        have Ht := Lib.hid hct
        clear hC hct
        go_wp2_with fail
        go_round
        case rel => exact ⟨k + 1, by omega, by go_num, Lib.hid (fun j hj h => by
          rcases Nat.lt_or_ge j k with h' | h'
          · exact hall.out j hj h'
          · obtain rfl : j = k := by omega
            exact Ht.out)⟩
        case measure => simp [intOf]; omega
      · have e1 : decide ((c : Int) < 97) = false := by simp; omega
        have e1' : decide (c < 97) = false := by simp; omega
        have e2 : decide (122 < (c : Int)) = true := by simp; omega
        have e2' : decide (122 < c) = true := by simp; omega
        have e3 : decide ((c : Int) < 48) = false := by simp; omega
        have e3' : decide (c < 48) = false := by simp; omega
        have e4 : decide (57 < (c : Int)) = true := by simp; omega
        have e4' : decide (57 < c) = true := by simp; omega
        have hcf : Pl.nameC s[k] = false := by rw [hC.out]; simp; omega
        have Hn := Lib.hid (nameOk_bad hlt hcf)
        clear hC hcf
        go_wp2_with fail
        go_ret
        exact ⟨retb Hn.out.symm, rfl⟩
    · have hall' : ∀ (j : Nat) (hj : j < s.size), Pl.nameC s[j] = true := fun j hj => hall.out j hj (by omega)
      have Hall := Lib.hid hall'
      clear hall'
      by_cases h1 : 1 ≤ s.size
      · have d1 : decide (0 < (s.size : Int)) = true := decide_eq_true (by omega)
        have d1' : decide (0 < s.size) = true := decide_eq_true (by omega)
        have d5 : decide (1 ≤ (s.size : Int)) = true := decide_eq_true (by omega)
        have d5' : decide (1 ≤ s.size) = true := decide_eq_true (by omega)
        by_cases h2 : s.size ≤ 12
        · have Hn := Lib.hid (nameOk_good h1 h2 Hall.out)
          have d2 : decide ((s.size : Int) ≤ 12) = true := by simp; omega
          have d2' : decide (s.size ≤ 12) = true := by simp; omega
          go_wp2_with fail
          go_ret
          exact ⟨retb Hn.out.symm, rfl⟩
        · have Hn := Lib.hid (nameOk_size (s := s) (.inr (by omega)))
          have d2 : decide ((s.size : Int) ≤ 12) = false := by simp; omega
          have d2' : decide (s.size ≤ 12) = false := by simp; omega
          go_wp2_with fail
          go_ret
          exact ⟨retb Hn.out.symm, rfl⟩
      · have Hn := Lib.hid (nameOk_size (s := s) (.inl (by omega)))
        have d1 : decide (0 < (s.size : Int)) = false := decide_eq_false (by omega)
        have d1' : decide (0 < s.size) = false := decide_eq_false (by omega)
        have d5 : decide (1 ≤ (s.size : Int)) = false := decide_eq_false (by omega)
        have d5' : decide (1 ≤ s.size) = false := decide_eq_false (by omega)
        go_wp2_with fail
        go_ret
        exact ⟨retb Hn.out.symm, rfl⟩
set_option maxHeartbeats 1000000 in
theorem fname_c (s : ByteArray) (w : World) (hs : s.size ≤ maxLen) :
    Calls Tryd.prog 39 #[.string s] w fun e w' => e = .returned (.bool (Pl.nameOk s)) ∧ w = w' := by
  unfold maxLen at hs
  go_enter Tryd.func39, Tryd.ntmps39
  go_wp2_with fail
  go_loop [6] (fun i => ∃ k : Nat, k ≤ s.size ∧ i = .int .i64 k ∧ Hid (∀ (j : Nat) (hj : j < s.size), j < k → Pl.nameC s[j] = true)) (fun i => s.size - (intOf i).toNat)
  case atStart => exact ⟨0, by omega, rfl, Lib.hid (fun j hj h => by omega)⟩
  case round =>
    obtain ⟨k, hk, rfl, hall⟩ := hrel
    by_cases hlt : k < s.size
    · obtain ⟨c, hc⟩ : ∃ c, s[k].toNat = c := ⟨_, rfl⟩
      have hC := Lib.hid (show Pl.nameC s[k] = (decide (97 ≤ c) && decide (c ≤ 122) || decide (48 ≤ c) && decide (c ≤ 57)) by rw [← hc]; rfl)
      have h5 := five_of c
      unfold five at h5
      rcases h5 with h5 | h5 | h5 | h5 | h5
      · have e1 : decide ((c : Int) < 97) = true := by simp; omega
        have e1' : decide (c < 97) = true := by simp; omega
        have e3 : decide ((c : Int) < 48) = true := by simp; omega
        have e3' : decide (c < 48) = true := by simp; omega
        have hcf : Pl.nameC s[k] = false := by rw [hC.out]; simp; omega
        have Hn := Lib.hid (nameOk_bad hlt hcf)
        clear hC hcf
        go_wp2_with fail
        go_ret
        exact ⟨retb Hn.out.symm, rfl⟩
      · have e1 : decide ((c : Int) < 97) = true := by simp; omega
        have e1' : decide (c < 97) = true := by simp; omega
        have e3 : decide ((c : Int) < 48) = false := by simp; omega
        have e3' : decide (c < 48) = false := by simp; omega
        have e4 : decide (57 < (c : Int)) = false := by simp; omega
        have e4' : decide (57 < c) = false := by simp; omega
        have hct : Pl.nameC s[k] = true := by rw [hC.out]; simp; omega
        have Ht := Lib.hid hct
        clear hC hct
        go_wp2_with fail
        go_round
        case rel => exact ⟨k + 1, by omega, by go_num, Lib.hid (fun j hj h => by
          rcases Nat.lt_or_ge j k with h' | h'
          · exact hall.out j hj h'
          · obtain rfl : j = k := by omega
            exact Ht.out)⟩
        case measure => simp [intOf]; omega
      · have e1 : decide ((c : Int) < 97) = true := by simp; omega
        have e1' : decide (c < 97) = true := by simp; omega
        have e3 : decide ((c : Int) < 48) = false := by simp; omega
        have e3' : decide (c < 48) = false := by simp; omega
        have e4 : decide (57 < (c : Int)) = true := by simp; omega
        have e4' : decide (57 < c) = true := by simp; omega
        have hcf : Pl.nameC s[k] = false := by rw [hC.out]; simp; omega
        have Hn := Lib.hid (nameOk_bad hlt hcf)
        clear hC hcf
        go_wp2_with fail
        go_ret
        exact ⟨retb Hn.out.symm, rfl⟩
      · have e1 : decide ((c : Int) < 97) = false := by simp; omega
        have e1' : decide (c < 97) = false := by simp; omega
        have e2 : decide (122 < (c : Int)) = false := by simp; omega
        have e2' : decide (122 < c) = false := by simp; omega
        have hct : Pl.nameC s[k] = true := by rw [hC.out]; simp; omega
        have Ht := Lib.hid hct
        clear hC hct
        go_wp2_with fail
        go_round
        case rel => exact ⟨k + 1, by omega, by go_num, Lib.hid (fun j hj h => by
          rcases Nat.lt_or_ge j k with h' | h'
          · exact hall.out j hj h'
          · obtain rfl : j = k := by omega
            exact Ht.out)⟩
        case measure => simp [intOf]; omega
      · have e1 : decide ((c : Int) < 97) = false := by simp; omega
        have e1' : decide (c < 97) = false := by simp; omega
        have e2 : decide (122 < (c : Int)) = true := by simp; omega
        have e2' : decide (122 < c) = true := by simp; omega
        have e3 : decide ((c : Int) < 48) = false := by simp; omega
        have e3' : decide (c < 48) = false := by simp; omega
        have e4 : decide (57 < (c : Int)) = true := by simp; omega
        have e4' : decide (57 < c) = true := by simp; omega
        have hcf : Pl.nameC s[k] = false := by rw [hC.out]; simp; omega
        have Hn := Lib.hid (nameOk_bad hlt hcf)
        clear hC hcf
        go_wp2_with fail
        go_ret
        exact ⟨retb Hn.out.symm, rfl⟩
    · have hall' : ∀ (j : Nat) (hj : j < s.size), Pl.nameC s[j] = true := fun j hj => hall.out j hj (by omega)
      have Hall := Lib.hid hall'
      clear hall'
      by_cases h1 : 1 ≤ s.size
      · have d1 : decide (0 < (s.size : Int)) = true := decide_eq_true (by omega)
        have d1' : decide (0 < s.size) = true := decide_eq_true (by omega)
        have d5 : decide (1 ≤ (s.size : Int)) = true := decide_eq_true (by omega)
        have d5' : decide (1 ≤ s.size) = true := decide_eq_true (by omega)
        by_cases h2 : s.size ≤ 12
        · have Hn := Lib.hid (nameOk_good h1 h2 Hall.out)
          have d2 : decide ((s.size : Int) ≤ 12) = true := by simp; omega
          have d2' : decide (s.size ≤ 12) = true := by simp; omega
          go_wp2_with fail
          go_ret
          exact ⟨retb Hn.out.symm, rfl⟩
        · have Hn := Lib.hid (nameOk_size (s := s) (.inr (by omega)))
          have d2 : decide ((s.size : Int) ≤ 12) = false := by simp; omega
          have d2' : decide (s.size ≤ 12) = false := by simp; omega
          go_wp2_with fail
          go_ret
          exact ⟨retb Hn.out.symm, rfl⟩
      · have Hn := Lib.hid (nameOk_size (s := s) (.inl (by omega)))
        have d1 : decide (0 < (s.size : Int)) = false := decide_eq_false (by omega)
        have d1' : decide (0 < s.size) = false := decide_eq_false (by omega)
        have d5 : decide (1 ≤ (s.size : Int)) = false := decide_eq_false (by omega)
        have d5' : decide (1 ≤ s.size) = false := decide_eq_false (by omega)
        go_wp2_with fail
        go_ret
        exact ⟨retb Hn.out.symm, rfl⟩
set_option maxHeartbeats 1000000 in
theorem name06_c (s : ByteArray) (w : World) (hs : s.size ≤ maxLen) :
    Calls Tryd.prog 41 #[.string s] w fun e w' => e = .returned (.bool (Pl.nameOk s)) ∧ w = w' := by
  unfold maxLen at hs
  go_enter Tryd.func41, Tryd.ntmps41
  go_wp2_with fail
  go_loop [3] (fun i => ∃ k : Nat, k ≤ s.size ∧ i = .int .i64 k ∧ Hid (∀ (j : Nat) (hj : j < s.size), j < k → Pl.nameC s[j] = true)) (fun i => s.size - (intOf i).toNat)
  case atStart => exact ⟨0, by omega, rfl, Lib.hid (fun j hj h => by omega)⟩
  case round =>
    obtain ⟨k, hk, rfl, hall⟩ := hrel
    by_cases hlt : k < s.size
    · obtain ⟨c, hc⟩ : ∃ c, s[k].toNat = c := ⟨_, rfl⟩
      have hC := Lib.hid (show Pl.nameC s[k] = (decide (97 ≤ c) && decide (c ≤ 122) || decide (48 ≤ c) && decide (c ≤ 57)) by rw [← hc]; rfl)
      have h5 := five_of c
      unfold five at h5
      rcases h5 with h5 | h5 | h5 | h5 | h5
      · have e1 : decide (97 ≤ (c : Int)) = false := by simp; omega
        have e1' : decide (97 ≤ c) = false := by simp; omega
        have e3 : decide (48 ≤ (c : Int)) = false := by simp; omega
        have e3' : decide (48 ≤ c) = false := by simp; omega
        have hcf : Pl.nameC s[k] = false := by rw [hC.out]; simp; omega
        have Hn := Lib.hid (nameOk_bad hlt hcf)
        clear hC hcf
        go_wp2_with fail
        go_ret
        exact ⟨retb Hn.out.symm, rfl⟩
      · have e1 : decide (97 ≤ (c : Int)) = false := by simp; omega
        have e1' : decide (97 ≤ c) = false := by simp; omega
        have e3 : decide (48 ≤ (c : Int)) = true := by simp; omega
        have e3' : decide (48 ≤ c) = true := by simp; omega
        have e4 : decide ((c : Int) ≤ 57) = true := by simp; omega
        have e4' : decide (c ≤ 57) = true := by simp; omega
        have hct : Pl.nameC s[k] = true := by rw [hC.out]; simp; omega
        have Ht := Lib.hid hct
        clear hC hct
        go_wp2_with fail
        go_round
        case rel => exact ⟨k + 1, by omega, by go_num, Lib.hid (fun j hj h => by
          rcases Nat.lt_or_ge j k with h' | h'
          · exact hall.out j hj h'
          · obtain rfl : j = k := by omega
            exact Ht.out)⟩
        case measure => simp [intOf]; omega
      · have e1 : decide (97 ≤ (c : Int)) = false := by simp; omega
        have e1' : decide (97 ≤ c) = false := by simp; omega
        have e3 : decide (48 ≤ (c : Int)) = true := by simp; omega
        have e3' : decide (48 ≤ c) = true := by simp; omega
        have e4 : decide ((c : Int) ≤ 57) = false := by simp; omega
        have e4' : decide (c ≤ 57) = false := by simp; omega
        have hcf : Pl.nameC s[k] = false := by rw [hC.out]; simp; omega
        have Hn := Lib.hid (nameOk_bad hlt hcf)
        clear hC hcf
        go_wp2_with fail
        go_ret
        exact ⟨retb Hn.out.symm, rfl⟩
      · have e1 : decide (97 ≤ (c : Int)) = true := by simp; omega
        have e1' : decide (97 ≤ c) = true := by simp; omega
        have e2 : decide ((c : Int) ≤ 122) = true := by simp; omega
        have e2' : decide (c ≤ 122) = true := by simp; omega
        have hct : Pl.nameC s[k] = true := by rw [hC.out]; simp; omega
        have Ht := Lib.hid hct
        clear hC hct
        go_wp2_with fail
        go_round
        case rel => exact ⟨k + 1, by omega, by go_num, Lib.hid (fun j hj h => by
          rcases Nat.lt_or_ge j k with h' | h'
          · exact hall.out j hj h'
          · obtain rfl : j = k := by omega
            exact Ht.out)⟩
        case measure => simp [intOf]; omega
      · have e1 : decide (97 ≤ (c : Int)) = true := by simp; omega
        have e1' : decide (97 ≤ c) = true := by simp; omega
        have e2 : decide ((c : Int) ≤ 122) = false := by simp; omega
        have e2' : decide (c ≤ 122) = false := by simp; omega
        have e3 : decide (48 ≤ (c : Int)) = true := by simp; omega
        have e3' : decide (48 ≤ c) = true := by simp; omega
        have e4 : decide ((c : Int) ≤ 57) = false := by simp; omega
        have e4' : decide (c ≤ 57) = false := by simp; omega
        have hcf : Pl.nameC s[k] = false := by rw [hC.out]; simp; omega
        have Hn := Lib.hid (nameOk_bad hlt hcf)
        clear hC hcf
        go_wp2_with fail
        go_ret
        exact ⟨retb Hn.out.symm, rfl⟩
    · have hall' : ∀ (j : Nat) (hj : j < s.size), Pl.nameC s[j] = true := fun j hj => hall.out j hj (by omega)
      have Hall := Lib.hid hall'
      clear hall'
      by_cases h1 : 1 ≤ s.size
      · have d1 : decide (1 ≤ (s.size : Int)) = true := by simp; omega
        by_cases h2 : s.size ≤ 12
        · have Hn := Lib.hid (nameOk_good h1 h2 Hall.out)
          have d2 : decide ((s.size : Int) ≤ 12) = true := by simp; omega
          have d2' : decide (s.size ≤ 12) = true := by simp; omega
          go_wp2_with fail
          go_ret
          exact ⟨retb Hn.out.symm, rfl⟩
        · have Hn := Lib.hid (nameOk_size (s := s) (.inr (by omega)))
          have d2 : decide ((s.size : Int) ≤ 12) = false := by simp; omega
          have d2' : decide (s.size ≤ 12) = false := by simp; omega
          go_wp2_with fail
          go_ret
          exact ⟨retb Hn.out.symm, rfl⟩
      · have Hn := Lib.hid (nameOk_size (s := s) (.inl (by omega)))
        have d1 : decide (1 ≤ (s.size : Int)) = false := by simp; omega
        go_wp2_with fail
        go_ret
        exact ⟨retb Hn.out.symm, rfl⟩
end Go.Proofs.YtiegpkbollihgaaDoor
