/- The walks of the numbers of wagons. -/
import Derived.Test.YtocohkgdkebmdaaGreatWG
import Derived.BigGuardPart
namespace Go.Proofs.YtocohkgdkebmdaaGreat
open Go.RowKit
def five (c : Nat) : Prop := c < 48 ∨ (48 ≤ c ∧ c ≤ 57) ∨ (57 < c ∧ c < 97) ∨ (97 ≤ c ∧ c ≤ 122) ∨ 122 < c
theorem five_of (c : Nat) : five c := by unfold five; omega
theorem nameOk_bad {s : ByteArray} {k : Nat} (hk : k < s.size) (h : Pl.nameC s[k] = false) : Pl.nameOk s = false := by
  unfold Pl.nameOk
  rw [Bool.and_eq_false_iff]
  right
  rw [Bool.eq_false_iff]
  intro ha
  have := List.all_eq_true.1 ha s[k] (List.getElem_mem (l := s.data.toList) (by simpa using hk))
  rw [h] at this; cases this
theorem nameOk_good {s : ByteArray} (h1 : 1 ≤ s.size) (h2 : s.size ≤ 12) (h : ∀ (k : Nat) (hk : k < s.size), Pl.nameC s[k] = true) : Pl.nameOk s = true := by
  unfold Pl.nameOk
  rw [Bool.and_eq_true, Bool.and_eq_true, decide_eq_true_eq, decide_eq_true_eq]
  refine ⟨⟨h1, h2⟩, List.all_eq_true.2 fun c hc => ?_⟩
  obtain ⟨k, hk, rfl⟩ := List.getElem_of_mem hc
  exact h k (by simpa using hk)
theorem nameOk_size {s : ByteArray} (h : s.size < 1 ∨ 12 < s.size) : Pl.nameOk s = false := by
  unfold Pl.nameOk
  rw [Bool.and_eq_false_iff, Bool.and_eq_false_iff]
  left
  rcases h with h | h
  · left; exact decide_eq_false (by omega)
  · right; exact decide_eq_false (by omega)
set_option maxHeartbeats 1000000 in
theorem cname_c (s : ByteArray) (w : World) (hs : s.size ≤ maxLen) :
    Calls Tryz.prog 45 #[.string s] w fun e w' => e = .returned (.bool (Pl.nameOk s)) ∧ w = w' := by
  unfold maxLen at hs
  go_enter Tryz.func45, Tryz.ntmps45
  go_wp2_with fail
  go_loop [3] (fun i => ∃ k : Nat, k ≤ s.size ∧ i = .int .i64 k ∧ Hid (∀ (j : Nat) (hj : j < s.size), j < k → Pl.nameC s[j] = true)) (fun i => s.size - (intOf i).toNat)
  case atStart => exact ⟨0, by omega, rfl, Lib.hid (fun j hj h => by omega)⟩
  case round =>
    obtain ⟨k, hk, rfl, hall⟩ := hrel
    by_cases hlt : k < s.size
    · obtain ⟨c, hc⟩ : ∃ c, s[k].toNat = c := ⟨_, rfl⟩
      have hC := Lib.hid (show Pl.nameC s[k] = (decide (97 ≤ c) && decide (c ≤ 122) || decide (48 ≤ c) && decide (c ≤ 57)) by rw [← hc]; rfl)
      have h5 := five_of c
      unfold five at h5
      rcases h5 with h5 | h5 | h5 | h5 | h5
      · have e1 : decide ((c : Int) < 97) = true := by simp; omega
        have e1' : decide (c < 97) = true := by simp; omega
        have e3 : decide ((c : Int) < 48) = true := by simp; omega
        have e3' : decide (c < 48) = true := by simp; omega
        have hcf : Pl.nameC s[k] = false := by rw [hC.out]; simp; omega
        have Hn := Lib.hid (nameOk_bad hlt hcf)
        clear hC hcf
        go_wp2_with fail
        go_ret
        exact ⟨retb Hn.out.symm, rfl⟩
      · have e1 : decide ((c : Int) < 97) = true := by simp; omega
        have e1' : decide (c < 97) = true := by simp; omega
        have e3 : decide ((c : Int) < 48) = false := by simp; omega
        have e3' : decide (c < 48) = false := by simp; omega
        have e4 : decide (57 < (c : Int)) = false := by simp; omega
        have e4' : decide (57 < c) = false := by simp; omega
        have hct : Pl.nameC s[k] = true := by rw [hC.out]; simp; omega
        have Ht := Lib.hid hct
        clear hC hct
        go_wp2_with fail
        go_round
        case rel => exact ⟨k + 1, by omega, by go_num, Lib.hid (fun j hj h => by
          rcases Nat.lt_or_ge j k with h' | h'
          · exact hall.out j hj h'
          · obtain rfl : j = k := by omega
            exact Ht.out)⟩
        case measure => simp [intOf]; omega
      · have e1 : decide ((c : Int) < 97) = true := by simp; omega
        have e1' : decide (c < 97) = true := by simp; omega
        have e3 : decide ((c : Int) < 48) = false := by simp; omega
        have e3' : decide (c < 48) = false := by simp; omega
        have e4 : decide (57 < (c : Int)) = true := by simp; omega
        have e4' : decide (57 < c) = true := by simp; omega
        have hcf : Pl.nameC s[k] = false := by rw [hC.out]; simp; omega
        have Hn := Lib.hid (nameOk_bad hlt hcf)
        clear hC hcf
        go_wp2_with fail
        go_ret
        exact ⟨retb Hn.out.symm, rfl⟩
      · have e1 : decide ((c : Int) < 97) = false := by simp; omega
        have e1' : decide (c < 97) = false := by simp; omega
        have e2 : decide (122 < (c : Int)) = false := by simp; omega
        have e2' : decide (122 < c) = false := by simp; omega
        have hct : Pl.nameC s[k] = true := by rw [hC.out]; simp; omega
        have Ht := Lib.hid hct
        clear hC hct
        go_wp2_with fail
        go_round
        case rel => exact ⟨k + 1, by omega, by go_num, Lib.hid (fun j hj h => by
          rcases Nat.lt_or_ge j k with h' | h'
          · exact hall.out j hj h'
          · obtain rfl : j = k := by omega
            exact Ht.out)⟩
        case measure => simp [intOf]; omega
      · have e1 : decide ((c : Int) < 97) = false := by simp; omega
        have e1' : decide (c < 97) = false := by simp; omega
        have e2 : decide (122 < (c : Int)) = true := by simp; omega
        have e2' : decide (122 < c) = true := by simp; omega
        have e3 : decide ((c : Int) < 48) = false := by simp; omega
        have e3' : decide (c < 48) = false := by simp; omega
        have e4 : decide (57 < (c : Int)) = true := by simp; omega
        have e4' : decide (57 < c) = true := by simp; omega
        have hcf : Pl.nameC s[k] = false := by rw [hC.out]; simp; omega
        have Hn := Lib.hid (nameOk_bad hlt hcf)
        clear hC hcf
        go_wp2_with fail
        go_ret
        exact ⟨retb Hn.out.symm, rfl⟩
    · have hall' : ∀ (j : Nat) (hj : j < s.size), Pl.nameC s[j] = true := fun j hj => hall.out j hj (by omega)
      have Hall := Lib.hid hall'
      clear hall'
      by_cases h1 : 1 ≤ s.size
      · have d1 : decide (0 < (s.size : Int)) = true := decide_eq_true (by omega)
        have d1' : decide (0 < s.size) = true := decide_eq_true (by omega)
        have d5 : decide (1 ≤ (s.size : Int)) = true := decide_eq_true (by omega)
        have d5' : decide (1 ≤ s.size) = true := decide_eq_true (by omega)
        by_cases h2 : s.size ≤ 12
        · have Hn := Lib.hid (nameOk_good h1 h2 Hall.out)
          have d2 : decide ((s.size : Int) ≤ 12) = true := by simp; omega
          have d2' : decide (s.size ≤ 12) = true := by simp; omega
          go_wp2_with fail
          go_ret
          exact ⟨retb Hn.out.symm, rfl⟩
        · have Hn := Lib.hid (nameOk_size (s := s) (.inr (by omega)))
          have d2 : decide ((s.size : Int) ≤ 12) = false := by simp; omega
          have d2' : decide (s.size ≤ 12) = false := by simp; omega
          go_wp2_with fail
          go_ret
          exact ⟨retb Hn.out.symm, rfl⟩
      · have Hn := Lib.hid (nameOk_size (s := s) (.inl (by omega)))
        have d1 : decide (0 < (s.size : Int)) = false := decide_eq_false (by omega)
        have d1' : decide (0 < s.size) = false := decide_eq_false (by omega)
        have d5 : decide (1 ≤ (s.size : Int)) = false := decide_eq_false (by omega)
        have d5' : decide (1 ≤ s.size) = false := decide_eq_false (by omega)
        go_wp2_with fail
        go_ret
        exact ⟨retb Hn.out.symm, rfl⟩
end Go.Proofs.YtocohkgdkebmdaaGreat
namespace Go.Proofs.YtocohkgdkebmdaaGreat
open Go.RowKit
theorem digs_bad {s : ByteArray} {k : Nat} (hk : k < s.size) (h : digC s[k] = false) : Fn.digs s.data.toList = false := by
  unfold Fn.digs
  rw [Bool.eq_false_iff]
  intro ha
  have := List.all_eq_true.1 ha s[k] (List.getElem_mem (l := s.data.toList) (by simpa using hk))
  rw [h] at this; cases this
theorem digs_good {s : ByteArray} (h : ∀ (k : Nat) (hk : k < s.size), digC s[k] = true) : Fn.digs s.data.toList = true := by
  unfold Fn.digs
  refine List.all_eq_true.2 fun c hc => ?_
  obtain ⟨k, hk, rfl⟩ := List.getElem_of_mem hc
  exact h k (by simpa using hk)
theorem digs_at {s : ByteArray} (h : Fn.digs s.data.toList = true) {k : Nat} (hk : k < s.size) : 48 ≤ s[k].toNat ∧ s[k].toNat ≤ 57 := by
  have := List.all_eq_true.1 h s[k] (List.getElem_mem (l := s.data.toList) (by simpa using hk))
  unfold digC at this
  simpa using this
theorem dAt_eq {s : ByteArray} {k : Nat} (hk : k < s.size) : Fn.dAt s.data.toList k = s[k].toNat - 48 := by
  unfold Fn.dAt
  have hk' : k < s.data.toList.length := by simpa using hk
  rw [List.getD_eq_getElem?_getD, List.getElem?_eq_getElem hk']
  rfl
theorem sumTo_le {s : ByteArray} (h : Fn.digs s.data.toList = true) : ∀ k, k ≤ s.size → Fn.sumTo s.data.toList k ≤ 9 * k := by
  intro k
  induction k with
  | zero => intro _; exact Nat.le_refl _
  | succ k ih =>
    intro hk
    have h1 := ih (by omega)
    have h2 := digs_at h (k := k) (by omega)
    have h3 : Fn.dv (decide (k % 2 = 0)) (Fn.dAt s.data.toList k) ≤ 9 := by
      rw [dAt_eq (by omega)]
      unfold Fn.dv
      split
      · split <;> omega
      · omega
    rw [Fn.sumTo]
    omega
set_option maxHeartbeats 1000000 in
theorem wdigits_c (s : ByteArray) (n : Nat) (w : World) (hs : s.size ≤ maxLen) :
    Calls Tryz.prog 84 #[.string s, .int .i64 (n : Int)] w fun e w' => e = .returned (.bool (decide (s.size = n) && Fn.digs s.data.toList)) ∧ w = w' := by
  unfold maxLen at hs
  go_enter Tryz.func84, Tryz.ntmps84
  go_wp2_with fail
  go_loop [5] (fun i => ∃ k : Nat, k ≤ s.size ∧ i = .int .i64 k ∧ Hid (∀ (j : Nat) (hj : j < s.size), j < k → digC s[j] = true)) (fun i => s.size - (intOf i).toNat)
  case atStart => exact ⟨0, by omega, rfl, Lib.hid (fun j hj h => by omega)⟩
  case round =>
    obtain ⟨k, hk, rfl, hall⟩ := hrel
    by_cases hlt : k < s.size
    · obtain ⟨c, hc⟩ : ∃ c, s[k].toNat = c := ⟨_, rfl⟩
      have hC := Lib.hid (show digC s[k] = (decide (48 ≤ c) && decide (c ≤ 57)) by rw [← hc]; rfl)
      have h3 : c < 48 ∨ (48 ≤ c ∧ c ≤ 57) ∨ 57 < c := by omega
      rcases h3 with h3 | h3 | h3
      · have e1 : decide ((c : Int) < 48) = true := decide_eq_true (by omega)
        have e1' : decide (c < 48) = true := decide_eq_true h3
        have hcf : digC s[k] = false := by rw [hC.out]; simp; omega
        have Hn := Lib.hid (show (decide (s.size = n) && Fn.digs s.data.toList) = false by rw [digs_bad hlt hcf, Bool.and_false])
        clear hC hcf
        go_wp2_with fail
        go_ret
        exact ⟨retb Hn.out.symm, rfl⟩
      · have e1 : decide ((c : Int) < 48) = false := decide_eq_false (by omega)
        have e1' : decide (c < 48) = false := decide_eq_false (by omega)
        have e2 : decide (57 < (c : Int)) = false := decide_eq_false (by omega)
        have e2' : decide (57 < c) = false := decide_eq_false (by omega)
        have hct : digC s[k] = true := by rw [hC.out]; simp; omega
        have Ht := Lib.hid hct
        clear hC hct
        go_wp2_with fail
        go_round
        case rel => exact ⟨k + 1, by omega, by go_num, Lib.hid (fun j hj h => by
          rcases Nat.lt_or_ge j k with h' | h'
          · exact hall.out j hj h'
          · obtain rfl : j = k := by omega
            exact Ht.out)⟩
        case measure => simp [intOf]; omega
      · have e1 : decide ((c : Int) < 48) = false := decide_eq_false (by omega)
        have e1' : decide (c < 48) = false := decide_eq_false (by omega)
        have e2 : decide (57 < (c : Int)) = true := decide_eq_true (by omega)
        have e2' : decide (57 < c) = true := decide_eq_true h3
        have hcf : digC s[k] = false := by rw [hC.out]; simp; omega
        have Hn := Lib.hid (show (decide (s.size = n) && Fn.digs s.data.toList) = false by rw [digs_bad hlt hcf, Bool.and_false])
        clear hC hcf
        go_wp2_with fail
        go_ret
        exact ⟨retb Hn.out.symm, rfl⟩
    · have hall' : Fn.digs s.data.toList = true := digs_good (fun j hj => hall.out j hj (by omega))
      have Hall := Lib.hid hall'
      clear hall'
      have Hn := Lib.hid (show (decide (s.size = n) && Fn.digs s.data.toList) = ((s.size : Int) == (n : Int)) by
        rw [Hall.out, Bool.and_true, Bool.eq_iff_iff, decide_eq_true_eq, beq_iff_eq]; omega)
      go_wp2_with fail
      go_ret
      exact ⟨retb Hn.out.symm, rfl⟩
set_option maxHeartbeats 1000000 in
theorem rdigits_c (s : ByteArray) (n : Nat) (w : World) (hs : s.size ≤ maxLen) :
    Calls Tryz.prog 68 #[.string s, .int .i64 (n : Int)] w fun e w' => e = .returned (.bool (decide (s.size = n) && Fn.digs s.data.toList)) ∧ w = w' := by
  unfold maxLen at hs
  by_cases hn : s.size = n
  case neg =>
    have d0 : ((s.size : Int) != (n : Int)) = true := by simp; omega
    have Hr := Lib.hid (show (decide (s.size = n) && Fn.digs s.data.toList) = false by rw [decide_eq_false hn]; rfl)
    clear hn
    go_enter Tryz.func68, Tryz.ntmps68
    go_wp2_with fail
    go_ret
    exact ⟨retb Hr.out.symm, rfl⟩
  have d0 : ((s.size : Int) != (n : Int)) = false := by simp; omega
  subst hn
  go_enter Tryz.func68, Tryz.ntmps68
  go_wp2_with fail
  go_loop [5] (fun i => ∃ k : Nat, k ≤ s.size ∧ i = .int .i64 k ∧ Hid (∀ (j : Nat) (hj : j < s.size), j < k → digC s[j] = true)) (fun i => s.size - (intOf i).toNat)
  case atStart => exact ⟨0, by omega, rfl, Lib.hid (fun j hj h => by omega)⟩
  case round =>
    obtain ⟨k, hk, rfl, hall⟩ := hrel
    by_cases hlt : k < s.size
    · obtain ⟨c, hc⟩ : ∃ c, s[k].toNat = c := ⟨_, rfl⟩
      have hC := Lib.hid (show digC s[k] = (decide (48 ≤ c) && decide (c ≤ 57)) by rw [← hc]; rfl)
      have h3 : c < 48 ∨ (48 ≤ c ∧ c ≤ 57) ∨ 57 < c := by omega
      rcases h3 with h3 | h3 | h3
      · have e1 : decide ((c : Int) < 48) = true := decide_eq_true (by omega)
        have e1' : decide (c < 48) = true := decide_eq_true h3
        have hcf : digC s[k] = false := by rw [hC.out]; simp; omega
        have Hn := Lib.hid (show (decide (s.size = s.size) && Fn.digs s.data.toList) = false by rw [digs_bad hlt hcf, Bool.and_false])
        clear hC hcf
        go_wp2_with fail
        go_ret
        exact ⟨retb Hn.out.symm, rfl⟩
      · have e1 : decide ((c : Int) < 48) = false := decide_eq_false (by omega)
        have e1' : decide (c < 48) = false := decide_eq_false (by omega)
        have e2 : decide (57 < (c : Int)) = false := decide_eq_false (by omega)
        have e2' : decide (57 < c) = false := decide_eq_false (by omega)
        have hct : digC s[k] = true := by rw [hC.out]; simp; omega
        have Ht := Lib.hid hct
        clear hC hct
        go_wp2_with fail
        go_round
        case rel => exact ⟨k + 1, by omega, by go_num, Lib.hid (fun j hj h => by
          rcases Nat.lt_or_ge j k with h' | h'
          · exact hall.out j hj h'
          · obtain rfl : j = k := by omega
            exact Ht.out)⟩
        case measure => simp [intOf]; omega
      · have e1 : decide ((c : Int) < 48) = false := decide_eq_false (by omega)
        have e1' : decide (c < 48) = false := decide_eq_false (by omega)
        have e2 : decide (57 < (c : Int)) = true := decide_eq_true (by omega)
        have e2' : decide (57 < c) = true := decide_eq_true h3
        have hcf : digC s[k] = false := by rw [hC.out]; simp; omega
        have Hn := Lib.hid (show (decide (s.size = s.size) && Fn.digs s.data.toList) = false by rw [digs_bad hlt hcf, Bool.and_false])
        clear hC hcf
        go_wp2_with fail
        go_ret
        exact ⟨retb Hn.out.symm, rfl⟩
    · have hall' : Fn.digs s.data.toList = true := digs_good (fun j hj => hall.out j hj (by omega))
      have Hall := Lib.hid hall'
      clear hall'
      have Hn := Lib.hid (show (decide (s.size = s.size) && Fn.digs s.data.toList) = true by rw [Hall.out]; simp)
      go_wp2_with fail
      go_ret
      exact ⟨retb Hn.out.symm, rfl⟩
set_option maxHeartbeats 2000000 in
theorem wsum_c (s : ByteArray)  (w : World) (hs : s.size ≤ 12) (hd : Fn.digs s.data.toList = true) :
    Calls Tryz.prog 98 #[.string s] w fun e w' => e = .returned (.int .i64 (Fn.sumTo s.data.toList s.size : Nat)) ∧ w = w' := by
  have HD := Lib.hid hd
  clear hd
  go_enter Tryz.func98, Tryz.ntmps98
  go_wp2_with fail
  go_loop [3, 4] (fun vt vi => ∃ k t : Nat, k ≤ s.size ∧ vi = .int .i64 k ∧ vt = .int .i64 t ∧ t ≤ 9 * k ∧ Hid (t = Fn.sumTo s.data.toList k)) (fun _ vi => s.size - (intOf vi).toNat)
  case atStart => exact ⟨0, 0, by omega, rfl, rfl, by omega, Lib.hid rfl⟩
  case round =>
    obtain ⟨k, t, hk, rfl, rfl, ht9, HT⟩ := hrel
    by_cases hlt : k < s.size
    · have hks : k < s.size := by omega
      have hle := sumTo_le HD.out (k + 1) (by omega)
      have Hle := Lib.hid hle
      have hdg := digs_at HD.out hks
      have hda := Lib.hid (dAt_eq hks)
      obtain ⟨c, hc⟩ : ∃ c, s[k].toNat = c := ⟨_, rfl⟩
      rw [hc] at hdg hda
      obtain ⟨h48, h57⟩ := hdg
      have hlti : (k : Int) < (s.size : Int) := by omega
      have hst : Hid (∀ v, v = Fn.dv (decide (k % 2 = 0)) (c - 48) → t + v = Fn.sumTo s.data.toList (k + 1)) := Lib.hid (fun v hv => by rw [Fn.sumTo, hda.out, ← hv, HT.out])
      clear hle hda HT
      obtain ⟨r, hr⟩ : ∃ r, k % 2 = r := ⟨_, rfl⟩
      have hri : (k : Int) % 2 = (r : Int) := by omega
      rw [hr] at hst
      have hr1 : r ≤ 1 := by omega
      by_cases h0 : r = 0
      · have e0 : ((r : Int) == 0) = true := by simp; omega
        by_cases h4 : 52 < c
        · have e4 : decide (9 < 2 * ((c : Int) - 48)) = true := decide_eq_true (by omega)
          have e4' : decide (9 < ((c : Int) - 48) * 2) = true := decide_eq_true (by omega)
          have Hv := Lib.hid (hst.out (2 * (c - 48) - 9) (by rw [h0]; unfold Fn.dv; rw [if_pos (by decide), if_pos (by omega)]))
          clear h0 hr
          go_wp2_with fail
          go_round
          case rel => exact ⟨k + 1, t + (2 * (c - 48) - 9), by omega, by go_num, by go_num, by omega, Hv⟩
          case measure => simp [intOf]; omega
        · have e4 : decide (9 < 2 * ((c : Int) - 48)) = false := decide_eq_false (by omega)
          have e4' : decide (9 < ((c : Int) - 48) * 2) = false := decide_eq_false (by omega)
          have Hv := Lib.hid (hst.out (2 * (c - 48)) (by rw [h0]; unfold Fn.dv; rw [if_pos (by decide), if_neg (by omega)]))
          clear h0 hr
          go_wp2_with fail
          go_round
          case rel => exact ⟨k + 1, t + 2 * (c - 48), by omega, by go_num, by go_num, by omega, Hv⟩
          case measure => simp [intOf]; omega
      · have e0 : ((r : Int) == 0) = false := by simp; omega
        have Hv := Lib.hid (hst.out (c - 48) (by rw [decide_eq_false h0]; rfl))
        clear h0 hr
        go_wp2_with fail
        go_round
        case rel => exact ⟨k + 1, t + (c - 48), by omega, by go_num, by go_num, by omega, Hv⟩
        case measure => simp [intOf]; omega
    · obtain rfl : k = s.size := by omega
      go_wp2_with fail
      go_ret
      exact ⟨by rw [HT.out]; rfl, rfl⟩
set_option maxHeartbeats 2000000 in
theorem rsum_c (s : ByteArray) (n : Nat) (hn : n ≤ s.size) (w : World) (hs : s.size ≤ 12) (hd : Fn.digs s.data.toList = true) :
    Calls Tryz.prog 69 #[.string s, .int .i64 (n : Int)] w fun e w' => e = .returned (.int .i64 (Fn.sumTo s.data.toList n : Nat)) ∧ w = w' := by
  have HD := Lib.hid hd
  clear hd
  go_enter Tryz.func69, Tryz.ntmps69
  go_wp2_with fail
  go_loop [5, 6] (fun vt vi => ∃ k t : Nat, k ≤ n ∧ vi = .int .i64 k ∧ vt = .int .i64 t ∧ t ≤ 9 * k ∧ Hid (t = Fn.sumTo s.data.toList k)) (fun _ vi => n - (intOf vi).toNat)
  case atStart => exact ⟨0, 0, by omega, rfl, rfl, by omega, Lib.hid rfl⟩
  case round =>
    obtain ⟨k, t, hk, rfl, rfl, ht9, HT⟩ := hrel
    by_cases hlt : k < n
    · have hks : k < s.size := by omega
      have hle := sumTo_le HD.out (k + 1) (by omega)
      have Hle := Lib.hid hle
      have hdg := digs_at HD.out hks
      have hda := Lib.hid (dAt_eq hks)
      obtain ⟨c, hc⟩ : ∃ c, s[k].toNat = c := ⟨_, rfl⟩
      rw [hc] at hdg hda
      obtain ⟨h48, h57⟩ := hdg
      have hlti : (k : Int) < (n : Int) := by omega
      have hst : Hid (∀ v, v = Fn.dv (decide (k % 2 = 0)) (c - 48) → t + v = Fn.sumTo s.data.toList (k + 1)) := Lib.hid (fun v hv => by rw [Fn.sumTo, hda.out, ← hv, HT.out])
      clear hle hda HT
      obtain ⟨r, hr⟩ : ∃ r, k % 2 = r := ⟨_, rfl⟩
      have hri : (k : Int) % 2 = (r : Int) := by omega
      rw [hr] at hst
      have hr1 : r ≤ 1 := by omega
      by_cases h0 : r = 0
      · have e0 : ((r : Int) == 0) = true := by simp; omega
        by_cases h4 : 52 < c
        · have e4 : decide (9 < 2 * ((c : Int) - 48)) = true := decide_eq_true (by omega)
          have e4' : decide (9 < ((c : Int) - 48) * 2) = true := decide_eq_true (by omega)
          have Hv := Lib.hid (hst.out (2 * (c - 48) - 9) (by rw [h0]; unfold Fn.dv; rw [if_pos (by decide), if_pos (by omega)]))
          clear h0 hr
          go_wp2_with fail
          go_round
          case rel => exact ⟨k + 1, t + (2 * (c - 48) - 9), by omega, by go_num, by go_num, by omega, Hv⟩
          case measure => simp [intOf]; omega
        · have e4 : decide (9 < 2 * ((c : Int) - 48)) = false := decide_eq_false (by omega)
          have e4' : decide (9 < ((c : Int) - 48) * 2) = false := decide_eq_false (by omega)
          have Hv := Lib.hid (hst.out (2 * (c - 48)) (by rw [h0]; unfold Fn.dv; rw [if_pos (by decide), if_neg (by omega)]))
          clear h0 hr
          go_wp2_with fail
          go_round
          case rel => exact ⟨k + 1, t + 2 * (c - 48), by omega, by go_num, by go_num, by omega, Hv⟩
          case measure => simp [intOf]; omega
      · have e0 : ((r : Int) == 0) = false := by simp; omega
        have Hv := Lib.hid (hst.out (c - 48) (by rw [decide_eq_false h0]; rfl))
        clear h0 hr
        go_wp2_with fail
        go_round
        case rel => exact ⟨k + 1, t + (c - 48), by omega, by go_num, by go_num, by omega, Hv⟩
        case measure => simp [intOf]; omega
    · obtain rfl : k = n := by omega
      go_wp2_with fail
      go_ret
      exact ⟨by rw [HT.out]; rfl, rfl⟩
end Go.Proofs.YtocohkgdkebmdaaGreat
