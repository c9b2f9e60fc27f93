/- The walk of the reference's Name (06). -/
import Derived.Test.YtmjdjcpmkdninaaDoorLyW1
namespace Go.Proofs.YtmjdjcpmkdninaaDoor
open Go.RowKit
set_option maxHeartbeats 1000000 in
theorem name06_c (s : ByteArray) (w : World) (hs : s.size ≤ maxLen) :
    Calls Tryd.prog 61 #[.string s] w fun e w' => e = .returned (.bool (Pl.nameOk s)) ∧ w = w' := by
  unfold maxLen at hs
  go_enter Tryd.func61, Tryd.ntmps61
  go_wp2_with fail
  go_loop [3] (fun i => ∃ k : Nat, k ≤ s.size ∧ i = .int .i64 k ∧ Hid (∀ (j : Nat) (hj : j < s.size), j < k → Pl.nameC s[j] = true)) (fun i => s.size - (intOf i).toNat)
  case atStart => exact ⟨0, by omega, rfl, Lib.hid (fun j hj h => by omega)⟩
  case round =>
    obtain ⟨k, hk, rfl, hall⟩ := hrel
    by_cases hlt : k < s.size
    · obtain ⟨c, hc⟩ : ∃ c, s[k].toNat = c := ⟨_, rfl⟩
      have hC := Lib.hid (show Pl.nameC s[k] = (decide (97 ≤ c) && decide (c ≤ 122) || decide (48 ≤ c) && decide (c ≤ 57)) by rw [← hc]; rfl)
      have h5 := five_of c
      unfold five at h5
      rcases h5 with h5 | h5 | h5 | h5 | h5
      · have e1 : decide (97 ≤ (c : Int)) = false := by simp; omega
        have e1' : decide (97 ≤ c) = false := by simp; omega
        have e3 : decide (48 ≤ (c : Int)) = false := by simp; omega
        have e3' : decide (48 ≤ c) = false := by simp; omega
        have hcf : Pl.nameC s[k] = false := by rw [hC.out]; simp; omega
        have Hn := Lib.hid (nameOk_bad hlt hcf)
        clear hC hcf
        go_wp2_with fail
        go_ret
        exact ⟨retb Hn.out.symm, rfl⟩
      · have e1 : decide (97 ≤ (c : Int)) = false := by simp; omega
        have e1' : decide (97 ≤ c) = false := by simp; omega
        have e3 : decide (48 ≤ (c : Int)) = true := by simp; omega
        have e3' : decide (48 ≤ c) = true := by simp; omega
        have e4 : decide ((c : Int) ≤ 57) = true := by simp; omega
        have e4' : decide (c ≤ 57) = true := by simp; omega
        have hct : Pl.nameC s[k] = true := by rw [hC.out]; simp; omega
        have Ht := Lib.hid hct
        clear hC hct
        go_wp2_with fail
        go_round
        case rel => exact ⟨k + 1, by omega, by go_num, Lib.hid (fun j hj h => by
          rcases Nat.lt_or_ge j k with h' | h'
          · exact hall.out j hj h'
          · obtain rfl : j = k := by omega
            exact Ht.out)⟩
        case measure => simp [intOf]; omega
      · have e1 : decide (97 ≤ (c : Int)) = false := by simp; omega
        have e1' : decide (97 ≤ c) = false := by simp; omega
        have e3 : decide (48 ≤ (c : Int)) = true := by simp; omega
        have e3' : decide (48 ≤ c) = true := by simp; omega
        have e4 : decide ((c : Int) ≤ 57) = false := by simp; omega
        have e4' : decide (c ≤ 57) = false := by simp; omega
        have hcf : Pl.nameC s[k] = false := by rw [hC.out]; simp; omega
        have Hn := Lib.hid (nameOk_bad hlt hcf)
        clear hC hcf
        go_wp2_with fail
        go_ret
        exact ⟨retb Hn.out.symm, rfl⟩
      · have e1 : decide (97 ≤ (c : Int)) = true := by simp; omega
        have e1' : decide (97 ≤ c) = true := by simp; omega
        have e2 : decide ((c : Int) ≤ 122) = true := by simp; omega
        have e2' : decide (c ≤ 122) = true := by simp; omega
        have hct : Pl.nameC s[k] = true := by rw [hC.out]; simp; omega
        have Ht := Lib.hid hct
        clear hC hct
        go_wp2_with fail
        go_round
        case rel => exact ⟨k + 1, by omega, by go_num, Lib.hid (fun j hj h => by
          rcases Nat.lt_or_ge j k with h' | h'
          · exact hall.out j hj h'
          · obtain rfl : j = k := by omega
            exact Ht.out)⟩
        case measure => simp [intOf]; omega
      · have e1 : decide (97 ≤ (c : Int)) = true := by simp; omega
        have e1' : decide (97 ≤ c) = true := by simp; omega
        have e2 : decide ((c : Int) ≤ 122) = false := by simp; omega
        have e2' : decide (c ≤ 122) = false := by simp; omega
        have e3 : decide (48 ≤ (c : Int)) = true := by simp; omega
        have e3' : decide (48 ≤ c) = true := by simp; omega
        have e4 : decide ((c : Int) ≤ 57) = false := by simp; omega
        have e4' : decide (c ≤ 57) = false := by simp; omega
        have hcf : Pl.nameC s[k] = false := by rw [hC.out]; simp; omega
        have Hn := Lib.hid (nameOk_bad hlt hcf)
        clear hC hcf
        go_wp2_with fail
        go_ret
        exact ⟨retb Hn.out.symm, rfl⟩
    · have hall' : ∀ (j : Nat) (hj : j < s.size), Pl.nameC s[j] = true := fun j hj => hall.out j hj (by omega)
      have Hall := Lib.hid hall'
      clear hall'
      by_cases h1 : 1 ≤ s.size
      · have d1 : decide (1 ≤ (s.size : Int)) = true := by simp; omega
        by_cases h2 : s.size ≤ 12
        · have Hn := Lib.hid (nameOk_good h1 h2 Hall.out)
          have d2 : decide ((s.size : Int) ≤ 12) = true := by simp; omega
          have d2' : decide (s.size ≤ 12) = true := by simp; omega
          go_wp2_with fail
          go_ret
          exact ⟨retb Hn.out.symm, rfl⟩
        · have Hn := Lib.hid (nameOk_size (s := s) (.inr (by omega)))
          have d2 : decide ((s.size : Int) ≤ 12) = false := by simp; omega
          have d2' : decide (s.size ≤ 12) = false := by simp; omega
          go_wp2_with fail
          go_ret
          exact ⟨retb Hn.out.symm, rfl⟩
      · have Hn := Lib.hid (nameOk_size (s := s) (.inl (by omega)))
        have d1 : decide (1 ≤ (s.size : Int)) = false := by simp; omega
        go_wp2_with fail
        go_ret
        exact ⟨retb Hn.out.symm, rfl⟩
end Go.Proofs.YtmjdjcpmkdninaaDoor
