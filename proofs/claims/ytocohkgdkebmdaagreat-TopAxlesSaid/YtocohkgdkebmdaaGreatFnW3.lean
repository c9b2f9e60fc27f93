/- The walks of wagonnumber's Valid and Kind, and of the reference's. -/
import Derived.Test.YtocohkgdkebmdaaGreatFnW2
import Derived.Deep.RegionWith
namespace Go.Proofs.YtocohkgdkebmdaaGreat
open Go.RowKit
theorem kErr_form {s : ByteArray} (h : (decide (s.size = 12) && Fn.digs s.data.toList) = false) : Fn.kErr s = 11 := by
  unfold Fn.kErr
  rw [if_pos]
  rintro ⟨h1, h2⟩
  rw [decide_eq_true h1, h2] at h
  cases h
theorem kErr_sum {s : ByteArray} (h1 : s.size = 12) (h2 : Fn.digs s.data.toList = true) : Fn.kErr s = if (Fn.sumTo s.data.toList 11 + Fn.dAt s.data.toList 11) % 10 ≠ 0 then 9 else 0 := by
  unfold Fn.kErr
  rw [if_neg (by rw [Decidable.not_not]; exact ⟨h1, h2⟩)]
theorem ext11 {s : ByteArray} : (s.extract 0 11).data.toList = s.data.toList.take 11 := by
  rw [Lib.extract_data]
  rfl
theorem ext11_digs {s : ByteArray} (h : Fn.digs s.data.toList = true) : Fn.digs (s.extract 0 11).data.toList = true := by
  rw [ext11]
  unfold Fn.digs at h ⊢
  exact List.all_eq_true.2 fun c hc => List.all_eq_true.1 h c (List.mem_of_mem_take hc)
theorem c4_eq {s : ByteArray} (h : 4 < s.size) : Fn.c4 s = s[4].toNat := by
  unfold Fn.c4
  have h' : 4 < s.data.toList.length := by simpa using h
  rw [List.getD_eq_getElem?_getD, List.getElem?_eq_getElem h']
  rfl
theorem kErr_size {s : ByteArray} (h : Fn.kErr s = 0) : s.size = 12 ∧ Fn.digs s.data.toList = true := by
  unfold Fn.kErr at h
  split at h
  · cases h
  · rename_i h1
    rwa [Decidable.not_not] at h1
theorem wcheck_c (s : ByteArray) (w : World) (hs : s.size ≤ 12) (hd : Fn.digs s.data.toList = true) :
    Calls Tryz.prog 85 #[.string s] w fun e w' => e = .returned (.int .i64 (((10 - Fn.sumTo s.data.toList s.size % 10) % 10 : Nat) : Int)) ∧ w = w' := by
  have hle := sumTo_le hd s.size (Nat.le_refl _)
  have HC := Lib.hid (wsum_c s w hs hd)
  obtain ⟨t, ht⟩ : ∃ t, Fn.sumTo s.data.toList s.size = t := ⟨_, rfl⟩
  rw [ht] at hle HC ⊢
  obtain ⟨q, hq⟩ : ∃ q, t % 10 = q := ⟨_, rfl⟩
  have hqi : (t : Int) % 10 = (q : Int) := by omega
  have hq9 : q ≤ 9 := by omega
  rw [hq]
  have hv : (10 - (q : Int)) % 10 = (((10 - q) % 10 : Nat) : Int) := by omega
  clear ht hq hd
  go_enter Tryz.func85, Tryz.ntmps85
  go_wp2_with fail
  refine HC.out.mono ?_
  rintro e w1 ⟨rfl, rfl⟩
  go_wp2_with fail
  go_ret
  exact ⟨by rw [hv]; rfl, rfl⟩
set_option maxHeartbeats 2000000 in
theorem wnvalid_c (s : ByteArray) (w : World) (hs : s.size ≤ maxLen) :
    Calls Tryz.prog 64 #[.string s] w fun e w' => e = .returned (.int .i64 (Fn.kErr s)) ∧ Below w.heap.size w w' := by
  have HD := Lib.hid (wdigits_c s 12 w hs)
  by_cases hb : (decide (s.size = 12) && Fn.digs s.data.toList) = true
  case neg =>
    have hbf : (decide (s.size = 12) && Fn.digs s.data.toList) = false := by simpa using hb
    have Hr := Lib.hid (kErr_form hbf)
    rw [hbf] at HD
    clear hb hbf
    go_enter Tryz.func64, Tryz.ntmps64
    go_wp2_with fail
    refine HD.out.mono ?_
    rintro e w1 ⟨rfl, rfl⟩
    go_wp2_with fail
    go_ret
    exact ⟨retv Hr.out.symm, Below.refl _ _⟩
  case pos =>
    rw [hb] at HD
    rw [Bool.and_eq_true, decide_eq_true_eq] at hb
    obtain ⟨h12, hdg⟩ := hb
    have h11 : 11 < s.size := by omega
    have hle := sumTo_le hdg 11 (by omega)
    have hd11 := digs_at hdg h11
    have Hk := Lib.hid (kErr_sum h12 hdg)
    rw [dAt_eq h11] at Hk
    obtain ⟨t, ht⟩ : ∃ t, Fn.sumTo s.data.toList 11 = t := ⟨_, rfl⟩
    obtain ⟨c, hc⟩ : ∃ c, s[11].toNat = c := ⟨_, rfl⟩
    have HC : Hid (∀ W, Calls Tryz.prog 85 #[.string (s.extract 0 11)] W fun e w' => e = .returned (.int .i64 (((10 - t % 10) % 10 : Nat) : Int)) ∧ W = w') := Lib.hid (fun W => by
      have h1 : (s.extract 0 11).size = 11 := by simp; omega
      have := wcheck_c (s.extract 0 11) W (by omega) (ext11_digs hdg)
      rw [h1, ext11, Fn.sumTo_take _ 11 11 (Nat.le_refl _), ht] at this
      exact this)
    rw [ht] at hle Hk
    rw [hc] at hd11 Hk
    obtain ⟨d, hd⟩ : ∃ d, c - 48 = d := ⟨_, rfl⟩
    rw [hd] at Hk
    have hcd : (c : Int) - 48 = (d : Int) := by omega
    have hd9 : d ≤ 9 := by omega
    have hw8 : IntKind.u8.wrap (d : Int) = (d : Int) := IntWalk.u8_in _ ⟨by omega, by omega⟩
    have hw : IntKind.i64.wrap (d : Int) = (d : Int) := IntWalk.i64_in _ ⟨by omega, by omega⟩
    clear hd
    have hci : (11 : Int) < (s.size : Int) := by omega
    have hci2 : (11 : Int) ≤ (s.size : Int) := by omega
    clear ht hdg
    obtain ⟨v, hv⟩ : ∃ v, (10 - t % 10) % 10 = v := ⟨_, rfl⟩
    rw [hv] at HC
    by_cases hE : d = v
    · have Hr := Lib.hid (Hk.out.trans (if_neg (by omega)))
      have dE : ((d : Int) != (v : Int)) = false := by simp; omega
      clear hv Hk hE
      go_enter Tryz.func64, Tryz.ntmps64
      go_wp2_with fail
      refine HD.out.mono ?_
      rintro e w1 ⟨rfl, rfl⟩
      go_wp2_with fail
      go_region_with (go_at_call 85
                      with_reducible refine (HC.out _).mono ?_
                      rintro e w3 ⟨rfl, rfl⟩)
      all_goals
        go_wp2_with fail
        go_ret
        exact ⟨retv Hr.out.symm, (Below.refl _ _).drew⟩
    · have Hr := Lib.hid (Hk.out.trans (if_pos (by omega)))
      have dE : ((d : Int) != (v : Int)) = true := by simp; omega
      clear hv Hk hE
      go_enter Tryz.func64, Tryz.ntmps64
      go_wp2_with fail
      refine HD.out.mono ?_
      rintro e w1 ⟨rfl, rfl⟩
      go_wp2_with fail
      go_region_with (go_at_call 85
                      with_reducible refine (HC.out _).mono ?_
                      rintro e w3 ⟨rfl, rfl⟩)
      all_goals
        go_wp2_with fail
        go_ret
        exact ⟨retv Hr.out.symm, (Below.refl _ _).drew⟩
set_option maxHeartbeats 2000000 in
theorem wkind_c (s : ByteArray) (w : World) (hs : s.size ≤ maxLen) :
    Calls Tryz.prog 43 #[.string s] w fun e w' => (∃ k : Int, e = .returned (.tuple #[.int .i64 k, .int .i64 (Fn.kErr s)]) ∧ (Fn.kErr s = 0 → k = Fn.kindN s) ∧ 0 ≤ k ∧ k ≤ 3) ∧ Below w.heap.size w w' := by
  have HV := Lib.hid (wnvalid_c s w hs)
  by_cases h0 : Fn.kErr s = 0
  case neg =>
    have d0 : (Fn.kErr s != 0) = true := by simp [h0]
    go_enter Tryz.func43, Tryz.ntmps43
    go_wp2_with fail
    refine HV.out.mono ?_
    rintro e w1 ⟨rfl, hb⟩
    go_wp2_with fail
    go_ret2
    exact ⟨⟨0, rfl, fun h => absurd h h0, by omega, by omega⟩, hb⟩
  case pos =>
    have h4 : 4 < s.size := by have := (kErr_size h0).1; omega
    have Hc := Lib.hid (c4_eq h4)
    have h4i : (4 : Int) < (s.size : Int) := by omega
    obtain ⟨c, hc⟩ : ∃ c, s[4].toNat = c := ⟨_, rfl⟩
    rw [hc] at Hc
    have Hk : Hid (Fn.kindN s = Fn.kindC c) := Lib.hid (by rw [Fn.kindN, Hc.out])
    have H0 := Lib.hid h0
    rw [h0] at HV ⊢
    clear h0
    have hcc : c = 55 ∨ c = 56 ∨ c = 50 ∨ c = 52 ∨ c = 57 ∨ (c ≠ 55 ∧ c ≠ 56 ∧ c ≠ 50 ∧ c ≠ 52 ∧ c ≠ 57) := by omega
    obtain ⟨b1, hb1⟩ : ∃ b, ((c : Int) == 55) = b := ⟨_, rfl⟩
    obtain ⟨b2, hb2⟩ : ∃ b, ((c : Int) == 56) = b := ⟨_, rfl⟩
    obtain ⟨b3, hb3⟩ : ∃ b, ((c : Int) == 50) = b := ⟨_, rfl⟩
    obtain ⟨b4, hb4⟩ : ∃ b, ((c : Int) == 52) = b := ⟨_, rfl⟩
    obtain ⟨b5, hb5⟩ : ∃ b, ((c : Int) == 57) = b := ⟨_, rfl⟩
    have HF : Hid ((b1 = true → Fn.kindC c = 1) ∧ (b2 = true → Fn.kindC c = 1) ∧ (b1 = false → b2 = false → b3 = true → Fn.kindC c = 2) ∧ (b1 = false → b2 = false → b4 = true → Fn.kindC c = 2) ∧ (b1 = false → b2 = false → b3 = false → b4 = false → b5 = true → Fn.kindC c = 3) ∧ (b1 = false → b2 = false → b3 = false → b4 = false → b5 = false → Fn.kindC c = 0)) := Lib.hid (by
      subst hb1 hb2 hb3 hb4 hb5
      simp only [beq_iff_eq, beq_eq_false_iff_ne]
      unfold Fn.kindC
      refine ⟨fun h => if_pos (by omega), fun h => if_pos (by omega), fun h1 h2 h => ?_, fun h1 h2 h => ?_, fun h1 h2 h3 h4 h => ?_, fun h1 h2 h3 h4 h => ?_⟩
      · rw [if_neg (by omega), if_pos (by omega)]
      · rw [if_neg (by omega), if_pos (by omega)]
      · rw [if_neg (by omega), if_neg (by omega), if_pos (by omega)]
      · rw [if_neg (by omega), if_neg (by omega), if_neg (by omega)])
    clear hcc
    cases b1 with
    | true =>
      go_enter Tryz.func43, Tryz.ntmps43
      go_wp2_with fail
      refine HV.out.mono ?_
      rintro e w1 ⟨rfl, hb⟩
      go_wp2_with fail
      go_ret2
      exact ⟨⟨_, rfl, fun _ => (Hk.out.trans (HF.out.1 (by trivial))).symm, by omega, by omega⟩, hb⟩
    | false =>
      cases b2 with
      | true =>
        go_enter Tryz.func43, Tryz.ntmps43
        go_wp2_with fail
        refine HV.out.mono ?_
        rintro e w1 ⟨rfl, hb⟩
        go_wp2_with fail
        go_ret2
        exact ⟨⟨_, rfl, fun _ => (Hk.out.trans (HF.out.2.1 (by trivial))).symm, by omega, by omega⟩, hb⟩
      | false =>
        cases b3 with
        | true =>
          go_enter Tryz.func43, Tryz.ntmps43
          go_wp2_with fail
          refine HV.out.mono ?_
          rintro e w1 ⟨rfl, hb⟩
          go_wp2_with fail
          go_ret2
          exact ⟨⟨_, rfl, fun _ => (Hk.out.trans (HF.out.2.2.1 (by trivial) (by trivial) (by trivial))).symm, by omega, by omega⟩, hb⟩
        | false =>
          cases b4 with
          | true =>
            go_enter Tryz.func43, Tryz.ntmps43
            go_wp2_with fail
            refine HV.out.mono ?_
            rintro e w1 ⟨rfl, hb⟩
            go_wp2_with fail
            go_ret2
            exact ⟨⟨_, rfl, fun _ => (Hk.out.trans (HF.out.2.2.2.1 (by trivial) (by trivial) (by trivial))).symm, by omega, by omega⟩, hb⟩
          | false =>
            cases b5 with
            | true =>
              go_enter Tryz.func43, Tryz.ntmps43
              go_wp2_with fail
              refine HV.out.mono ?_
              rintro e w1 ⟨rfl, hb⟩
              go_wp2_with fail
              go_ret2
              exact ⟨⟨_, rfl, fun _ => (Hk.out.trans (HF.out.2.2.2.2.1 (by trivial) (by trivial) (by trivial) (by trivial) (by trivial))).symm, by omega, by omega⟩, hb⟩
            | false =>
              go_enter Tryz.func43, Tryz.ntmps43
              go_wp2_with fail
              refine HV.out.mono ?_
              rintro e w1 ⟨rfl, hb⟩
              go_wp2_with fail
              go_ret2
              exact ⟨⟨_, rfl, fun _ => (Hk.out.trans (HF.out.2.2.2.2.2 (by trivial) (by trivial) (by trivial) (by trivial) (by trivial))).symm, by omega, by omega⟩, hb⟩
end Go.Proofs.YtocohkgdkebmdaaGreat
