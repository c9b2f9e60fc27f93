/- The walks of layer 4: Valid (program). -/
import Derived.Test.YtjlfdkkaljlmjaaV3
namespace Go.Proofs.Ytjlfdkkaljlmjaa
open Go.RowKit
theorem drop_cons {l : List V3} {k : Nat} {p : V3} (h : l[k]? = some p) : l.drop k = p :: l.drop (k + 1) := by
  obtain ⟨hk, rfl⟩ := List.getElem?_eq_some_iff.1 h
  exact List.drop_eq_getElem_cons hk
def prevT (l : List V3) : Nat → Option Int
  | 0 => none
  | k + 1 => (l[k]?).map (·.b)
set_option maxHeartbeats 1000000 in
theorem valid_c (A : Option Addr) (n c : Nat) (l : List V3) (w : World) (hn : n ≤ maxLen) (h : VR w A n l) :
    Calls Try.prog 31 #[.slice A n c] w fun e w' => e = .returned (.int .i64 (Det.vErr l)) ∧ Below w.heap.size w w' := by
  have hl := h.len
  unfold maxLen at hn
  by_cases hbig : 4096 < n
  · have hr : Det.vErr l = 3 := by rw [Det.vErr, if_pos (by omega)]
    have Hr := Lib.hid hr
    clear hr
    go_enter Try.func31, Try.ntmps31
    go_wp2_with fail
    go_ret
    exact ⟨retv Hr.out.symm, Below.refl _ _⟩
  · have hr : Det.vErr l = Det.vGo l none := by rw [Det.vErr, if_neg (by omega)]
    have Hr := Lib.hid hr
    have hd1 : decide (4096 < (n : Int)) = false := by simp; omega
    clear hr
    go_enter Try.func31, Try.ntmps31
    go_wp2_with fail
    go_loopw [3, 4, 10] (fun _ _ p wr => ∃ k : Nat, k ≤ n ∧ p = .int .i64 k ∧ Hid (Det.vErr l = Det.vGo (l.drop k) (prevT l k)) ∧ Below w.heap.size w wr) (fun _ _ p _ => n - (intOf p).toNat)
    case atStart => exact ⟨0, by omega, rfl, Hr, Below.refl _ _⟩
    case round =>
      obtain ⟨k, hk, rfl, hgo, hbr⟩ := hrel
      by_cases hlt : k < n
      · obtain ⟨ad, ⟨pa, pb, pc⟩, rfl, hba, hp, c1, c2, c3⟩ := h.at_ hlt
        have d1 := keep_cell hbr c1
        have d2 := keep_cell hbr c2
        have d3 := keep_cell hbr c3
        have hdr := drop_cons hp
        have Hp := Lib.hid hp
        have Hdr := Lib.hid hdr
        clear hp c1 c2 c3 hdr
        simp only at d1 d2 d3
        by_cases hok : Det.okP ⟨pa, pb, pc⟩ = true
        · have hst := Lib.hid (Det.vGo_ok (prevT l k) ⟨pa, pb, pc⟩ (l.drop (k + 1)) hok)
          simp only [Det.okP, Bool.and_eq_true, Bool.or_eq_true, decide_eq_true_eq] at hok
          obtain ⟨⟨⟨⟨o1, o2⟩, o3⟩, o4⟩, o5⟩ := hok
          have e1 : decide (pa < 0) = false := by simp; omega
          have e2 : decide (32 ≤ pa) = false := by simp; omega
          have e3 : decide (pb < 0) = false := by simp; omega
          have e4 : decide (1000000000 < pb) = false := by simp; omega
          have O5 := Lib.hid o5
          have hcc : (pc != 1) = false ∨ (pc != 1) = true ∧ (pc != -1) = false := by
            rcases o5 with rfl | rfl
            · exact .inl (by decide)
            · exact .inr ⟨by decide, by decide⟩
          clear o5
          have Hpt := Lib.hid (show prevT l (k + 1) = some pb by rw [prevT, Hp.out]; rfl)
          by_cases hk0 : k = 0
          · have hfin : Det.vErr l = Det.vGo (l.drop (k + 1)) (some pb) := by rw [hgo.out, Hdr.out, hst.out, hk0]; rfl
            have Hf := Lib.hid hfin
            have hB : decide (0 < (k : Int)) = false := by simp; omega
            have hB' : decide (0 < k) = false := by simp; omega
            clear hgo hst hfin hk0
            rcases hcc with e5 | ⟨e5, e6⟩
            all_goals
              go_wp2_with fail
              go_quiet (fail)
              go_wp2_with fail
              go_roundw
              case rel => exact ⟨k + 1, by omega, by go_num, Lib.hid (by rw [Hpt.out]; exact Hf.out), below_drewN (hbr.alloc hbr.size _) _⟩
              case measure => simp [intOf]; omega
          · obtain ⟨j, hj⟩ : ∃ j, k = j + 1 := ⟨k - 1, by omega⟩
            obtain ⟨ad', q, hea, _, hq, _, g2, _⟩ := h.at_ (i := j) (by omega)
            obtain rfl := Option.some.inj hea
            have f2 := keep_cell hbr g2
            have Hpq := Lib.hid (show prevT l k = some q.b by rw [hj, prevT, hq]; rfl)
            have hB : decide (0 < (k : Int)) = true := by simp; omega
            have hB' : decide (0 < k) = true := by simp; omega
            have hkj : (k : Int) - 1 = (j : Int) := by omega
            have hkw : IntKind.i64.wrap (j : Int) = (j : Int) := IntWalk.i64_in _ ⟨by omega, by omega⟩
            have hjn : (j : Int) < (n : Int) := by omega
            clear hea hq g2 hj hk0
            generalize q.b = qb at f2 Hpq
            have f3 := cell_alloc f2
            by_cases hearly : pb < qb
            · have hfin : Det.vErr l = 12 := by
                rw [hgo.out, Hdr.out, hst.out, Hpq.out, if_pos (by simp [Det.early]; omega)]
              have Hf := Lib.hid hfin
              clear hgo hst hfin
              rcases hcc with e5 | ⟨e5, e6⟩
              all_goals
                go_wp2_with fail
                go_quiet (fail)
                go_wp2_with fail
                go_ret
                exact ⟨retv Hf.out.symm, below_drewN (hbr.alloc hbr.size _) _⟩
            · have hfin : Det.vErr l = Det.vGo (l.drop (k + 1)) (some pb) := by
                rw [hgo.out, Hdr.out, hst.out, Hpq.out, if_neg (by simp [Det.early]; omega)]
              have Hf := Lib.hid hfin
              clear hgo hst hfin
              rcases hcc with e5 | ⟨e5, e6⟩
              all_goals
                go_wp2_with fail
                go_quiet (fail)
                go_wp2_with fail
                go_roundw
                case rel => exact ⟨k + 1, by omega, by go_num, Lib.hid (by rw [Hpt.out]; exact Hf.out), below_drewN (hbr.alloc hbr.size _) _⟩
                case measure => simp [intOf]; omega
        · have hbad : Det.okP ⟨pa, pb, pc⟩ = false := by simpa using hok
          have hfin : Det.vErr l = 1 := by rw [hgo.out, Hdr.out, Det.vGo_bad _ _ _ hbad]
          have Hf := Lib.hid hfin
          simp only [Det.okP, Bool.and_eq_true, Bool.or_eq_true, decide_eq_true_eq] at hok
          clear hgo hfin hbad
          by_cases hc : pc = 1 ∨ pc = -1
          · have hB : (decide (pa < 0) || decide (32 ≤ pa) || decide (pb < 0) || decide (1000000000 < pb)) = true := by
              simp only [Bool.or_eq_true, decide_eq_true_eq]
              omega
            have hcc : (pc != 1) = false ∨ (pc != 1) = true ∧ (pc != -1) = false := by
              rcases hc with rfl | rfl
              · exact .inl (by decide)
              · exact .inr ⟨by decide, by decide⟩
            clear hok hc
            rcases hcc with e5 | ⟨e5, e6⟩
            all_goals
              go_wp2_with fail
              all_goals
                go_ret
                exact ⟨retv Hf.out.symm, hbr.alloc hbr.size _⟩
          · have e5 : (pc != 1) = true := by simp; omega
            have e6 : (pc != -1) = true := by simp; omega
            clear hok hc
            go_wp2_with fail
            all_goals
              go_ret
              exact ⟨retv Hf.out.symm, hbr.alloc hbr.size _⟩
      · obtain rfl : k = n := by omega
        go_wp2_with fail
        go_ret
        refine ⟨retv ?_, hbr⟩
        rw [hgo.out, List.drop_eq_nil_of_le (by omega)]
        rfl
end Go.Proofs.Ytjlfdkkaljlmjaa
