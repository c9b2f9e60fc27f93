/- The walks of layer 5: in, Valid, senses. -/
import Derived.Test.YtjlfdkkaljlmjaaSecMap
import Derived.Test.YtjlfdkkaljlmjaaSecPlain
import Derived.Test.YtjlfdkkaljlmjaaDetW2
import Derived.Deep.DeepMust
namespace Go.Proofs.Ytjlfdkkaljlmjaa
open Go.RowKit
theorem in_c (n : Int) (w : World) : Calls Try.prog 43 #[.int .i64 n] w fun e w' => e = .returned (.bool (Sec.inB n)) ∧ w = w' := by
  by_cases h : n < 0
  · have e1 : decide (n < 0) = true := by simp; omega
    have e2 : Sec.inB n = false := by simp [Sec.inB]; omega
    go_enter Try.func43, Try.ntmps43
    go_wp2
    go_ret
    exact ⟨rfl, rfl⟩
  · by_cases h2 : n < 32
    · have e2 : Sec.inB n = true := by simp [Sec.inB]; omega
      go_enter Try.func43, Try.ntmps43
      go_wp2
      go_ret
      exact ⟨rfl, rfl⟩
    · have e2 : Sec.inB n = false := by simp [Sec.inB]; omega
      go_enter Try.func43, Try.ntmps43
      go_wp2
      go_ret
      exact ⟨rfl, rfl⟩
theorem pl_wf {s d : Int} (h : Sec.inB s = true) (h' : Sec.inB d = true) : (Lit.int .i64 s).wf = true ∧ (Lit.int .i64 d).wf = true := by
  have := Sec.inB_bd h
  have := Sec.inB_bd h'
  exact ⟨WalkArith.wf_i64 (by omega), WalkArith.wf_i64 (by omega)⟩
set_option maxRecDepth 100000 in
set_option maxHeartbeats 1000000 in
theorem svalid_c (A : Option Addr) (n c : Nat) (l : List V3) (w : World) (hn : n ≤ maxLen) (h : VR w A n l) :
    Calls Try.prog 15 #[.slice A n c] w fun e w' => e = .returned (.int .i64 (Sec.vErr l)) ∧ Below w.heap.size w w' := by
  have hl := h.len
  unfold maxLen at hn
  have hmm := @run_makeMap Try.prog
  by_cases hbig : 64 < n
  · have hr : Sec.vErr l = 3 := by rw [Sec.vErr, if_pos (by omega)]
    have Hr := Lib.hid hr
    clear hr
    go_enter Try.func15, Try.ntmps15
    go_wp2_with fail
    go_ret
    exact ⟨retv Hr.out.symm, Below.refl _ _⟩
  · have hr : Sec.vErr l = Sec.vGo l [] := by rw [Sec.vErr, if_neg (by omega)]
    have Hr := Lib.hid hr
    have hd1 : decide (64 < (n : Int)) = false := by simp; omega
    clear hr
    go_enter Try.func15, Try.ntmps15
    go_wp2_with fail
    go_loopw [5, 6, 13] (fun _ _ p wr => ∃ k : Nat, k ≤ n ∧ p = .int .i64 k ∧ Hid (Sec.vErr l = Sec.vGo (l.drop k) (l.take k)) ∧ MB wr w.heap.size k (fun s d => Sec.held (l.take k) s d) ∧ Below w.heap.size w wr) (fun _ _ p _ => n - (intOf p).toNat)
    case atStart => exact ⟨0, by omega, rfl, Hr, MB.made w, (Below.refl _ _).alloc (Nat.le_refl _) _⟩
    case round =>
      obtain ⟨k, hk, rfl, hgo, hM, hbr⟩ := hrel
      by_cases hlt : k < n
      · obtain ⟨ad, ⟨pa, pb, pc⟩, rfl, hba, hp, c1, c2, c3⟩ := h.at_ hlt
        have d1 := keep_cell hbr c1
        have d2 := keep_cell hbr c2
        have d3 := keep_cell hbr c3
        have hdr := drop_cons hp
        have Hp := Lib.hid hp
        have Hdr := Lib.hid hdr
        have Htk := Lib.hid (take_snoc3 hp)
        clear hp c1 c2 c3 hdr
        simp only at d1 d2 d3
        by_cases hok : Sec.okB ⟨pa, pb, pc⟩ = true
        · obtain ⟨o1, o2, o5⟩ := Sec.okB_all hok
          simp only at o1 o2 o5
          obtain ⟨x1, x2⟩ := pl_wf o1 o2
          have hcc : (pc != 1) = false ∨ (pc != 1) = true ∧ (pc != -1) = false := by
            rcases o5 with rfl | rfl
            · exact .inl (by decide)
            · exact .inr ⟨by decide, by decide⟩
          clear o5
          by_cases hh : Sec.held (l.take k) pa pb = true
          · have hfin : Sec.vErr l = 8 := by rw [hgo.out, Hdr.out, Sec.vGo_dup _ _ _ hok hh]
            have Hf := Lib.hid hfin
            have Hh := Lib.hid hh
            clear hgo hfin hok hh
            rcases hcc with e5 | ⟨e5, e6⟩
            all_goals
              go_wp2_with (first
                | (go_at_call 43; refine (in_c _ _).mono ?_; rintro e w1 ⟨rfl, rfl⟩)
                | (at_lookup; refine wpList_look_bool rfl (.tmp 42) (.tmp 43) rfl w.heap.size k _ rfl ((hM.alloc _).alloc _) pa pb rfl x1 x2 ?_; rw [Hh.out]))
              go_ret
              exact ⟨retv Hf.out.symm, (hbr.alloc hbr.size _).alloc (by have := hbr.size; simp; omega) _⟩
          · have hh' : Sec.held (l.take k) pa pb = false := by simpa using hh
            have hfin : Sec.vErr l = Sec.vGo (l.drop (k + 1)) (l.take (k + 1)) := by rw [hgo.out, Hdr.out, Sec.vGo_ok _ _ _ hok hh', Htk.out]
            have Hf := Lib.hid hfin
            have Hh := Lib.hid hh'
            clear hgo hfin hok hh hh'
            rcases hcc with e5 | ⟨e5, e6⟩
            all_goals
              go_wp2_with (first
                | (go_at_call 43; refine (in_c _ _).mono ?_; rintro e w1 ⟨rfl, rfl⟩)
                | (at_lookup; refine wpList_look_bool rfl (.tmp 42) (.tmp 43) rfl w.heap.size k _ rfl ((hM.alloc _).alloc _) pa pb rfl x1 x2 ?_; rw [Hh.out])
                | (at_mapUpdate; refine wpList_put_bool rfl (.tmp 45) (.tmp 46) (.const (.bool true)) rfl w.heap.size k _ rfl ((hM.alloc _).alloc _) (by simp only [maxLen]; omega) pa pb true rfl rfl x1 x2 ?_; intro w2 hM2 hg2))
              go_roundw
              case rel => exact ⟨k + 1, by omega, by go_num, Hf, by rw [Htk.out, Sec.held_snoc]; exact hM2, ((hbr.alloc hbr.size _).alloc (by have := hbr.size; simp; omega) _).grown hg2 (by have := hbr.size; simp; omega) (by simp)⟩
              case measure => simp [intOf]; omega
        · have hbad : Sec.okB ⟨pa, pb, pc⟩ = false := by simpa using hok
          have hfin : Sec.vErr l = 1 := by rw [hgo.out, Hdr.out, Sec.vGo_bad _ _ _ hbad]
          have Hf := Lib.hid hfin
          clear hgo hfin hok
          rcases Sec.okB_not hbad with o1 | ⟨o1, o2⟩ | ⟨o1, o2, o3, o4⟩
          · clear hbad
            go_wp2_with (go_at_call 43; refine (in_c _ _).mono ?_; rintro e w1 ⟨rfl, rfl⟩)
            go_ret
            exact ⟨retv Hf.out.symm, hbr.alloc hbr.size _⟩
          · clear hbad
            go_wp2_with (go_at_call 43; refine (in_c _ _).mono ?_; rintro e w1 ⟨rfl, rfl⟩)
            go_ret
            exact ⟨retv Hf.out.symm, hbr.alloc hbr.size _⟩
          · have e5 : (pc != 1) = true := by simpa using o3
            have e6 : (pc != -1) = true := by simpa using o4
            clear hbad o3 o4
            go_wp2_with (go_at_call 43; refine (in_c _ _).mono ?_; rintro e w1 ⟨rfl, rfl⟩)
            go_ret
            exact ⟨retv Hf.out.symm, hbr.alloc hbr.size _⟩
      · obtain rfl : k = n := by omega
        go_wp2_with fail
        go_ret
        refine ⟨retv ?_, hbr⟩
        rw [hgo.out, List.drop_eq_nil_of_le (by omega)]
        rfl
end Go.Proofs.Ytjlfdkkaljlmjaa
