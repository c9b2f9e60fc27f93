/- The reference of layer 5: Valid, effect. -/
import Derived.Test.YtjlfdkkaljlmjaaSecW3
namespace Go.Proofs.Ytjlfdkkaljlmjaa
open Go.RowKit Go.Maps
set_option maxRecDepth 100000 in
set_option maxHeartbeats 2000000 in
theorem rvalid5_c (A : Option Addr) (n c : Nat) (l : List V3) (w : World) (hn : n ≤ maxLen) (h : VR w A n l) :
    Calls Try.prog 18 #[.slice A n c] w fun e w' => e = .returned (.int .i64 (Sec.vErr l)) ∧ Below w.heap.size w w' := by
  have hl := h.len
  unfold maxLen at hn
  by_cases hbig : 64 < n
  · have hr : Sec.vErr l = 3 := by rw [Sec.vErr, if_pos (by omega)]
    have Hr := Lib.hid hr
    clear hr
    go_enter Try.func18, Try.ntmps18
    go_wp2_with fail
    go_ret
    exact ⟨retv Hr.out.symm, Below.refl _ _⟩
  · have hr : Sec.vErr l = Sec.vGo l [] := by rw [Sec.vErr, if_neg (by omega)]
    have Hr := Lib.hid hr
    have hd1 : decide (64 < (n : Int)) = false := by simp; omega
    clear hr
    go_enter Try.func18, Try.ntmps18
    go_wp2_with fail
    go_loopw [3] (fun p wr => ∃ k : Nat, k ≤ n ∧ p = .int .i64 k ∧ Hid (Sec.vErr l = Sec.vGo (l.drop k) (l.take k)) ∧ Below w.heap.size w wr) (fun p _ => n - (intOf p).toNat)
    case atStart => exact ⟨0, by omega, rfl, Hr, Below.refl _ _⟩
    case round =>
      obtain ⟨k, hk, rfl, hgo, hbr⟩ := hrel
      by_cases hlt : k < n
      · obtain ⟨ad, ⟨pa, pb, pc⟩, rfl, hba, hp, c1, c2, c3⟩ := h.at_ hlt
        have d1 := keep_cell hbr c1
        have d2 := keep_cell hbr c2
        have d3 := keep_cell hbr c3
        have hdr := drop_cons hp
        have Hp := Lib.hid hp
        have Hdr := Lib.hid hdr
        have Htk := Lib.hid (take_snoc3 hp)
        clear hp c1 c2 c3 hdr
        simp only at d1 d2 d3
        by_cases hok : Sec.okB ⟨pa, pb, pc⟩ = true
        · obtain ⟨o1, o2, o5⟩ := Sec.okB_all hok
          simp only at o1 o2 o5
          have b1 := Sec.inB_bd o1
          have b2 := Sec.inB_bd o2
          have e1 : decide (pa < 0) = false := by simp; omega
          have e2 : decide (31 < pa) = false := by simp; omega
          have e3 : decide (pb < 0) = false := by simp; omega
          have e4 : decide (31 < pb) = false := by simp; omega
          have hcc : (pc != 1) = false ∨ (pc != 1) = true ∧ (pc != -1) = false := by
            rcases o5 with rfl | rfl
            · exact .inl (by decide)
            · exact .inr ⟨by decide, by decide⟩
          have Hok := Lib.hid hok
          clear o1 o2 o5 hok
          obtain ⟨wo, rfl⟩ : ∃ wo : World, wo = wr := ⟨_, rfl⟩
          rcases hcc with e5 | ⟨e5, e6⟩
          all_goals
            go_wp2_with fail
            go_loopw [5] (fun q wr => ∃ j : Nat, j ≤ k ∧ q = .int .i64 j ∧ Hid (Sec.held (l.take j) pa pb = false) ∧ Below (wo.heap.size + 1) (wo.alloc (.cells #[.int .i64 pa, .int .i64 pb, .int .i64 pc] 24)) wr) (fun q _ => k - (intOf q).toNat)
            case atStart => exact ⟨0, by omega, rfl, Lib.hid rfl, Below.refl _ _⟩
            case round =>
              obtain ⟨j, hj, rfl, hh, hb2⟩ := hrel
              have x1 : wr.cell? ⟨wo.heap.size, 0, none⟩ = some (.int .i64 pa) := (hb2.cell (by simp)).trans ((Blk.new wo _ _).cell 0)
              have x2 : wr.cell? ⟨wo.heap.size, 1, none⟩ = some (.int .i64 pb) := (hb2.cell (by simp)).trans ((Blk.new wo _ _).cell 1)
              have hb3 := (hbr.alloc hbr.size (.cells #[.int .i64 pa, .int .i64 pb, .int .i64 pc] 24)).trans (hb2.mono (by have := hbr.size; omega))
              by_cases hjk : j < k
              · obtain ⟨ad', ⟨qa, qb, qc⟩, he', _, hq, y1, y2, _⟩ := h.at_ (show j < n by omega)
                obtain rfl := Option.some.inj he'
                have z1 := keep_cell hb3 y1
                have z2 := keep_cell hb3 y2
                have Hht := Lib.hid (Sec.held_take l j _ pa pb hq)
                simp only at z1 z2
                clear he' hq y1 y2
                by_cases t1 : qa = pa
                · by_cases t2 : qb = pb
                  · have hd : Sec.held (l.take k) pa pb = true := Sec.held_more l (j + 1) k pa pb hjk (by rw [Hht.out]; simp [t1, t2])
                    have Hf := Lib.hid (show Sec.vErr l = 8 by rw [hgo.out, Hdr.out, Sec.vGo_dup _ _ _ Hok.out hd])
                    have f1 : (qa == pa) = true := by simpa using t1
                    have f2 : (qb == pb) = true := by simpa using t2
                    clear t1 t2 hd
                    go_wp2_with fail
                    go_quiet (fail)
                    go_wp2_with fail
                    go_ret
                    exact ⟨retv Hf.out.symm, below_drewN hb3 _⟩
                  · have Hn := Lib.hid (show Sec.held (l.take (j + 1)) pa pb = false by rw [Hht.out, hh.out]; simp; intro _ e; exact t2 e.symm)
                    have f1 : (qa == pa) = true := by simpa using t1
                    have f2 : (qb == pb) = false := by simpa using t2
                    clear t1 t2
                    go_wp2_with fail
                    go_quiet (fail)
                    go_wp2_with fail
                    go_roundw
                    case rel => exact ⟨j + 1, by omega, by go_num, Hn, below_drewN hb2 _⟩
                    case measure => simp [intOf]; omega
                · have Hn := Lib.hid (show Sec.held (l.take (j + 1)) pa pb = false by rw [Hht.out, hh.out]; simp; intro e; exact absurd e.symm t1)
                  have f1 : (qa == pa) = false := by simpa using t1
                  clear t1
                  go_wp2_with fail
                  go_quiet (fail)
                  go_wp2_with fail
                  go_roundw
                  case rel => exact ⟨j + 1, by omega, by go_num, Hn, below_drewN hb2 _⟩
                  case measure => simp [intOf]; omega
              · obtain rfl : j = k := by omega
                have Hf := Lib.hid (show Sec.vErr l = Sec.vGo (l.drop (j + 1)) (l.take (j + 1)) by rw [hgo.out, Hdr.out, Sec.vGo_ok _ _ _ Hok.out hh.out, Htk.out])
                go_wp2_with fail
                go_roundw
                case rel => exact ⟨j + 1, by omega, by go_num, Hf, hb3⟩
                case measure => simp [intOf]; omega
        · have hbad : Sec.okB ⟨pa, pb, pc⟩ = false := by simpa using hok
          have hfin : Sec.vErr l = 1 := by rw [hgo.out, Hdr.out, Sec.vGo_bad _ _ _ hbad]
          have Hf := Lib.hid hfin
          have hno := Sec.okB_not hbad
          clear hgo hfin hok hbad
          by_cases hc : pc = 1 ∨ pc = -1
          · have hB : (decide (pa < 0) || decide (31 < pa) || decide (pb < 0) || decide (31 < pb)) = true := by
              simp only [Bool.or_eq_true, decide_eq_true_eq]
              simp [Sec.inB] at hno
              omega
            have hcc : (pc != 1) = false ∨ (pc != 1) = true ∧ (pc != -1) = false := by
              rcases hc with rfl | rfl
              · exact .inl (by decide)
              · exact .inr ⟨by decide, by decide⟩
            clear hno hc
            rcases hcc with e5 | ⟨e5, e6⟩
            all_goals
              go_wp2_with fail
              all_goals
                go_ret
                exact ⟨retv Hf.out.symm, hbr.alloc hbr.size _⟩
          · have e5 : (pc != 1) = true := by simp; omega
            have e6 : (pc != -1) = true := by simp; omega
            clear hno hc
            go_wp2_with fail
            all_goals
              go_ret
              exact ⟨retv Hf.out.symm, hbr.alloc hbr.size _⟩
      · obtain rfl : k = n := by omega
        go_wp2_with fail
        go_ret
        refine ⟨retv ?_, hbr⟩
        rw [hgo.out, List.drop_eq_nil_of_le (by omega)]
        rfl
end Go.Proofs.Ytjlfdkkaljlmjaa
