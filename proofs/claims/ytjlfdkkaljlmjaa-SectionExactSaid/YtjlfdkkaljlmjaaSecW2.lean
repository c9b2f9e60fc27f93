/- The walks of layer 5: senses, count. -/
import Derived.Test.YtjlfdkkaljlmjaaSecW1
namespace Go.Proofs.Ytjlfdkkaljlmjaa
open Go.RowKit Go.Maps
theorem MI.look {w : World} {b n : Nat} {g : Int → Int → Int} (hM : MI w b n g) (s d : Int) (hs : (Lit.int .i64 s).wf = true) (hd : (Lit.int .i64 d).wf = true) :
    (Instr.lookup 88 (.map (some b)) (.agg #[.int .i64 s, .int .i64 d]) false).run Try.prog w = .ok (.int .i64 (g s d)) w := by
  obtain ⟨D, hown, hat⟩ := hM
  obtain ⟨c, hrun, hc, _⟩ := hown.lookup_int place_keyed mi_under int_under (zero_int w) (keyOf_place hs hd)
  have e := hc.symm.trans (hat s d hs hd)
  simp only [DataW.lit.injEq, Lit.int.injEq, true_and] at e
  rw [← e]
  exact hrun
theorem MI.drewN {w : World} {b n : Nat} {g : Int → Int → Int} (h : MI w b n g) (k : Nat) : MI (w.drewN k) b n g := h
theorem MI.below {w w' : World} {b n : Nat} {g : Int → Int → Int} (h : MI w b n g) (hb : Below w.heap.size w w') : MI w' b n g := by
  have hlt := h.lt
  obtain ⟨D, h1, h2⟩ := h
  refine ⟨D, ?_, h2⟩
  obtain ⟨es, clock, hb0, F, hs, hD⟩ := h1
  exact ⟨es, clock, (hb.block b hlt).trans hb0, F, hs, hD⟩
set_option maxRecDepth 100000 in
set_option maxHeartbeats 1000000 in
theorem senses_c (A : Option Addr) (n c : Nat) (l : List V3) (w : World) (hn : n ≤ 1000000) (h : VR w A n l) (hok : ∀ b ∈ l, Sec.okB b = true) :
    Calls Try.prog 60 #[.slice A n c] w fun e w' => e = .returned (.map (some w.heap.size)) ∧ MI w' w.heap.size n (fun s d => Sec.sense l s d) ∧ Below w.heap.size w w' := by
  have hl := h.len
  have hmm := @run_makeMap Try.prog
  go_enter Try.func60, Try.ntmps60
  go_wp2_with fail
  go_loopw [5, 9] (fun _ p wr => ∃ k : Nat, k ≤ n ∧ p = .int .i64 k ∧ MI wr w.heap.size k (fun s d => Sec.sense (l.take k) s d) ∧ Below w.heap.size w wr) (fun _ p _ => n - (intOf p).toNat)
  case atStart => exact ⟨0, by omega, rfl, MI.made w, (Below.refl _ _).alloc (Nat.le_refl _) _⟩
  case round =>
    obtain ⟨k, hk, rfl, hM, hbr⟩ := hrel
    by_cases hlt : k < n
    · obtain ⟨ad, ⟨pa, pb, pc⟩, rfl, hba, hp, c1, c2, c3⟩ := h.at_ hlt
      have d1 := keep_cell hbr c1
      have d2 := keep_cell hbr c2
      have d3 := keep_cell hbr c3
      have Htk := Lib.hid (take_snoc3 hp)
      obtain ⟨o1, o2, o5⟩ := Sec.okB_all (hok _ (List.mem_of_getElem? hp))
      simp only at d1 d2 d3 o1 o2 o5
      obtain ⟨x1, x2⟩ := pl_wf o1 o2
      have x3 : (Lit.int .i64 pc).wf = true := WalkArith.wf_i64 (by omega)
      clear hp c1 c2 c3 o1 o2 o5
      go_wp2_with (at_mapUpdate; refine wpList_put_int rfl (.tmp 13) (.tmp 18) (.tmp 20) rfl w.heap.size k _ rfl (hM.alloc _) (by simp only [maxLen]; omega) pa pb pc rfl rfl x1 x2 x3 ?_; intro w2 hM2 hg2)
      go_roundw
      case rel => exact ⟨k + 1, by omega, by go_num, by rw [Htk.out, Sec.sense_snoc]; exact hM2, (hbr.alloc hbr.size _).grown hg2 (by have := hbr.size; simp; omega) (by simp)⟩
      case measure => simp [intOf]; omega
    · obtain rfl : k = n := by omega
      have Htk := Lib.hid (List.take_of_length_le (l := l) (i := k) (by omega))
      go_wp2_with fail
      go_ret
      rw [Htk.out] at hM
      exact ⟨rfl, hM, hbr⟩
set_option maxRecDepth 100000 in
set_option maxHeartbeats 2000000 in
theorem count_c (A B : Option Addr) (n c m d : Nat) (l p : List V3) (s r : Int) (w : World) (hn : n ≤ 1000000) (hm : m ≤ 1000000) (h : VR w A n l) (hp : VR w B m p) (hok : ∀ b ∈ l, Sec.okB b = true) (hpo : ∀ x ∈ p, Det.okP x = true) (hs : Sec.inB s = true) :
    Calls Try.prog 46 #[.slice A n c, .slice B m d, .int .i64 s, .int .i64 r] w fun e w' => e = .returned (.tuple #[.int .i64 (Sec.cnt l p s r).1, .int .i64 (Sec.cnt l p s r).2]) ∧ Below w.heap.size w w' := by
  have hlp := hp.len
  go_enter Try.func46, Try.ntmps46
  go_wp2_with fail
  refine (senses_c A n c l _ hn h hok).mono ?_
  rintro e w1 ⟨rfl, hM1, hb1⟩
  go_wp2_with fail
  go_loopw [8, 9, 12, 17] (fun u v _ q wr => ∃ k : Nat, k ≤ m ∧ q = .int .i64 k ∧ u = .int .i64 (Sec.cnt l (p.take k) s r).1 ∧ v = .int .i64 (Sec.cnt l (p.take k) s r).2 ∧ Below w1.heap.size w1 wr) (fun _ _ _ q _ => m - (intOf q).toNat)
  case atStart => exact ⟨0, by omega, rfl, rfl, rfl, Below.refl _ _⟩
  case round =>
    obtain ⟨k, hk, rfl, rfl, rfl, hbr⟩ := hrel
    by_cases hlt : k < m
    · obtain ⟨ad, ⟨pa, pb, pc⟩, rfl, hba, hp', c1, c2, c3⟩ := (hp.below hb1).at_ hlt
      have d1 := keep_cell hbr c1
      have d2 := keep_cell hbr c2
      have d3 := keep_cell hbr c3
      have Htk := Lib.hid (take_snoc3 hp')
      have hox := Det.okP_all (hpo _ (List.mem_of_getElem? hp'))
      simp only at d1 d2 d3 hox
      obtain ⟨o1, o2, o3, o4, o5⟩ := hox
      have hsb := Sec.inB_bd hs
      have hlk := fun nq o => ((hM1.below hbr).alloc o).drewN nq |>.look s pa (WalkArith.wf_i64 (by omega)) (WalkArith.wf_i64 (by omega))
      have hst := Lib.hid (Sec.cnt_snoc l (p.take k) ⟨pa, pb, pc⟩ s r)
      have hsr := Sec.sense_range l hok s pa
      have hcr := Sec.cnt_range l hok s r k (p.take k) (by simp; omega) (fun x hx => (Det.okP_all (hpo x (List.mem_of_mem_take hx))).2.2.2.2)
      clear hp' c1 c2 c3
      generalize hQ : Sec.sense l s pa = q at hlk hsr
      generalize hX : Sec.cnt l (p.take k) s r = x at hcr hst
      obtain ⟨x1, x2⟩ := x
      have HQ := Lib.hid hQ
      clear hQ hX
      simp only at hcr
      obtain ⟨g1, g2, g3, g4⟩ := hcr
      have q1 : -1 ≤ q ∧ q ≤ 1 := by omega
      clear hsr
      by_cases hr : pb ≤ r
      · have hfin : Sec.cnt l (p.take (k + 1)) s r = (x1, x2) := by rw [Htk.out, hst.out, Sec.cstep, if_pos hr]
        have Hf := Lib.hid hfin
        clear hfin hst o5 q1 hlk
        go_wp2_with fail
        go_roundw
        case rel => exact ⟨k + 1, by omega, by go_num, by rw [Hf.out], by rw [Hf.out], hbr.alloc hbr.size _⟩
        case measure => simp [intOf]; omega
      · have hfin : Sec.cnt l (p.take (k + 1)) s r = (x1 + pc * q, min x2 (x1 + pc * q)) := by rw [Htk.out, hst.out, Sec.cstep, if_neg hr, HQ.out]
        have Hf := Lib.hid hfin
        clear hfin hst
        rcases o5 with rfl | rfl
        · go_wp2_with fail
          go_quiet (fail)
          go_wp2_with fail
          go_roundw
          case rel => exact ⟨k + 1, by omega, by go_num, by rw [Hf.out]; exact vint (by simp only []; omega), by rw [Hf.out]; exact vint (by simp only []; split <;> omega), below_drewN (hbr.alloc hbr.size _) _⟩
          case measure => simp [intOf]; omega
        · go_wp2_with fail
          go_quiet (fail)
          go_wp2_with fail
          go_roundw
          case rel => exact ⟨k + 1, by omega, by go_num, by rw [Hf.out]; exact vint (by simp only []; omega), by rw [Hf.out]; exact vint (by simp only []; split <;> omega), below_drewN (hbr.alloc hbr.size _) _⟩
          case measure => simp [intOf]; omega
    · obtain rfl : k = m := by omega
      have Htk := Lib.hid (List.take_of_length_le (l := p) (i := k) (by omega))
      go_wp2_with fail
      go_ret2
      rw [Htk.out]
      exact ⟨rfl, below_step hb1 hbr⟩
end Go.Proofs.Ytjlfdkkaljlmjaa
