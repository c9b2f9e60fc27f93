/- The reference of layer 4: Values. -/
import Derived.Test.YtjlfdkkaljlmjaaDetR1
namespace Go.Proofs.Ytjlfdkkaljlmjaa
open Go.RowKit
def RvO (w : World) (n : Nat) (l : List V3) (v p : Value) (wr : World) : Prop := ∃ (i : Nat) (V : List Int), i ≤ n ∧ p = .int .i64 i ∧ V.length + 6 * (n - i) ≤ 24576 ∧ Hid (Det.vals l = V ++ Det.vals (l.drop i)) ∧ wr.ownsRow w.heap.size 3 1 v V.length (V.map (Value.int .i64)) ∧ Below w.heap.size w wr
def RvM (wo : World) (n i : Nat) (l : List V3) (p : Value) (wr : World) : Prop := ∃ m : Nat, 1 ≤ m ∧ i + m ≤ n ∧ m ≤ 8 ∧ p = .int .i64 m ∧ Det.Grow (l.drop i) m ∧ Below wo.heap.size wo wr
def RvI (w : World) (i g : Nat) (t : Int) (V : List Int) (G : List V3) (v tt p : Value) (wr : World) : Prop := ∃ k : Nat, k ≤ g ∧ p = .int .i64 ((i + k : Nat) : Int) ∧ tt = .int .i64 (Det.lastT t (G.take k)) ∧
  wr.ownsRow w.heap.size 3 1 v (V.length + 4 + 2 * k) ((V ++ (Det.head4 g t ++ Det.encP t (G.take k))).map (Value.int .i64)) ∧ Below w.heap.size w wr
theorem drop_at (l : List V3) (i m : Nat) : (l.drop i)[m]? = l[i + m]? := by rw [List.getElem?_drop]
set_option maxRecDepth 100000 in
set_option maxHeartbeats 8000000 in
theorem rvalues_c (A : Option Addr) (n c : Nat) (l : List V3) (w : World) (hn4 : n ≤ 4096) (h : VR w A n l) (ht : ∀ p ∈ l, Det.okP p = true) :
    Calls Try.prog 41 #[.slice A n c] w fun e w' => ∃ v, e = .returned v ∧ w'.ownsRow w.heap.size 3 1 v (Det.vals l).length ((Det.vals l).map (Value.int .i64)) ∧ Below w.heap.size w w' := by
  have hl := h.len
  have HT := Lib.hid ht
  clear ht
  go_enter Try.func41, Try.ntmps41
  go_wp2_with fail
  go_loopw [3, 4] (fun v p wr => RvO w n l v p wr) (fun _ p _ => n - (intOf p).toNat)
  case atStart => exact (show RvO _ _ _ _ _ _ from ⟨0, [], by omega, rfl, by simp; omega, Lib.hid rfl, World.ownsRow_nil _ _ _ _, Below.refl _ _⟩)
  case round =>
    obtain ⟨i, V, hi, rfl, hlen, hvals, hown, hbr⟩ := hrel
    by_cases hin : i < n
    · have hid : decide ((i : Int) < (n : Int)) = true := by simp; omega
      have hid' : decide (i < n) = true := by simp; omega
      obtain ⟨ad, p0, rfl, hba, hp0, _, s2, _⟩ := h.at_ hin
      have hdl : (l.drop i).length = n - i := by rw [List.length_drop, hl]
      have hcons : ∃ r, l.drop i = p0 :: r := ⟨_, drop_cons hp0⟩
      obtain ⟨r, hr⟩ := hcons
      have hg1 : Det.Grow (l.drop i) 1 := by rw [hr]; exact Det.Grow.one p0 r
      have Hhd := Lib.hid (show Det.headT (l.drop i) = p0.b by rw [hr]; rfl)
      have Hvc := Lib.hid (show Det.vals (l.drop i) = Det.grpVals ((l.drop i).take (Det.grp (l.drop i))) ++ Det.vals ((l.drop i).drop (Det.grp (l.drop i))) by rw [hr]; exact Det.vals_cons p0 r)
      have tp0 := Det.okP_time (HT.out p0 (List.mem_of_getElem? hp0))
      clear hr hp0
      generalize p0.b = t at s2 Hhd tp0
      obtain ⟨wo, hwo⟩ : ∃ wo : World, wo = wr := ⟨_, rfl⟩
      subst hwo
      go_wp2_with fail
      go_loopw [5] (fun p wr => RvM wo n i l p wr) (fun p _ => 8 - (intOf p).toNat)
      case atStart => exact (show RvM _ _ _ _ _ _ from ⟨1, by omega, by omega, by omega, rfl, hg1, Below.refl _ _⟩)
      case round =>
        clear hg1
        obtain ⟨m, hm1, hmn, hm8, rfl, hg, hbm⟩ := hrel
        have hbw := below_step hbr hbm
        have hcase : (m < 8 ∧ i + m < n) ∨ (8 ≤ m) ∨ (m < 8 ∧ n ≤ i + m) := by omega
        rcases hcase with ⟨h8, hlt⟩ | h8 | ⟨h8, hge⟩
        · obtain ⟨j1, hj1⟩ : ∃ j1, i + m = j1 := ⟨_, rfl⟩
          obtain ⟨j0, hj0⟩ : ∃ j0, j1 = j0 + 1 := ⟨j1 - 1, by omega⟩
          obtain ⟨ad1, p, hea1, _, hp, _, c2, _⟩ := h.at_ (i := j1) (by omega)
          obtain rfl := Option.some.inj hea1
          obtain ⟨ad2, q, hea2, _, hq, _, g2, _⟩ := h.at_ (i := j0) (by omega)
          obtain rfl := Option.some.inj hea2
          have f2 := keep_cell hbw c2
          have f3 := keep_cell hbw g2
          have hp' : (l.drop i)[m]? = some p := by rw [drop_at, hj1]; exact hp
          have hq' : (l.drop i)[m - 1]? = some q := by rw [drop_at, show i + (m - 1) = j0 by omega]; exact hq
          have tp := Det.okP_time (HT.out p (List.mem_of_getElem? hp))
          have tq := Det.okP_time (HT.out q (List.mem_of_getElem? hq))
          have hfar := Lib.hid (fun hf => hg.far hq' hp' hf)
          have hstep := Lib.hid (fun hf => hg.step h8 hq' hp' hf)
          have hji : (i : Int) + (m : Int) = (j1 : Int) := by omega
          have hjw : IntKind.i64.wrap (j1 : Int) = (j1 : Int) := IntWalk.i64_in _ ⟨by omega, by omega⟩
          have hjk : (j1 : Int) - 1 = (j0 : Int) := by omega
          have hjkw : IntKind.i64.wrap (j0 : Int) = (j0 : Int) := IntWalk.i64_in _ ⟨by omega, by omega⟩
          have hb1 : (j1 : Int) < (n : Int) := by omega
          have hb0 : (j0 : Int) < (n : Int) := by omega
          have hB1 : decide ((j1 : Int) < (n : Int)) = true := by simp; omega
          have hB2 : decide (j1 < n) = true := by simp; omega
          have hB3 : decide ((m : Int) < 8) = true := by simp; omega
          have hB3' : decide (m < 8) = true := by simp; omega
          clear hea1 hea2 hp hq c2 g2 hp' hq' hg
          have Hj1 := Lib.hid hj1
          have hj1n : i + m + 1 ≤ n := by omega
          clear hj1 hj0
          generalize p.b = pb at *
          generalize q.b = qb at *
          have hsw : IntKind.i64.wrap (pb - qb) = pb - qb := IntWalk.i64_in _ ⟨by omega, by omega⟩
          by_cases hf : pb - qb ≤ 1023
          · have hg' := hstep.out hf
            have hB4 : decide (pb - qb ≤ 1023) = true := by simp; omega
            clear hfar hstep
            go_wp2_with fail
            go_quiet (fail)
            go_wp2_with fail
            go_roundw
            case rel => exact (show RvM _ _ _ _ _ _ from ⟨m + 1, by omega, by omega, by omega, by go_num, hg', below_drewN hbm _⟩)
            case measure => simp [intOf]; omega
          · have Hgm := Lib.hid (hfar.out (by omega))
            have hB4 : decide (pb - qb ≤ 1023) = false := by simp; omega
            clear hfar hstep
            go_wp2_with fail
            go_quiet (fail)
            have hbq := below_step hbr (below_drewN hbm nq)
            have ownq := own_below hown (below_drewN hbm nq)
            generalize wr.drewN nq = wq at hbq ownq ⊢
            have f7 := keep_cell hbq s2
            clear hjw hjk hjkw hsw hB1 hB2 hB3 hB4 hji
            go_wp2_with (at_builtin; refine wpList_pushb sl_int rfl (.tmp 49) (.tmp 59) rfl w.heap.size _ _ _ rfl ownq 4 4 wq.heap.size rfl rfl rfl rfl (by simp only [maxLen]; omega) (by omega) hbq.size ?_; intro v3 w3 hown3 hgr3)
            have hbr3 := hbq.trans (hgr3.below (own_ge ownq) hbq.size)
            clear ownq hgr3 hbq f7
            have hGl : ((l.drop i).take m).length = m := by rw [List.length_take, hdl]; omega
            have hGe : ∀ k, k < m → ((l.drop i).take m)[k]? = l[i + k]? := fun k hk => by rw [List.getElem?_take_of_lt hk, drop_at]
            have hGd : (l.drop i).drop m = l.drop (i + m) := by rw [List.drop_drop]
            have hvc2 : Det.vals (l.drop i) = Det.grpVals ((l.drop i).take m) ++ Det.vals (l.drop (i + m)) := by rw [← hGd]; have := Hvc.out; rw [Hgm.out] at this; exact this
            have hGh : Det.headT ((l.drop i).take m) = t := by rw [grp_head _ m hm1 (by omega)]; exact Hhd.out
            generalize (l.drop i).take m = G at hGl hGe hvc2 hGh
            have HGl := Lib.hid hGl
            have HGe := Lib.hid hGe
            have Hvc2 := Lib.hid hvc2
            have HGh := Lib.hid hGh
            clear hGl hGe hGd hvc2 hGh
            go_wp2_with fail
            go_loopw [3, 6, 7] (fun v tt p wr => RvI w i m t V G v tt p wr) (fun _ _ p _ => i + m - (intOf p).toNat)
            case atStart => exact (show RvI _ _ _ _ _ _ _ _ _ _ from ⟨0, by omega, vint (by simp), rfl, by simpa [Det.head4, Det.encP] using hown3, hbr3⟩)
            case round =>
              obtain ⟨k, hk, rfl, rfl, hownk, hbk⟩ := hrel
              clear hown3 hbr3
              obtain ⟨j, hj⟩ : ∃ j, i + k = j := ⟨_, rfl⟩
              rw [hj]
              have hj1 : i + k ≤ j := by omega
              have hj2 : j ≤ i + k := by omega
              have Hj := Lib.hid hj
              clear hj
              by_cases hkm : k < m
              · have hlt3 : decide ((j : Int) < (i : Int) + (m : Int)) = true := by simp; omega
                obtain ⟨ad3, p, hea3, _, hp, c1, c2, c3⟩ := h.at_ (i := j) (by omega)
                obtain rfl := Option.some.inj hea3
                have d1 := keep_cell hbk c1
                have d2 := keep_cell hbk c2
                have d3 := keep_cell hbk c3
                have hpG : G[k]? = some p := by rw [HGe.out k hkm, Hj.out]; exact hp
                obtain ⟨o1, o2, o3, o4, _⟩ := Det.okP_all (HT.out p (List.mem_of_getElem? hp))
                have hlast := Det.lastT_ok t (G.take k) tp0 (fun q hq => by
                  obtain ⟨x, hx⟩ := List.getElem?_of_mem (List.mem_of_mem_take hq)
                  have hxm : x < m := by have := (List.getElem?_eq_some_iff.1 hx).1; rw [HGl.out] at this; exact this
                  rw [HGe.out x hxm] at hx
                  exact Det.okP_time (HT.out q (List.mem_of_getElem? hx)))
                have hts := Lib.hid (take_snoc3 hpG)
                have hes := Lib.hid (Det.encP_snoc (G.take k) p t)
                have hls := Lib.hid (Det.lastT_snoc (G.take k) p t)
                have hpv := Lib.hid (show Det.pv p = 1024 + 2 * p.a + (if p.c = 1 then 1 else 0) from rfl)
                clear hea3 c1 c3 hp hpG
                generalize Det.lastT t (G.take k) = lt at *
                obtain ⟨pa, pb, pc⟩ := p
                simp only at d1 d2 d3 c2 o1 o2 o3 o4 hts hes hls hpv
                by_cases hc1 : pc = 1
                · have e5 : (pc == 1) = true := by simp [hc1]
                  have hpv' := hpv.out
                  rw [if_pos hc1] at hpv'
                  have Hpv := Lib.hid hpv'
                  clear hc1 hpv'
                  go_wp2_with (at_builtin; refine wpList_pushb sl_int rfl (.tmp 84) (.tmp 93) rfl w.heap.size _ _ _ rfl hownk 2 2 wr.heap.size rfl rfl rfl rfl (by simp only [maxLen]; omega) (by omega) hbk.size ?_; intro v4 w4 hown4 hgr4; have hbk4 := hbk.trans (hgr4.below (own_ge hownk) hbk.size); have hc4 := keep_cell hbk4 c2; clear hgr4 hownk)
                  clear d1 d2 d3 hbk
                  go_wp2_with fail
                  go_roundw
                  case rel =>
                    refine (show RvI _ _ _ _ _ _ _ _ _ _ from ⟨k + 1, by omega, vint (by omega), vint (by rw [hts.out, hls.out]), ?_, hbk4⟩)
                    rw [hts.out, hes.out, Hpv.out]
                    rw [show V.length + 4 + 2 * (k + 1) = V.length + 4 + 2 * k + 2 by omega]
                    simpa [List.append_assoc] using hown4
                  case measure => simp [intOf]; omega
                · have e5 : (pc == 1) = false := by simp [hc1]
                  have hpv' := hpv.out
                  rw [if_neg hc1, Int.add_zero] at hpv'
                  have Hpv := Lib.hid hpv'
                  clear hc1 hpv'
                  go_wp2_with (at_builtin; refine wpList_pushb sl_int rfl (.tmp 84) (.tmp 93) rfl w.heap.size _ _ _ rfl hownk 2 2 wr.heap.size rfl rfl rfl rfl (by simp only [maxLen]; omega) (by omega) hbk.size ?_; intro v4 w4 hown4 hgr4; have hbk4 := hbk.trans (hgr4.below (own_ge hownk) hbk.size); have hc4 := keep_cell hbk4 c2; clear hgr4 hownk)
                  clear d1 d2 d3 hbk
                  go_wp2_with fail
                  go_roundw
                  case rel =>
                    refine (show RvI _ _ _ _ _ _ _ _ _ _ from ⟨k + 1, by omega, vint (by omega), vint (by rw [hts.out, hls.out]), ?_, hbk4⟩)
                    rw [hts.out, hes.out, Hpv.out]
                    rw [show V.length + 4 + 2 * (k + 1) = V.length + 4 + 2 * k + 2 by omega]
                    simpa [List.append_assoc] using hown4
                  case measure => simp [intOf]; omega
              · obtain rfl : k = m := by omega
                have hlt3 : decide ((j : Int) < (i : Int) + (k : Int)) = false := by simp; omega
                have hkt : G.take k = G := List.take_of_length_le (by rw [HGl.out]; exact Nat.le_refl _)
                rw [hkt] at hownk
                have hgv : Det.grpVals G = Det.head4 k t ++ Det.encP t G := by rw [Det.grpVals, HGl.out, HGh.out]
                have hvals' : Det.vals l = (V ++ Det.grpVals G) ++ Det.vals (l.drop (i + k)) := by rw [hvals.out, Hvc2.out, List.append_assoc]
                have hlen' : (V ++ Det.grpVals G).length = V.length + 4 + 2 * k := by rw [List.length_append, Det.grpVals_len, HGl.out]; omega
                rw [← hgv, ← hlen'] at hownk
                have Hvals := Lib.hid hvals'
                have Hlen := Lib.hid hlen'
                clear hkt hgv hvals' hlen'
                generalize V ++ Det.grpVals G = V2 at hownk Hvals Hlen
                go_wp2_with fail
                go_roundw
                case rel => exact (show RvO _ _ _ _ _ _ from ⟨i + k, V2, by omega, by go_num, by rw [Hlen.out]; omega, Hvals, hownk, hbk⟩)
                case measure => simp [intOf]; omega
        · have Hgm := Lib.hid (hg.stop (.inr h8))
          have hB3 : decide ((m : Int) < 8) = false := by simp; omega
          have hB3' : decide (m < 8) = false := by simp; omega
          clear hg h8
          go_wp2_with fail
          go_quiet (fail)
          have hbq := below_step hbr (below_drewN hbm nq)
          have ownq := own_below hown (below_drewN hbm nq)
          generalize wr.drewN nq = wq at hbq ownq ⊢
          have f7 := keep_cell hbq s2
          clear hB3
          go_wp2_with (at_builtin; refine wpList_pushb sl_int rfl (.tmp 49) (.tmp 59) rfl w.heap.size _ _ _ rfl ownq 4 4 wq.heap.size rfl rfl rfl rfl (by simp only [maxLen]; omega) (by omega) hbq.size ?_; intro v3 w3 hown3 hgr3)
          have hbr3 := hbq.trans (hgr3.below (own_ge ownq) hbq.size)
          clear ownq hgr3 hbq f7
          have hGl : ((l.drop i).take m).length = m := by rw [List.length_take, hdl]; omega
          have hGe : ∀ k, k < m → ((l.drop i).take m)[k]? = l[i + k]? := fun k hk => by rw [List.getElem?_take_of_lt hk, drop_at]
          have hGd : (l.drop i).drop m = l.drop (i + m) := by rw [List.drop_drop]
          have hvc2 : Det.vals (l.drop i) = Det.grpVals ((l.drop i).take m) ++ Det.vals (l.drop (i + m)) := by rw [← hGd]; have := Hvc.out; rw [Hgm.out] at this; exact this
          have hGh : Det.headT ((l.drop i).take m) = t := by rw [grp_head _ m hm1 (by omega)]; exact Hhd.out
          generalize (l.drop i).take m = G at hGl hGe hvc2 hGh
          have HGl := Lib.hid hGl
          have HGe := Lib.hid hGe
          have Hvc2 := Lib.hid hvc2
          have HGh := Lib.hid hGh
          clear hGl hGe hGd hvc2 hGh
          go_wp2_with fail
          go_loopw [3, 6, 7] (fun v tt p wr => RvI w i m t V G v tt p wr) (fun _ _ p _ => i + m - (intOf p).toNat)
          case atStart => exact (show RvI _ _ _ _ _ _ _ _ _ _ from ⟨0, by omega, vint (by simp), rfl, by simpa [Det.head4, Det.encP] using hown3, hbr3⟩)
          case round =>
            obtain ⟨k, hk, rfl, rfl, hownk, hbk⟩ := hrel
            clear hown3 hbr3
            obtain ⟨j, hj⟩ : ∃ j, i + k = j := ⟨_, rfl⟩
            rw [hj]
            have hj1 : i + k ≤ j := by omega
            have hj2 : j ≤ i + k := by omega
            have Hj := Lib.hid hj
            clear hj
            by_cases hkm : k < m
            · have hlt3 : decide ((j : Int) < (i : Int) + (m : Int)) = true := by simp; omega
              obtain ⟨ad3, p, hea3, _, hp, c1, c2, c3⟩ := h.at_ (i := j) (by omega)
              obtain rfl := Option.some.inj hea3
              have d1 := keep_cell hbk c1
              have d2 := keep_cell hbk c2
              have d3 := keep_cell hbk c3
              have hpG : G[k]? = some p := by rw [HGe.out k hkm, Hj.out]; exact hp
              obtain ⟨o1, o2, o3, o4, _⟩ := Det.okP_all (HT.out p (List.mem_of_getElem? hp))
              have hlast := Det.lastT_ok t (G.take k) tp0 (fun q hq => by
                obtain ⟨x, hx⟩ := List.getElem?_of_mem (List.mem_of_mem_take hq)
                have hxm : x < m := by have := (List.getElem?_eq_some_iff.1 hx).1; rw [HGl.out] at this; exact this
                rw [HGe.out x hxm] at hx
                exact Det.okP_time (HT.out q (List.mem_of_getElem? hx)))
              have hts := Lib.hid (take_snoc3 hpG)
              have hes := Lib.hid (Det.encP_snoc (G.take k) p t)
              have hls := Lib.hid (Det.lastT_snoc (G.take k) p t)
              have hpv := Lib.hid (show Det.pv p = 1024 + 2 * p.a + (if p.c = 1 then 1 else 0) from rfl)
              clear hea3 c1 c3 hp hpG
              generalize Det.lastT t (G.take k) = lt at *
              obtain ⟨pa, pb, pc⟩ := p
              simp only at d1 d2 d3 c2 o1 o2 o3 o4 hts hes hls hpv
              by_cases hc1 : pc = 1
              · have e5 : (pc == 1) = true := by simp [hc1]
                have hpv' := hpv.out
                rw [if_pos hc1] at hpv'
                have Hpv := Lib.hid hpv'
                clear hc1 hpv'
                go_wp2_with (at_builtin; refine wpList_pushb sl_int rfl (.tmp 84) (.tmp 93) rfl w.heap.size _ _ _ rfl hownk 2 2 wr.heap.size rfl rfl rfl rfl (by simp only [maxLen]; omega) (by omega) hbk.size ?_; intro v4 w4 hown4 hgr4; have hbk4 := hbk.trans (hgr4.below (own_ge hownk) hbk.size); have hc4 := keep_cell hbk4 c2; clear hgr4 hownk)
                clear d1 d2 d3 hbk
                go_wp2_with fail
                go_roundw
                case rel =>
                  refine (show RvI _ _ _ _ _ _ _ _ _ _ from ⟨k + 1, by omega, vint (by omega), vint (by rw [hts.out, hls.out]), ?_, hbk4⟩)
                  rw [hts.out, hes.out, Hpv.out]
                  rw [show V.length + 4 + 2 * (k + 1) = V.length + 4 + 2 * k + 2 by omega]
                  simpa [List.append_assoc] using hown4
                case measure => simp [intOf]; omega
              · have e5 : (pc == 1) = false := by simp [hc1]
                have hpv' := hpv.out
                rw [if_neg hc1, Int.add_zero] at hpv'
                have Hpv := Lib.hid hpv'
                clear hc1 hpv'
                go_wp2_with (at_builtin; refine wpList_pushb sl_int rfl (.tmp 84) (.tmp 93) rfl w.heap.size _ _ _ rfl hownk 2 2 wr.heap.size rfl rfl rfl rfl (by simp only [maxLen]; omega) (by omega) hbk.size ?_; intro v4 w4 hown4 hgr4; have hbk4 := hbk.trans (hgr4.below (own_ge hownk) hbk.size); have hc4 := keep_cell hbk4 c2; clear hgr4 hownk)
                clear d1 d2 d3 hbk
                go_wp2_with fail
                go_roundw
                case rel =>
                  refine (show RvI _ _ _ _ _ _ _ _ _ _ from ⟨k + 1, by omega, vint (by omega), vint (by rw [hts.out, hls.out]), ?_, hbk4⟩)
                  rw [hts.out, hes.out, Hpv.out]
                  rw [show V.length + 4 + 2 * (k + 1) = V.length + 4 + 2 * k + 2 by omega]
                  simpa [List.append_assoc] using hown4
                case measure => simp [intOf]; omega
            · obtain rfl : k = m := by omega
              have hlt3 : decide ((j : Int) < (i : Int) + (k : Int)) = false := by simp; omega
              have hkt : G.take k = G := List.take_of_length_le (by rw [HGl.out]; exact Nat.le_refl _)
              rw [hkt] at hownk
              have hgv : Det.grpVals G = Det.head4 k t ++ Det.encP t G := by rw [Det.grpVals, HGl.out, HGh.out]
              have hvals' : Det.vals l = (V ++ Det.grpVals G) ++ Det.vals (l.drop (i + k)) := by rw [hvals.out, Hvc2.out, List.append_assoc]
              have hlen' : (V ++ Det.grpVals G).length = V.length + 4 + 2 * k := by rw [List.length_append, Det.grpVals_len, HGl.out]; omega
              rw [← hgv, ← hlen'] at hownk
              have Hvals := Lib.hid hvals'
              have Hlen := Lib.hid hlen'
              clear hkt hgv hvals' hlen'
              generalize V ++ Det.grpVals G = V2 at hownk Hvals Hlen
              go_wp2_with fail
              go_roundw
              case rel => exact (show RvO _ _ _ _ _ _ from ⟨i + k, V2, by omega, by go_num, by rw [Hlen.out]; omega, Hvals, hownk, hbk⟩)
              case measure => simp [intOf]; omega
        · have Hgm := Lib.hid (hg.stop (.inl (by rw [hdl]; omega)))
          have hB3 : decide ((m : Int) < 8) = true := by simp; omega
          have hB3' : decide (m < 8) = true := by simp; omega
          obtain ⟨j1, hj1⟩ : ∃ j1, i + m = j1 := ⟨_, rfl⟩
          have hji : (i : Int) + (m : Int) = (j1 : Int) := by omega
          have hjw : IntKind.i64.wrap (j1 : Int) = (j1 : Int) := IntWalk.i64_in _ ⟨by omega, by omega⟩
          have hB1 : decide ((j1 : Int) < (n : Int)) = false := by simp; omega
          have hB2 : decide (j1 < n) = false := by simp; omega
          clear hg hj1
          go_wp2_with fail
          go_quiet (fail)
          have hbq := below_step hbr (below_drewN hbm nq)
          have ownq := own_below hown (below_drewN hbm nq)
          generalize wr.drewN nq = wq at hbq ownq ⊢
          have f7 := keep_cell hbq s2
          clear hB3 hjw hji hB1 hB2
          go_wp2_with (at_builtin; refine wpList_pushb sl_int rfl (.tmp 49) (.tmp 59) rfl w.heap.size _ _ _ rfl ownq 4 4 wq.heap.size rfl rfl rfl rfl (by simp only [maxLen]; omega) (by omega) hbq.size ?_; intro v3 w3 hown3 hgr3)
          have hbr3 := hbq.trans (hgr3.below (own_ge ownq) hbq.size)
          clear ownq hgr3 hbq f7
          have hGl : ((l.drop i).take m).length = m := by rw [List.length_take, hdl]; omega
          have hGe : ∀ k, k < m → ((l.drop i).take m)[k]? = l[i + k]? := fun k hk => by rw [List.getElem?_take_of_lt hk, drop_at]
          have hGd : (l.drop i).drop m = l.drop (i + m) := by rw [List.drop_drop]
          have hvc2 : Det.vals (l.drop i) = Det.grpVals ((l.drop i).take m) ++ Det.vals (l.drop (i + m)) := by rw [← hGd]; have := Hvc.out; rw [Hgm.out] at this; exact this
          have hGh : Det.headT ((l.drop i).take m) = t := by rw [grp_head _ m hm1 (by omega)]; exact Hhd.out
          generalize (l.drop i).take m = G at hGl hGe hvc2 hGh
          have HGl := Lib.hid hGl
          have HGe := Lib.hid hGe
          have Hvc2 := Lib.hid hvc2
          have HGh := Lib.hid hGh
          clear hGl hGe hGd hvc2 hGh
          go_wp2_with fail
          go_loopw [3, 6, 7] (fun v tt p wr => RvI w i m t V G v tt p wr) (fun _ _ p _ => i + m - (intOf p).toNat)
          case atStart => exact (show RvI _ _ _ _ _ _ _ _ _ _ from ⟨0, by omega, vint (by simp), rfl, by simpa [Det.head4, Det.encP] using hown3, hbr3⟩)
          case round =>
            obtain ⟨k, hk, rfl, rfl, hownk, hbk⟩ := hrel
            clear hown3 hbr3
            obtain ⟨j, hj⟩ : ∃ j, i + k = j := ⟨_, rfl⟩
            rw [hj]
            have hj1 : i + k ≤ j := by omega
            have hj2 : j ≤ i + k := by omega
            have Hj := Lib.hid hj
            clear hj
            by_cases hkm : k < m
            · have hlt3 : decide ((j : Int) < (i : Int) + (m : Int)) = true := by simp; omega
              obtain ⟨ad3, p, hea3, _, hp, c1, c2, c3⟩ := h.at_ (i := j) (by omega)
              obtain rfl := Option.some.inj hea3
              have d1 := keep_cell hbk c1
              have d2 := keep_cell hbk c2
              have d3 := keep_cell hbk c3
              have hpG : G[k]? = some p := by rw [HGe.out k hkm, Hj.out]; exact hp
              obtain ⟨o1, o2, o3, o4, _⟩ := Det.okP_all (HT.out p (List.mem_of_getElem? hp))
              have hlast := Det.lastT_ok t (G.take k) tp0 (fun q hq => by
                obtain ⟨x, hx⟩ := List.getElem?_of_mem (List.mem_of_mem_take hq)
                have hxm : x < m := by have := (List.getElem?_eq_some_iff.1 hx).1; rw [HGl.out] at this; exact this
                rw [HGe.out x hxm] at hx
                exact Det.okP_time (HT.out q (List.mem_of_getElem? hx)))
              have hts := Lib.hid (take_snoc3 hpG)
              have hes := Lib.hid (Det.encP_snoc (G.take k) p t)
              have hls := Lib.hid (Det.lastT_snoc (G.take k) p t)
              have hpv := Lib.hid (show Det.pv p = 1024 + 2 * p.a + (if p.c = 1 then 1 else 0) from rfl)
              clear hea3 c1 c3 hp hpG
              generalize Det.lastT t (G.take k) = lt at *
              obtain ⟨pa, pb, pc⟩ := p
              simp only at d1 d2 d3 c2 o1 o2 o3 o4 hts hes hls hpv
              by_cases hc1 : pc = 1
              · have e5 : (pc == 1) = true := by simp [hc1]
                have hpv' := hpv.out
                rw [if_pos hc1] at hpv'
                have Hpv := Lib.hid hpv'
                clear hc1 hpv'
                go_wp2_with (at_builtin; refine wpList_pushb sl_int rfl (.tmp 84) (.tmp 93) rfl w.heap.size _ _ _ rfl hownk 2 2 wr.heap.size rfl rfl rfl rfl (by simp only [maxLen]; omega) (by omega) hbk.size ?_; intro v4 w4 hown4 hgr4; have hbk4 := hbk.trans (hgr4.below (own_ge hownk) hbk.size); have hc4 := keep_cell hbk4 c2; clear hgr4 hownk)
                clear d1 d2 d3 hbk
                go_wp2_with fail
                go_roundw
                case rel =>
                  refine (show RvI _ _ _ _ _ _ _ _ _ _ from ⟨k + 1, by omega, vint (by omega), vint (by rw [hts.out, hls.out]), ?_, hbk4⟩)
                  rw [hts.out, hes.out, Hpv.out]
                  rw [show V.length + 4 + 2 * (k + 1) = V.length + 4 + 2 * k + 2 by omega]
                  simpa [List.append_assoc] using hown4
                case measure => simp [intOf]; omega
              · have e5 : (pc == 1) = false := by simp [hc1]
                have hpv' := hpv.out
                rw [if_neg hc1, Int.add_zero] at hpv'
                have Hpv := Lib.hid hpv'
                clear hc1 hpv'
                go_wp2_with (at_builtin; refine wpList_pushb sl_int rfl (.tmp 84) (.tmp 93) rfl w.heap.size _ _ _ rfl hownk 2 2 wr.heap.size rfl rfl rfl rfl (by simp only [maxLen]; omega) (by omega) hbk.size ?_; intro v4 w4 hown4 hgr4; have hbk4 := hbk.trans (hgr4.below (own_ge hownk) hbk.size); have hc4 := keep_cell hbk4 c2; clear hgr4 hownk)
                clear d1 d2 d3 hbk
                go_wp2_with fail
                go_roundw
                case rel =>
                  refine (show RvI _ _ _ _ _ _ _ _ _ _ from ⟨k + 1, by omega, vint (by omega), vint (by rw [hts.out, hls.out]), ?_, hbk4⟩)
                  rw [hts.out, hes.out, Hpv.out]
                  rw [show V.length + 4 + 2 * (k + 1) = V.length + 4 + 2 * k + 2 by omega]
                  simpa [List.append_assoc] using hown4
                case measure => simp [intOf]; omega
            · obtain rfl : k = m := by omega
              have hlt3 : decide ((j : Int) < (i : Int) + (k : Int)) = false := by simp; omega
              have hkt : G.take k = G := List.take_of_length_le (by rw [HGl.out]; exact Nat.le_refl _)
              rw [hkt] at hownk
              have hgv : Det.grpVals G = Det.head4 k t ++ Det.encP t G := by rw [Det.grpVals, HGl.out, HGh.out]
              have hvals' : Det.vals l = (V ++ Det.grpVals G) ++ Det.vals (l.drop (i + k)) := by rw [hvals.out, Hvc2.out, List.append_assoc]
              have hlen' : (V ++ Det.grpVals G).length = V.length + 4 + 2 * k := by rw [List.length_append, Det.grpVals_len, HGl.out]; omega
              rw [← hgv, ← hlen'] at hownk
              have Hvals := Lib.hid hvals'
              have Hlen := Lib.hid hlen'
              clear hkt hgv hvals' hlen'
              generalize V ++ Det.grpVals G = V2 at hownk Hvals Hlen
              go_wp2_with fail
              go_roundw
              case rel => exact (show RvO _ _ _ _ _ _ from ⟨i + k, V2, by omega, by go_num, by rw [Hlen.out]; omega, Hvals, hownk, hbk⟩)
              case measure => simp [intOf]; omega
    · obtain rfl : i = n := by omega
      have hv0 := hvals.out
      rw [List.drop_eq_nil_of_le (by omega), show Det.vals [] = [] from rfl, List.append_nil] at hv0
      have Hv0 := Lib.hid hv0
      clear hv0
      go_wp2_with fail
      go_ret
      exact ⟨_, rfl, by rw [Hv0.out]; exact hown, hbr⟩
end Go.Proofs.Ytjlfdkkaljlmjaa
