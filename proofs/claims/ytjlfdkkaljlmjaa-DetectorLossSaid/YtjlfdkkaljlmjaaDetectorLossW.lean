/- The walk of 'DetectorLoss'. -/
import Derived.Test.YtjlfdkkaljlmjaaDetectorJoinsW
import Derived.Test.YtjlfdkkaljlmjaaGenBorders
import Derived.Test.YtjlfdkkaljlmjaaDetLossP
import Derived.Test.YtjlfdkkaljlmjaaDetR2
import Derived.Deep.RegionLaw
namespace Go.Proofs.Ytjlfdkkaljlmjaa
open Go.RowKit
theorem Det.Pos.head {l : List V3} {fr first : Nat} {P : List Int} (h : Det.Pos l fr first P) (hf : first < l.length) : (Det.vals l).getD fr 0 = 1536 + (Det.grp (l.drop first) : Int) := by
  have hdl : (l.drop first).length = l.length - first := List.length_drop
  rw [h.pv]
  rcases hq : l.drop first with _ | ⟨p, r⟩
  · rw [hq] at hdl; simp at hdl; omega
  · have hg := Det.grp_pos p r
    have hlen : ((p :: r).take (Det.grp (p :: r))).length = Det.grp (p :: r) := by rw [List.length_take, List.length_cons]; omega
    rw [Det.vals_cons, Det.grpVals, hlen, List.getD_eq_getElem?_getD, List.getElem?_append_right (by rw [h.pl]; exact Nat.le_refl _), h.pl, Nat.sub_self]
    rfl
theorem kept_ne {u v : Value} {g : Nat} (h : apart u v) (hv : v.ownBlock = some g) : u.ownBlock = none ∨ u.ownBlock ≠ some g := by
  rcases h with h | h
  · exact .inl h
  · exact .inr (by rw [← hv]; exact h)
def LosR (l : List V3) (at_ : Nat) (w6 : World) (u v : Value) (wr : World) : Prop := ∃ (fr first : Nat) (P : List Int), u = .int .i64 fr ∧ v = .int .i64 first ∧ Det.Pos l fr first P ∧ fr ≤ at_ ∧ w6 = wr
set_option linter.unusedVariables false in
set_option maxRecDepth 100000 in
set_option maxHeartbeats 8000000 in
theorem walk_DetectorLoss (a0 : Option Addr) (len0 cap0 : Nat) (z0 : List Int) (a1 a2 a3 : Int) (w : World)
    (w0 : IsRow .i64 w a0 len0 cap0 z0) (w1 : (Lit.int .i64 a1).wf = true) (w2 : (Lit.int .i64 a2).wf = true) (w3 : (Lit.int .i64 a3).wf = true) :
    Calls Try.prog 12 #[.slice a0 len0 cap0, .int .i64 a1, .int .i64 a2, .int .i64 a3] w fun e w' => e = .returned (.bool true) ∧ Below w.heap.size w w' := by
  obtain ⟨r0, m0, _⟩ := w0.reads
  clear w0 w1 w2 w3
  generalize z0.take len0 = l0 at r0
  go_enter Try.func12, Try.ntmps12
  go_wp2_with fail
  refine (new_c _ _ _ _ _ m0 r0).mono ?_
  rintro e w1 ⟨rfl, hm1, hb1, hz1⟩
  go_wp2_with fail
  refine (pulses_c w.heap.size w.heap.size 0 30 w1 hm1 (by omega) (by omega)).mono ?_
  rintro e w2 ⟨v2, l, c', rfl, own2, hl30, hmade, _, hm2, hg2⟩
  have hb2 := hb1.trans (grown_below hg2 hb1.size (Nat.le_refl _))
  obtain ⟨A2, c2, rfl, k2, k2'⟩ := own_form own2
  have own2z := own_more own2 hb1.size
  clear hm1 hz1 hm2 hg2 own2 hb1
  have Hok := Lib.hid hmade.ok
  have Hpar := Lib.hid (Det.vGo_valid l none hmade.ok)
  obtain ⟨G0, g1, g2, _⟩ := Det.vals_len _ l (Nat.le_refl _)
  have Hvr := Lib.hid (Det.vals_range _ l (Nat.le_refl _) hmade.ok)
  clear hmade
  obtain ⟨n, hn⟩ : ∃ n, l.length = n := ⟨_, rfl⟩
  rw [hn] at own2z hl30 k2 g1 g2 ⊢
  have Hn := Lib.hid hn
  have g3 : (Det.vals l).length ≤ 200 := by omega
  clear hn g1 g2
  go_wp2_with fail
  refine (encode_made _ n _ l _ k2 k2' (own_VR own2z) Hok.out (by omega)).mono ?_
  rintro e w3 ⟨v3, rfl, own3, hb3⟩
  obtain ⟨A3, c3, rfl, _, _⟩ := own_form own3
  have own2b := own_below own2z hb3
  have hb3a := below_step hb2 hb3
  have own3a := own_more own3 hb2.size
  clear own2z own3 hb3 hb2
  go_wp2_with fail
  refine (rvalues_c A2 n c2 l _ (by omega) (own_VR own2b) Hpar.out).mono ?_
  rintro e w4 ⟨v4, rfl, own4, hb4⟩
  obtain ⟨m, hm⟩ : ∃ m, (Det.vals l).length = m := ⟨_, rfl⟩
  rw [hm] at own3a own4 g3 ⊢
  obtain ⟨V, hV⟩ : ∃ V, Det.vals l = V := ⟨_, rfl⟩
  rw [hV] at own3a own4 hm Hvr
  have HV := Lib.hid hV
  have Hm := Lib.hid hm
  have own2c := own_below own2b hb4
  have own3b := own_below own3a hb4
  have own4z := own_more own4 hb3a.size
  have hb4z := below_step hb3a hb4
  clear hV hm own2b own3a own4 hb4 hb3a
  obtain ⟨A4, c4, rfl, k4, k4'⟩ := own_form own4z
  have own4 := own4z
  have hb4 := hb4z
  clear own4z hb4z
  have hne : ((2 * m : Nat) : Int) = 2 * (m : Int) := by omega
  have hne2 : (((2 * m : Nat) : Int) != 2 * (m : Int)) = false := by simp
  by_cases hm0 : m = 0
  · have hm0' : ((m : Int) == 0) = true := by simp [hm0]
    go_wp2_with fail
    refine (sane04_c _).mono ?_
    rintro e w6 ⟨rfl, hb6⟩
    go_wp2_with fail
    go_ret
    exact ⟨rfl, below_step hb4 hb6⟩
  · have hm0' : ((m : Int) == 0) = false := by simp [hm0]
    have hmp : 0 < m := by omega
    obtain ⟨at_, hat0, hatx⟩ := inM a1 m (by omega)
    have hat : at_ < m := by omega
    obtain ⟨p, hp0, hpx⟩ := inM a2 16 (by omega)
    have hp : p < 16 := by omega
    obtain ⟨q0, hq0, hqx⟩ := inM a3 15 (by omega)
    have t1 := tmod_bd a1 m (by omega)
    have t2 := tmod_bd a2 16 (by omega)
    have t3 := tmod_bd a3 15 (by omega)
    obtain ⟨g, cap, hform, hbg, hgl⟩ := own3b.form (by omega)
    simp only [Value.slice.injEq, true_and] at hform
    obtain ⟨rfl, rfl⟩ := hform
    obtain ⟨g4, cap4, hform4, _, _⟩ := own4.form (by omega)
    simp only [Value.slice.injEq, true_and] at hform4
    obtain ⟨rfl, rfl⟩ := hform4
    clear hm0 hbg hgl hat0 hp0
    by_cases hqp : p ≤ q0
    · have hqd : decide ((p : Int) ≤ (q0 : Int)) = true := by simp; omega
      have hqd' : decide (p ≤ q0) = true := by simp; omega
      obtain ⟨q, hq⟩ : ∃ q, q0 + 1 = q := ⟨_, rfl⟩
      have hqi : (q0 : Int) + 1 = (q : Int) := by omega
      have hq16 : q < 16 := by omega
      have hpq : p ≠ q := by omega
      clear hq
      have hf1 := Lib.hid (flip_c w.heap.size g (2 * m) c3 at_ p (Ham.encB V) w4 (by simp only [maxLen]; omega) own3b (Ham.encB_range V) (by omega) hp)
      have hf2 := Lib.hid (fun W (hW : W.ownsRow w.heap.size 5 1 (.slice (some ⟨g, 0, none⟩) (2 * m) c3) (2 * m) ((Ham.flipB (Ham.encB V) at_ p).map (Value.int .u8))) => flip_c w.heap.size g (2 * m) c3 at_ q (Ham.flipB (Ham.encB V) at_ p) W (by simp only [maxLen]; omega) hW (Ham.flipB_range _ _ _ (Ham.encB_range V)) (by omega) hq16)
      go_wp2_with fail
      refine (hf1.out).mono ?_
      rintro e w5 ⟨rfl, own5, hg5⟩
      have own2d := own2c.kept hg5 (kept_ne (own_ne_type own2c own3b (by decide)) rfl)
      have own4d := own4.kept hg5 (kept_ne (own_ne_type own4 own3b (by decide)) rfl)
      have hb5 := hb4.grown hg5 hb4.size (fun b hb => by cases hb; exact own_ge own3b g rfl)
      clear hg5 own2c own4 own3b hb4
      go_wp2_with fail
      refine (hf2.out _ own5).mono ?_
      rintro e w6 ⟨rfl, own6, hg6⟩
      have own2e := own2d.kept hg6 (kept_ne (own_ne_type own2d own5 (by decide)) rfl)
      have own4e := own4d.kept hg6 (kept_ne (own_ne_type own4d own5 (by decide)) rfl)
      have hb6 := hb5.grown hg6 hb5.size (fun b hb => by cases hb; exact own_ge own5 g rfl)
      clear hg6 own2d own4d own5 hb5 hf1 hf2
      have hpos0 := Det.Pos.zero l
      go_wp2_with fail
      go_loopw [13, 14] (fun u v wr => LosR l at_ w6 u v wr) (fun u _ _ => m - (intOf u).toNat)
      case atStart => exact (show LosR _ _ _ _ _ _ from ⟨0, 0, [], rfl, rfl, hpos0, by omega, rfl⟩)
      case round =>
        clear hpos0
        obtain ⟨fr, first, P, rfl, rfl, hpos, hfa, rfl⟩ := hrel
        have hfl : first < n := by
          rcases Nat.lt_or_ge first n with hh | hh
          · exact hh
          · exfalso
            have h1 := congrArg List.length hpos.pv
            rw [List.length_append, hpos.pl, List.drop_eq_nil_of_le (by rw [Hn.out]; exact hh)] at h1
            rw [HV.out, Hm.out, show Det.vals [] = [] from rfl, List.length_nil] at h1
            omega
        have hhd := Lib.hid (Det.Pos.head hpos (by rw [Hn.out]; exact hfl))
        have hG := Det.grp_le (l.drop first)
        have hGl : (l.drop first).length = n - first := by rw [List.length_drop, Hn.out]
        have hstep := Lib.hid (hpos.step Hok.out (by rw [Hn.out]; exact hfl))
        have hloss := Lib.hid (fun h2 => Det.loss hpos Hok.out (by rw [Hn.out]; exact hfl) hfa h2)
        obtain ⟨G, hGe⟩ : ∃ G, Det.grp (l.drop first) = G := ⟨_, rfl⟩
        rw [hGe] at hhd hG hstep hloss
        obtain ⟨x, hx⟩ : ∃ x, V.getD fr 0 = x := ⟨_, rfl⟩
        have hcell := own_cell own4e (j := fr) (by omega)
        rw [hx] at hcell
        have hxG : x - 1536 = (G : Int) := by
          have := hhd.out
          rw [HV.out, hx] at this
          omega
        have hx1 : 1536 ≤ x := by omega
        have hx2 : x ≤ 1544 := by omega
        have hG2 : G ≤ 8 := by omega
        have hG3 : first + G ≤ n := by omega
        have hGi : (0 : Int) ≤ (G : Int) := by omega
        have hfrm : (fr : Int) < (m : Int) := by omega
        clear hx hGe hhd hG hGl
        by_cases hgo : fr + (4 + 2 * G) ≤ at_
        · have hgd : decide ((fr : Int) + 4 + 2 * (G : Int) ≤ (at_ : Int)) = true := by simp; omega
          clear hloss
          go_wp2_with fail
          go_roundw
          case rel => exact (show LosR _ _ _ _ _ _ from ⟨fr + (4 + 2 * G), first + G, _, vint (by omega), vint (by omega), hstep.out, hgo, rfl⟩)
          case measure => simp [intOf]; omega
        · have hgd : decide ((fr : Int) + 4 + 2 * (G : Int) ≤ (at_ : Int)) = false := by simp; omega
          have Hloss := Lib.hid (hloss.out (by omega))
          clear hloss hstep hgo
          go_wp2_with fail
          obtain ⟨iP, zP, i1, i2, i3, i4, i5⟩ := sl_pulse.info
          obtain ⟨k1, hk1⟩ : ∃ k1, first + G = k1 := ⟨_, rfl⟩
          have hk1i : (first : Int) + (G : Int) = (k1 : Int) := by omega
          have hk1w : IntKind.i64.wrap (k1 : Int) = (k1 : Int) := IntWalk.i64_in _ ⟨by omega, by omega⟩
          have hk1n : k1 ≤ n := by omega
          have hk1c : (k1 : Int) ≤ (n : Int) := by omega
          have hfc : (first : Int) ≤ (n : Int) := by omega
          have hnc : (n : Int) ≤ (c2 : Int) := by omega
          have hfc2 : first ≤ c2 := by omega
          have own2f := own_drew own2e
          have own6f := own_drew own6
          have hb6f : Below w.heap.size w w6.drew := hb6.trans (below_drew' (Below.refl _ _))
          have hle6 : w.heap.size ≤ w6.drew.heap.size := hb6f.size
          have hle6b : w.heap.size ≤ w6.heap.size := hb6.size
          have hcut := Reads.cut (Reads.of_own own2f) (k := k1) hk1n k2
          rw [flat3_drop] at hcut
          have htake := (own_VR own2f).take (g := first) (by omega)
          obtain ⟨A5, hA5⟩ : ∃ A5, (if c2 = k1 then A2 else A2.map (·.add (k1 * 3))) = A5 := ⟨_, rfl⟩
          rw [hA5] at hcut
          rw [hk1] at Hloss
          have Hk1 := Lib.hid hk1
          clear own2e own6 hb6 own4e hcell hk1
          go_region_law (first
            | (refine step_append_any _ rfl (.tmp 107) (.tmp 110) 35 rfl w.heap.size 41 iP zP 3 24 sl_pulse.under i1 i2 i3 i4 i5 (by omega) _ 0 [] rfl (World.ownsRow_lit w6.drew #[] 0 hle6 (by simp [maxLen]) rfl) _ A2 first c2 _ rfl (Reads.alloc htake (Nat.le_refl _) _) (one_flat3 _) (by simp only [maxLen]; omega) (by omega) (by simp; omega) ?_
               intro v7 w7 own7 hgr7 hpl7
               have hG7 : Grew (w6.drew.alloc (.cells #[] 41)) _ v7 w7 := ⟨hgr7, hpl7.imp id (fun h => ⟨_, h, Nat.le_refl _⟩)⟩
               have own6g := hG7.keep (own6f.alloc _) (apart_new own6f _ _)
               have hap6 := hG7.apart_l (own6f.alloc _) (apart_new own6f _ _)
               have hb7 := (hb6f.alloc hle6 _).trans (hG7.below (own_ge (World.ownsRow_lit (e := 41) (size := 3) w6.drew #[] 0 hle6 (by simp [maxLen]) rfl)) (by simp; omega))
               have hcut7 := (hcut.alloc (Nat.le_refl _) _).grown hgr7 (by simp) (fun g hg => by cases hg; exact Nat.le_refl _))
            | (refine step_append_any _ rfl (.tmp 111) (.tmp 116) 35 rfl w.heap.size 41 iP zP 3 24 sl_pulse.under i1 i2 i3 i4 i5 (by omega) _ _ _ rfl own7 _ A5 (n - k1) (c2 - k1) _ rfl hcut7 (one_flat3 _) (by simp only [maxLen]; omega) (by omega) hb7.size ?_
               intro v8 w8 own8 hgr8 hpl8
               have hG8 : Grew w7 v7 v8 w8 := ⟨hgr8, hpl8.imp id (fun h => ⟨_, h, Nat.le_refl _⟩)⟩
               have own6h := hG8.keep own6g hap6
               have hb8 := hb7.trans (hG8.below (own_ge own7) hb7.size)))
          have hgap : ((fr + (3 + 2 * G) : Nat) : Int) = (fr : Int) + 3 + 2 * (G : Int) := by omega
          have hls := Hloss.out
          rw [hgap, HV.out] at hls
          have hVl := Hm.out
          obtain ⟨tf1, tf2⟩ := Ham.two_flips V at_ p q (by omega) hp hq16
          have hun := Ham.lost_unpack V (Ham.flipB (Ham.flipB (Ham.encB V) at_ p) at_ q) at_ p q Hvr.out (by omega) (by rw [Ham.flipB_len, Ham.flipB_len, Ham.encB_len]) (by omega) hp hq16 hpq tf1 tf2
          have hPl : (l.take first ++ l.drop k1).length = first + (n - k1) := by rw [List.length_append, List.length_take, List.length_drop, Hn.out]; omega
          have hdec := dec_of hun.1 hun.2.1 hls (by rw [hPl]; omega)
          have Hdc := Lib.hid (fun W (hI : IR .u8 W (some ⟨g, 0, none⟩) (2 * m) (Ham.flipB (Ham.flipB (Ham.encB V) at_ p) at_ q)) => decode_as (some ⟨g, 0, none⟩) (2 * m) c3 _ _ _ W (by simp only [maxLen]; omega) hI (Ham.flipB_range _ _ _ (Ham.flipB_range _ _ _ (Ham.encB_range V))) hdec (first + (n - k1)) 1 hPl rfl)
          clear hgap hls hVl tf1 tf2 hun hPl hdec
          have own8a := own8
          rw [Nat.zero_add, List.nil_append, ← flat3_append] at own8a
          clear own8 own7 hgr7 hgr8 hpl7 hpl8 hG7 hG8 own6g hap6 hb7 hcut7 hcut htake hA5 own2f own6f hb6f
          obtain ⟨A8, d8, rfl, k8, k8'⟩ := own_form own8a
          obtain ⟨np, hnp⟩ : ∃ np, first + (n - k1) = np := ⟨_, rfl⟩
          rw [hnp] at own8a Hdc k8 ⊢
          clear hnp
          go_wp2_with fail
          refine (Hdc.out _ (own_IR own6h)).mono ?_
          rintro e w9 ⟨v9, u9, rfl, own9, own9', hb9⟩
          obtain ⟨A9, c9, rfl, k9, k9'⟩ := own_form own9
          obtain ⟨B9, d9, rfl, l9, l9'⟩ := own_form own9'
          have own8b := own_below own8a hb9
          have hb9a := below_step hb8 hb9
          clear own6h own8a hb9 hb8 Hdc
          go_wp2_with fail
          refine (gpulses_eq _ _ _ _ _ _ _ _ (by omega) (own_VR own9) (own_VR own8b)).mono ?_
          rintro e w10 ⟨rfl, hb10⟩
          have own9b := own_below own9' hb10
          have hb10a := below_step hb9a hb10
          clear own8b hb10 hb9a own9'
          go_wp2_with fail
          have hpn := PR.new (w := w10) (cs := #[.int .i64 (fr : Int), .int .i64 ((fr : Int) + 3 + 2 * (G : Int))]) (t := 67) [((fr : Int), (fr : Int) + 3 + 2 * (G : Int))] 1 rfl rfl (by decide)
          refine (givs_eq _ _ _ _ _ _ _ _ (by decide) (own_PR (own9b.alloc _)) hpn).mono ?_
          rintro e w11 ⟨rfl, hb11⟩
          have hb11a := below_step (hb10a.alloc hb10a.size (.cells #[.int .i64 (fr : Int), .int .i64 ((fr : Int) + 3 + 2 * (G : Int))] 67)) hb11
          clear hb11 hb10a own9b hpn
          go_wp2_with fail
          refine (sane04_c _).mono ?_
          rintro e w12 ⟨rfl, hb12⟩
          go_wp2_with fail
          go_ret
          exact ⟨rfl, below_step hb11a hb12⟩
    · have hqd : decide ((p : Int) ≤ (q0 : Int)) = false := by simp; omega
      have hqd' : decide (p ≤ q0) = false := by simp; omega
      obtain ⟨q, hq⟩ : ∃ q, q0 = q := ⟨_, rfl⟩
      subst hq
      have hq16 : q0 < 16 := by omega
      have hpq : p ≠ q0 := by omega
      have hf1 := Lib.hid (flip_c w.heap.size g (2 * m) c3 at_ p (Ham.encB V) w4 (by simp only [maxLen]; omega) own3b (Ham.encB_range V) (by omega) hp)
      have hf2 := Lib.hid (fun W (hW : W.ownsRow w.heap.size 5 1 (.slice (some ⟨g, 0, none⟩) (2 * m) c3) (2 * m) ((Ham.flipB (Ham.encB V) at_ p).map (Value.int .u8))) => flip_c w.heap.size g (2 * m) c3 at_ q0 (Ham.flipB (Ham.encB V) at_ p) W (by simp only [maxLen]; omega) hW (Ham.flipB_range _ _ _ (Ham.encB_range V)) (by omega) hq16)
      go_wp2_with fail
      refine (hf1.out).mono ?_
      rintro e w5 ⟨rfl, own5, hg5⟩
      have own2d := own2c.kept hg5 (kept_ne (own_ne_type own2c own3b (by decide)) rfl)
      have own4d := own4.kept hg5 (kept_ne (own_ne_type own4 own3b (by decide)) rfl)
      have hb5 := hb4.grown hg5 hb4.size (fun b hb => by cases hb; exact own_ge own3b g rfl)
      clear hg5 own2c own4 own3b hb4
      go_wp2_with fail
      refine (hf2.out _ own5).mono ?_
      rintro e w6 ⟨rfl, own6, hg6⟩
      have own2e := own2d.kept hg6 (kept_ne (own_ne_type own2d own5 (by decide)) rfl)
      have own4e := own4d.kept hg6 (kept_ne (own_ne_type own4d own5 (by decide)) rfl)
      have hb6 := hb5.grown hg6 hb5.size (fun b hb => by cases hb; exact own_ge own5 g rfl)
      clear hg6 own2d own4d own5 hb5 hf1 hf2
      have hpos0 := Det.Pos.zero l
      go_wp2_with fail
      go_loopw [13, 14] (fun u v wr => LosR l at_ w6 u v wr) (fun u _ _ => m - (intOf u).toNat)
      case atStart => exact (show LosR _ _ _ _ _ _ from ⟨0, 0, [], rfl, rfl, hpos0, by omega, rfl⟩)
      case round =>
        clear hpos0
        obtain ⟨fr, first, P, rfl, rfl, hpos, hfa, rfl⟩ := hrel
        have hfl : first < n := by
          rcases Nat.lt_or_ge first n with hh | hh
          · exact hh
          · exfalso
            have h1 := congrArg List.length hpos.pv
            rw [List.length_append, hpos.pl, List.drop_eq_nil_of_le (by rw [Hn.out]; exact hh)] at h1
            rw [HV.out, Hm.out, show Det.vals [] = [] from rfl, List.length_nil] at h1
            omega
        have hhd := Lib.hid (Det.Pos.head hpos (by rw [Hn.out]; exact hfl))
        have hG := Det.grp_le (l.drop first)
        have hGl : (l.drop first).length = n - first := by rw [List.length_drop, Hn.out]
        have hstep := Lib.hid (hpos.step Hok.out (by rw [Hn.out]; exact hfl))
        have hloss := Lib.hid (fun h2 => Det.loss hpos Hok.out (by rw [Hn.out]; exact hfl) hfa h2)
        obtain ⟨G, hGe⟩ : ∃ G, Det.grp (l.drop first) = G := ⟨_, rfl⟩
        rw [hGe] at hhd hG hstep hloss
        obtain ⟨x, hx⟩ : ∃ x, V.getD fr 0 = x := ⟨_, rfl⟩
        have hcell := own_cell own4e (j := fr) (by omega)
        rw [hx] at hcell
        have hxG : x - 1536 = (G : Int) := by
          have := hhd.out
          rw [HV.out, hx] at this
          omega
        have hx1 : 1536 ≤ x := by omega
        have hx2 : x ≤ 1544 := by omega
        have hG2 : G ≤ 8 := by omega
        have hG3 : first + G ≤ n := by omega
        have hGi : (0 : Int) ≤ (G : Int) := by omega
        have hfrm : (fr : Int) < (m : Int) := by omega
        clear hx hGe hhd hG hGl
        by_cases hgo : fr + (4 + 2 * G) ≤ at_
        · have hgd : decide ((fr : Int) + 4 + 2 * (G : Int) ≤ (at_ : Int)) = true := by simp; omega
          clear hloss
          go_wp2_with fail
          go_roundw
          case rel => exact (show LosR _ _ _ _ _ _ from ⟨fr + (4 + 2 * G), first + G, _, vint (by omega), vint (by omega), hstep.out, hgo, rfl⟩)
          case measure => simp [intOf]; omega
        · have hgd : decide ((fr : Int) + 4 + 2 * (G : Int) ≤ (at_ : Int)) = false := by simp; omega
          have Hloss := Lib.hid (hloss.out (by omega))
          clear hloss hstep hgo
          go_wp2_with fail
          obtain ⟨iP, zP, i1, i2, i3, i4, i5⟩ := sl_pulse.info
          obtain ⟨k1, hk1⟩ : ∃ k1, first + G = k1 := ⟨_, rfl⟩
          have hk1i : (first : Int) + (G : Int) = (k1 : Int) := by omega
          have hk1w : IntKind.i64.wrap (k1 : Int) = (k1 : Int) := IntWalk.i64_in _ ⟨by omega, by omega⟩
          have hk1n : k1 ≤ n := by omega
          have hk1c : (k1 : Int) ≤ (n : Int) := by omega
          have hfc : (first : Int) ≤ (n : Int) := by omega
          have hnc : (n : Int) ≤ (c2 : Int) := by omega
          have hfc2 : first ≤ c2 := by omega
          have own2f := own_drew own2e
          have own6f := own_drew own6
          have hb6f : Below w.heap.size w w6.drew := hb6.trans (below_drew' (Below.refl _ _))
          have hle6 : w.heap.size ≤ w6.drew.heap.size := hb6f.size
          have hle6b : w.heap.size ≤ w6.heap.size := hb6.size
          have hcut := Reads.cut (Reads.of_own own2f) (k := k1) hk1n k2
          rw [flat3_drop] at hcut
          have htake := (own_VR own2f).take (g := first) (by omega)
          obtain ⟨A5, hA5⟩ : ∃ A5, (if c2 = k1 then A2 else A2.map (·.add (k1 * 3))) = A5 := ⟨_, rfl⟩
          rw [hA5] at hcut
          rw [hk1] at Hloss
          have Hk1 := Lib.hid hk1
          clear own2e own6 hb6 own4e hcell hk1
          go_region_law (first
            | (refine step_append_any _ rfl (.tmp 107) (.tmp 110) 35 rfl w.heap.size 41 iP zP 3 24 sl_pulse.under i1 i2 i3 i4 i5 (by omega) _ 0 [] rfl (World.ownsRow_lit w6.drew #[] 0 hle6 (by simp [maxLen]) rfl) _ A2 first c2 _ rfl (Reads.alloc htake (Nat.le_refl _) _) (one_flat3 _) (by simp only [maxLen]; omega) (by omega) (by simp; omega) ?_
               intro v7 w7 own7 hgr7 hpl7
               have hG7 : Grew (w6.drew.alloc (.cells #[] 41)) _ v7 w7 := ⟨hgr7, hpl7.imp id (fun h => ⟨_, h, Nat.le_refl _⟩)⟩
               have own6g := hG7.keep (own6f.alloc _) (apart_new own6f _ _)
               have hap6 := hG7.apart_l (own6f.alloc _) (apart_new own6f _ _)
               have hb7 := (hb6f.alloc hle6 _).trans (hG7.below (own_ge (World.ownsRow_lit (e := 41) (size := 3) w6.drew #[] 0 hle6 (by simp [maxLen]) rfl)) (by simp; omega))
               have hcut7 := (hcut.alloc (Nat.le_refl _) _).grown hgr7 (by simp) (fun g hg => by cases hg; exact Nat.le_refl _))
            | (refine step_append_any _ rfl (.tmp 111) (.tmp 116) 35 rfl w.heap.size 41 iP zP 3 24 sl_pulse.under i1 i2 i3 i4 i5 (by omega) _ _ _ rfl own7 _ A5 (n - k1) (c2 - k1) _ rfl hcut7 (one_flat3 _) (by simp only [maxLen]; omega) (by omega) hb7.size ?_
               intro v8 w8 own8 hgr8 hpl8
               have hG8 : Grew w7 v7 v8 w8 := ⟨hgr8, hpl8.imp id (fun h => ⟨_, h, Nat.le_refl _⟩)⟩
               have own6h := hG8.keep own6g hap6
               have hb8 := hb7.trans (hG8.below (own_ge own7) hb7.size)))
          have hgap : ((fr + (3 + 2 * G) : Nat) : Int) = (fr : Int) + 3 + 2 * (G : Int) := by omega
          have hls := Hloss.out
          rw [hgap, HV.out] at hls
          have hVl := Hm.out
          obtain ⟨tf1, tf2⟩ := Ham.two_flips V at_ p q0 (by omega) hp hq16
          have hun := Ham.lost_unpack V (Ham.flipB (Ham.flipB (Ham.encB V) at_ p) at_ q0) at_ p q0 Hvr.out (by omega) (by rw [Ham.flipB_len, Ham.flipB_len, Ham.encB_len]) (by omega) hp hq16 hpq tf1 tf2
          have hPl : (l.take first ++ l.drop k1).length = first + (n - k1) := by rw [List.length_append, List.length_take, List.length_drop, Hn.out]; omega
          have hdec := dec_of hun.1 hun.2.1 hls (by rw [hPl]; omega)
          have Hdc := Lib.hid (fun W (hI : IR .u8 W (some ⟨g, 0, none⟩) (2 * m) (Ham.flipB (Ham.flipB (Ham.encB V) at_ p) at_ q0)) => decode_as (some ⟨g, 0, none⟩) (2 * m) c3 _ _ _ W (by simp only [maxLen]; omega) hI (Ham.flipB_range _ _ _ (Ham.flipB_range _ _ _ (Ham.encB_range V))) hdec (first + (n - k1)) 1 hPl rfl)
          clear hgap hls hVl tf1 tf2 hun hPl hdec
          have own8a := own8
          rw [Nat.zero_add, List.nil_append, ← flat3_append] at own8a
          clear own8 own7 hgr7 hgr8 hpl7 hpl8 hG7 hG8 own6g hap6 hb7 hcut7 hcut htake hA5 own2f own6f hb6f
          obtain ⟨A8, d8, rfl, k8, k8'⟩ := own_form own8a
          obtain ⟨np, hnp⟩ : ∃ np, first + (n - k1) = np := ⟨_, rfl⟩
          rw [hnp] at own8a Hdc k8 ⊢
          clear hnp
          go_wp2_with fail
          refine (Hdc.out _ (own_IR own6h)).mono ?_
          rintro e w9 ⟨v9, u9, rfl, own9, own9', hb9⟩
          obtain ⟨A9, c9, rfl, k9, k9'⟩ := own_form own9
          obtain ⟨B9, d9, rfl, l9, l9'⟩ := own_form own9'
          have own8b := own_below own8a hb9
          have hb9a := below_step hb8 hb9
          clear own6h own8a hb9 hb8 Hdc
          go_wp2_with fail
          refine (gpulses_eq _ _ _ _ _ _ _ _ (by omega) (own_VR own9) (own_VR own8b)).mono ?_
          rintro e w10 ⟨rfl, hb10⟩
          have own9b := own_below own9' hb10
          have hb10a := below_step hb9a hb10
          clear own8b hb10 hb9a own9'
          go_wp2_with fail
          have hpn := PR.new (w := w10) (cs := #[.int .i64 (fr : Int), .int .i64 ((fr : Int) + 3 + 2 * (G : Int))]) (t := 67) [((fr : Int), (fr : Int) + 3 + 2 * (G : Int))] 1 rfl rfl (by decide)
          refine (givs_eq _ _ _ _ _ _ _ _ (by decide) (own_PR (own9b.alloc _)) hpn).mono ?_
          rintro e w11 ⟨rfl, hb11⟩
          have hb11a := below_step (hb10a.alloc hb10a.size (.cells #[.int .i64 (fr : Int), .int .i64 ((fr : Int) + 3 + 2 * (G : Int))] 67)) hb11
          clear hb11 hb10a own9b hpn
          go_wp2_with fail
          refine (sane04_c _).mono ?_
          rintro e w12 ⟨rfl, hb12⟩
          go_wp2_with fail
          go_ret
          exact ⟨rfl, below_step hb11a hb12⟩
end Go.Proofs.Ytjlfdkkaljlmjaa
