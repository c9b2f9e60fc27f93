/- The walk of 'SectionThrough'. -/
import Derived.Test.YtjlfdkkaljlmjaaSectionAddsW
import Derived.Test.YtjlfdkkaljlmjaaSecThrP
namespace Go.Proofs.Ytjlfdkkaljlmjaa
open Go.RowKit
theorem through_ok (A : Option Addr) (n c k : Nat) (l : List V3) (w : World) (hn : n ≤ maxLen) (h : VR w A n l) (he : Sec.vErr l = 0) (hk : (Sec.thr l).length = k) :
    Calls Try.prog 16 #[.slice A n c] w fun e w' => ∃ v, e = .returned (.tuple #[v, .int .i64 0]) ∧ w'.ownsRow w.heap.size 3 1 v k ((Sec.thr l).map (Value.int .i64)) ∧ Below w.heap.size w w' := by
  refine (through_c A n c l w hn h).mono fun e w' ⟨v, h1, h2, h3⟩ => ⟨v, by rw [h1, he], ?_, h3⟩
  rw [Sec.thrR, if_pos he, hk] at h2
  exact h2
theorem balance_ok (A B : Option Addr) (n c m d : Nat) (l p : List V3) (w : World) (hn : n ≤ maxLen) (hm : m ≤ maxLen) (h : VR w A n l) (hp : VR w B m p) (hc : Sec.chk l p 0 = 0) (hx : Sec.bal l p = 0) :
    Calls Try.prog 29 #[.slice A n c, .slice B m d] w fun e w' => e = .returned (.tuple #[.int .i64 0, .int .i64 0]) ∧ Below w.heap.size w w' :=
  (balance_c A B n c m d l p w hn hm h hp).mono fun _ _ ⟨h1, h2⟩ => ⟨by rw [h1, hc, Sec.balR, if_pos hc, hx], h2⟩
def ThrA (w : World) (v2 : Value) (n : Nat) (q : List V3) (A : Option Addr) (m d b : Nat) (u v : Value) (wr : World) : Prop :=
  ∃ k : Nat, k ≤ m ∧ v = .int .i64 k ∧ wr.ownsRow w.heap.size 41 3 u k (flat3 ((q.take k).map (Sec.inner b))) ∧ apart u (.slice A m d) ∧ apart v2 u ∧ wr.ownsRow w.heap.size 24 3 v2 (2 * n) (flat3 (Sec.chain n)) ∧ wr.ownsRow w.heap.size 41 3 (.slice A m d) m (flat3 q) ∧ Below w.heap.size w wr
def ThrB (w0 : World) (m : Nat) (v : Value) (wr : World) : Prop := ∃ i : Nat, i ≤ m + 1 ∧ v = .int .i64 i ∧ Below w0.heap.size w0 wr
set_option linter.unusedVariables false in
set_option maxRecDepth 100000 in
set_option maxHeartbeats 4000000 in
theorem walk_SectionThrough (a0 : Option Addr) (len0 cap0 : Nat) (z0 : List Int) (w : World) (w0 : IsRow .i64 w a0 len0 cap0 z0) :
    Calls Try.prog 8 #[.slice a0 len0 cap0] w fun e w' => e = .returned (.bool true) ∧ Below w.heap.size w w' := by
  obtain ⟨r0, m0, _⟩ := w0.reads
  clear w0
  generalize z0.take len0 = l0 at r0
  go_enter Try.func8, Try.ntmps8
  go_wp2_with fail
  refine (new_c _ _ _ _ _ m0 r0).mono ?_
  rintro e w1 ⟨rfl, hm1, hb1, hz1⟩
  go_wp2_with fail
  refine (from_c w.heap.size w.heap.size 0 2 6 w1 hm1 (by omega) (by omega) (by omega) (by omega)).mono ?_
  rintro e w2 ⟨x, hx2, hx6, rfl, hm2, hg2⟩
  obtain ⟨n, rfl⟩ := Int.eq_ofNat_of_zero_le (show 0 ≤ x by omega)
  have hn2 : 2 ≤ n := by omega
  have hn6 : n ≤ 6 := by omega
  have hb2 := hb1.trans (grown_below hg2 hb1.size (Nat.le_refl _))
  clear hm1 hg2 hz1 hx2 hx6
  go_wp2_with fail
  refine (chain_c _ n w2 (by omega)).mono ?_
  rintro e w3 ⟨v3, rfl, own3, hb3⟩
  have hm3 := hm2.below hb3
  have hb3a := below_step hb2 hb3
  obtain ⟨A3, d3, rfl, k3, k3'⟩ := own_form own3
  obtain ⟨hE, hV⟩ := Sec.chain_ok n (by omega)
  have HE := Lib.hid hE
  have HV := Lib.hid hV
  have Hthr := Lib.hid (show (Sec.thr (Sec.chain n)).length = n - 1 by have := Sec.chain_thr n (by omega) hn2; omega)
  clear hE hV hb3 hm2
  go_wp2_with fail
  refine (through_ok A3 (2 * n) d3 (n - 1) (Sec.chain n) w3 (by omega) (own_VR own3) HE.out Hthr.out).mono ?_
  rintro e w4 ⟨v4, rfl, own4, hb4⟩
  obtain ⟨A4, d4, rfl, k4, k4'⟩ := own_form own4
  have hm4 := hm3.below hb4
  have own3a := own_more (own_below own3 hb4) hb2.size
  have hb4a := below_step hb3a hb4
  have en : ((n - 1 : Nat) : Int) = (n : Int) - 1 := by omega
  obtain ⟨b, hb⟩ : ∃ b, n - 1 = b := ⟨_, rfl⟩
  rw [hb] at own4 k4 en ⊢
  have en' : ((b : Int) != (n : Int) - 1) = false := by simpa using en
  have en2 : (n : Int) - 1 = (b : Int) := by omega
  have hb1 : 1 ≤ b := by omega
  have Hb := Lib.hid hb
  clear hm3 hb4 own3 hb own4 hb3a hb2 en
  go_wp2_with fail
  refine (pulses_c w.heap.size w.heap.size (0 + 1) 30 w4 hm4 (by omega) (by omega)).mono ?_
  rintro e w5 ⟨v5, q, c5', rfl, own5, hq30, hmP, hc5, hm5, hg5⟩
  have own3b := own3a.kept hg5 (.inr (hm4.ne own3a (by decide)))
  have hb5 := hb4a.trans (grown_below hg5 hb4a.size (Nat.le_refl _))
  have hq6 := Lib.hid hmP.det
  have hqok := Lib.hid hmP.ok
  have own5a := own_more own5 hb4a.size
  clear hm4 hg5 hm5 hmP own3a hb4a own5
  obtain ⟨m, hm⟩ : ∃ m, q.length = m := ⟨_, rfl⟩
  rw [hm] at own5a hq30
  have Hm := Lib.hid hm
  clear hm
  obtain ⟨A5, d5, rfl, k5, k5'⟩ := own_form own5a
  have hap53 : apart (.slice A3 (2 * n) d3) (.slice none 0 0) := by
    by_cases h : (Value.slice A3 (2 * n) d3).ownBlock = none
    · exact .inl h
    · exact .inr (by rw [show (Value.slice none 0 0).ownBlock = none from rfl]; exact h)
  go_wp2_with fail
  go_loopw [8, 38] (fun u v wr => ThrA w (.slice A3 (2 * n) d3) n q A5 m d5 b u v wr) (fun _ v _ => m - (intOf v).toNat)
  case atStart => exact (show ThrA _ _ _ _ _ _ _ _ _ _ _ from ⟨0, by omega, rfl, World.ownsRow_nil _ _ _ _, .inl rfl, hap53, own3b, own5a, hb5⟩)
  case round =>
    obtain ⟨k, hk, rfl, ownu, hap1, hap2, ownl, ownq, hbr⟩ := hrel
    by_cases hlt : k < m
    · obtain ⟨ad, ⟨pa, pb, pc⟩, rfl, hba, hp, c1, c2, c3⟩ := (own_VR ownq).at_ hlt
      have Htk := Lib.hid (take_snoc3 hp)
      have hox := Det.okP_all (Det.vGo_valid q none hqok.out _ (List.mem_of_getElem? hp))
      have ho6 := hq6.out _ (List.mem_of_getElem? hp)
      simp only at c1 c2 c3 hox ho6
      obtain ⟨o1, o2, o3, o4, o5⟩ := hox
      obtain ⟨y, hy⟩ : ∃ y, pa % (b : Int) = y := ⟨_, rfl⟩
      have hy1 : 0 ≤ y := by rw [← hy]; exact Int.emod_nonneg _ (by omega)
      have hy2 : y < b := by rw [← hy]; exact Int.emod_lt_of_pos _ (by omega)
      have Hin := Lib.hid (show Sec.inner b ⟨pa, pb, pc⟩ = ⟨1 + y, pb, pc⟩ by rw [← hy]; rfl)
      clear hp o5
      go_wp2_with (at_builtin; refine wpList_pushb sl_pulse rfl (.tmp 49) (.tmp 51) rfl w.heap.size _ _ _ rfl (ownu.alloc _) 1 1 (wr.heap.size + 1) (by simp) rfl rfl rfl (by simp only [maxLen]; omega) (by omega) (by have := hbr.size; simp; omega) ?_; intro v6 w6 own6 hgr6)
      have own7 : w6.ownsRow w.heap.size 41 3 v6 (k + 1) (flat3 ((q.take (k + 1)).map (Sec.inner b))) := by
        rw [Htk.out, List.map_append, flat3_append, List.map_cons, Hin.out]
        exact own6
      have hap3 := hgr6.apart_l (ownl.alloc _) hap2
      have hap4 := hgr6.apart_l (ownq.alloc _) hap1.symm
      have ownl7 := hgr6.keep (ownl.alloc _) hap2
      have ownq7 := hgr6.keep (ownq.alloc _) hap1.symm
      have hb7 := (hbr.alloc hbr.size _).trans (hgr6.below (own_ge ownu) (by have := hbr.size; simp; omega))
      clear own6 hgr6 ownu ownl ownq hbr c1 c2 c3 hap1 hap2
      go_wp2_with fail
      go_roundw
      case rel => exact (show ThrA _ _ _ _ _ _ _ _ _ _ _ from ⟨k + 1, by omega, by go_num, own7, hap4.symm, hap3, ownl7, ownq7, hb7⟩)
      case measure => simp [intOf]; omega
    · obtain rfl : k = m := by omega
      rw [List.take_of_length_le (by rw [Hm.out]; exact Nat.le_refl _)] at ownu
      obtain ⟨A8, d8, rfl, k8, k8'⟩ := own_form ownu
      have vl := own_VR ownl
      have vu := own_VR ownu
      clear ownl ownu ownq hap1 hap2 hap53
      have hw3 := hbr.size
      have Hbal := Lib.hid (fun i => Sec.inner_bal n hn2 (by omega) q hqok.out i)
      have Hchk := Lib.hid (fun i => Sec.chk_take (s := 0) (l := Sec.chain n) (p := q.map (Sec.inner b)) i HV.out (by rw [Sec.chain_len]; omega) (Sec.vGo_map (Sec.inner b) (Sec.inner_ok b hb1) q none hqok.out hq6.out) (by rw [List.length_map, Hm.out]; omega) (by decide))
      rw [Hb.out] at Hbal
      obtain ⟨wo, hwo⟩ : ∃ wo : World, wo = wr := ⟨_, rfl⟩
      subst hwo
      go_wp2_with fail
      go_loopw [11] (fun v wr => ThrB wo k v wr) (fun v _ => k + 1 - (intOf v).toNat)
      case atStart => exact (show ThrB _ _ _ _ from ⟨0, by omega, rfl, Below.refl _ _⟩)
      case round =>
        obtain ⟨i, hi, rfl, hbr2⟩ := hrel
        have vl1 := vl.below hbr2
        have vu1 := vu.below hbr2
        by_cases him : i ≤ k
        · go_wp2_with fail
          refine (balance_ok _ _ _ _ i _ _ ((q.map (Sec.inner b)).take i) _ (by omega) (by omega) vl1 (vu1.take (g := i) (by omega)) (Hchk.out i) (Hbal.out i)).mono ?_
          rintro e w7 ⟨rfl, hb7⟩
          go_wp2_with fail
          go_roundw
          case rel => exact (show ThrB _ _ _ _ from ⟨i + 1, by omega, by go_num, below_step hbr2 hb7⟩)
          case measure => simp [intOf]; omega
        · go_wp2_with fail
          refine (sane05_c _).mono ?_
          rintro e w5 ⟨rfl, hb5⟩
          go_wp2_with fail
          go_ret
          exact ⟨rfl, hbr.trans ((below_step hbr2 hb5).mono hw3)⟩
end Go.Proofs.Ytjlfdkkaljlmjaa
