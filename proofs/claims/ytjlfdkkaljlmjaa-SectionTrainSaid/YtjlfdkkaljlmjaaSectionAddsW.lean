/- The walk of 'SectionAdds'. -/
import Derived.Test.YtjlfdkkaljlmjaaSecS
import Derived.Test.YtjlfdkkaljlmjaaSecLaws
import Derived.Test.YtjlfdkkaljlmjaaGenBorders
namespace Go.Proofs.Ytjlfdkkaljlmjaa
open Go.RowKit
/-- Count, of valid arguments. -/
theorem count_ok (A B : Option Addr) (n c m d : Nat) (l p : List V3) (s r x : Int) (w : World) (hn : n ≤ maxLen) (hm : m ≤ maxLen) (h : VR w A n l) (hp : VR w B m p) (hc : Sec.chk l p s = 0) (hx : (Sec.cnt l p s r).1 = x) :
    Calls Try.prog 23 #[.slice A n c, .slice B m d, .int .i64 s, .int .i64 r] w fun e w' => e = .returned (.tuple #[.int .i64 x, .int .i64 0]) ∧ Below w.heap.size w w' :=
  (scount_c A B n c m d l p s r w hn hm h hp).mono fun _ _ ⟨h1, h2⟩ => ⟨by rw [h1, hc, Sec.cntR, if_pos hc, hx], h2⟩
theorem state_ok (A B : Option Addr) (n c m d : Nat) (l p : List V3) (s r x : Int) (w : World) (hn : n ≤ maxLen) (hm : m ≤ maxLen) (h : VR w A n l) (hp : VR w B m p) (hc : Sec.chk l p s = 0) (hx : Sec.stOf (Sec.cnt l p s r) = x) :
    Calls Try.prog 26 #[.slice A n c, .slice B m d, .int .i64 s, .int .i64 r] w fun e w' => e = .returned (.tuple #[.int .i64 x, .int .i64 0]) ∧ Below w.heap.size w w' :=
  (sstate_c A B n c m d l p s r w hn hm h hp).mono fun _ _ ⟨h1, h2⟩ => ⟨by rw [h1, hc, Sec.stR, if_pos hc, hx], h2⟩
def AddR (p : List V3) (m : Nat) (r : Int) (w7 : World) (v : Value) (wr : World) : Prop := ∃ k : Nat, k ≤ m ∧ v = .int .i64 k ∧ Hid (∀ x ∈ p.take k, x.b ≤ r) ∧ w7 = wr
set_option linter.unusedVariables false in
set_option maxRecDepth 100000 in
set_option maxHeartbeats 4000000 in
theorem walk_SectionAdds (a0 : Option Addr) (len0 cap0 : Nat) (z0 : List Int) (a1 : Int) (w : World) (w0 : IsRow .i64 w a0 len0 cap0 z0) (w1 : (Lit.int .i64 a1).wf = true) :
    Calls Try.prog 4 #[.slice a0 len0 cap0, .int .i64 a1] w fun e w' => e = .returned (.bool true) ∧ Below w.heap.size w w' := by
  obtain ⟨r0, m0, _⟩ := w0.reads
  clear w0
  generalize z0.take len0 = l0 at r0
  go_enter Try.func4, Try.ntmps4
  go_wp2_with fail
  refine (new_c _ _ _ _ _ m0 r0).mono ?_
  rintro e w1 ⟨rfl, hm1, hb1, hz1⟩
  go_wp2_with fail
  refine (borders_c w.heap.size w.heap.size 0 10 w1 hm1 (by omega) (by omega) hb1.size).mono ?_
  rintro e w2 ⟨v2, l, c2', rfl, own2, hl10, hmB, hc2, hm2, hg2⟩
  have hb2 := hb1.trans (grown_below hg2 hb1.size (Nat.le_refl _))
  go_wp2_with fail
  refine (pulses_c w.heap.size w.heap.size c2' 20 w2 hm2 (by omega) (by omega)).mono ?_
  rintro e w3 ⟨v3, p, c3', rfl, own3, hp20, hmP, hc3, hm3, hg3⟩
  have own2a := own2.kept hg3 (.inr (hm2.ne own2 (by decide)))
  have hb3 := hb2.trans (grown_below hg3 hb2.size (Nat.le_refl _))
  clear own2 hm2 hm1 hg2 hg3 hz1 hb1
  go_wp2_with fail
  refine (next_c w.heap.size w.heap.size c3' 4 w3 hm3 (by omega) (by omega) (by omega)).mono ?_
  rintro e w4 ⟨s, hs0, hs1, rfl, hm4, hg4⟩
  have own2b := own2a.kept hg4 (.inr (hm3.ne own2a (by decide)))
  have own3b := own3.kept hg4 (.inr (hm3.ne own3 (by decide)))
  have hb4 := hb3.trans (grown_below hg4 hb3.size (Nat.le_refl _))
  clear own2a own3 hm3 hm4 hg4 hb2 hb3
  have hin : Sec.inB s = true := by simp [Sec.inB]; omega
  have Hall := Lib.hid (fun (k : Nat) => And.intro (Sec.chk_all (s := s) hmB.ok (by omega) hmP.ok (by omega) hin) (And.intro (Sec.chk_take (s := s) k hmB.ok (by omega) hmP.ok (by omega) hin) (Sec.chk_drop (s := s) k hmB.ok (by omega) hmP.ok (by omega) hin)))
  have Hok := Lib.hid hmP.ok
  have hcr := Lib.hid (fun q r => Sec.cnt_range l (Sec.vGo_valid l [] hmB.ok) s r (List.length q) q rfl)
  have Hval := Lib.hid (Det.vGo_valid p none hmP.ok)
  clear hmB hmP hin
  obtain ⟨n, hn⟩ : ∃ n, l.length = n := ⟨_, rfl⟩
  obtain ⟨m, hm⟩ : ∃ m, p.length = m := ⟨_, rfl⟩
  rw [hn] at own2b hl10
  rw [hm] at own3b hp20
  obtain ⟨A2, d2, rfl, k2, k2'⟩ := own_form own2b
  obtain ⟨A3, d3, rfl, k3, k3'⟩ := own_form own3b
  obtain ⟨t, ht, htx⟩ := inM a1 ((m : Int) + 1) (by omega)
  have tb := tmod_bd a1 ((m : Int) + 1) (by omega)
  obtain ⟨y, hy⟩ : ∃ y, a1.tmod ((m : Int) + 1) = y := ⟨_, rfl⟩
  rw [hy] at htx tb
  have htx' : (y + (m : Int) + 1) % ((m : Int) + 1) = (t : Int) := by rw [Int.add_assoc]; exact htx
  have htm : (t : Int) ≤ (m : Int) := by omega
  clear htx
  have Hn := Lib.hid hn
  have Hm := Lib.hid hm
  clear hn hm
  have vl := own_VR own2b
  have vp := own_VR own3b
  clear own2b own3b
  have HA := Lib.hid (Sec.cnt_add l p s (-1) t)
  have Ha := hcr.out p (-1) (fun x hx => (Det.okP_all (Hval.out x hx)).2.2.2.2)
  have Hb := hcr.out (p.take t) (-1) (fun x hx => (Det.okP_all (Hval.out x (List.mem_of_mem_take hx))).2.2.2.2)
  have Hc := hcr.out (p.drop t) (-1) (fun x hx => (Det.okP_all (Hval.out x (List.mem_of_mem_drop hx))).2.2.2.2)
  rw [Hm.out] at Ha
  rw [List.length_take, Hm.out] at Hb
  rw [List.length_drop, Hm.out] at Hc
  obtain ⟨xa, hxa⟩ : ∃ x, (Sec.cnt l p s (-1)).1 = x := ⟨_, rfl⟩
  obtain ⟨xb, hxb⟩ : ∃ x, (Sec.cnt l (p.take t) s (-1)).1 = x := ⟨_, rfl⟩
  obtain ⟨xc, hxc⟩ : ∃ x, (Sec.cnt l (p.drop t) s (-1)).1 = x := ⟨_, rfl⟩
  have hsum : xa = xb + xc := by rw [← hxa, ← hxb, ← hxc]; exact HA.out
  rw [hxa] at Ha
  rw [hxb] at Hb
  rw [hxc] at Hc
  have B1 : -(20 : Int) ≤ xa ∧ xa ≤ 20 := by omega
  have B2 : -(20 : Int) ≤ xb ∧ xb ≤ 20 := by omega
  have B3 : -(20 : Int) ≤ xc ∧ xc ≤ 20 := by omega
  clear Ha Hb Hc HA
  have Hxa := Lib.hid hxa
  have Hxb := Lib.hid hxb
  have Hxc := Lib.hid hxc
  have esum : (xa != xb + xc) = false := by simpa using hsum
  have Hsum := Lib.hid hsum
  clear hxa hxb hxc hsum
  go_wp2_with fail
  refine (count_ok _ _ _ _ _ _ l p s (-1) xa _ (by omega) (by omega) vl vp (Hall.out 0).1 Hxa.out).mono ?_
  rintro e w5 ⟨rfl, hb5⟩
  have vl5 := vl.below hb5
  have vp5 := vp.below hb5
  have hb5a := below_step hb4 hb5
  clear vl vp hb4 hb5
  go_wp2_with fail
  refine (count_ok _ _ _ _ _ _ l (p.take t) s (-1) xb _ (by omega) (by omega) vl5 (vp5.take (g := t) (by omega)) (Hall.out t).2.1 Hxb.out).mono ?_
  rintro e w6 ⟨rfl, hb6⟩
  have vl6 := vl5.below hb6
  have vp6 := vp5.below hb6
  have hb6a := below_step hb5a hb6
  clear vl5 vp5 hb5a hb6
  have vcut := vp6.cut (g := t) (by omega) k3
  obtain ⟨A4, hA4⟩ : ∃ A4, (if d3 = t then A3 else A3.map (·.add (t * 3))) = A4 := ⟨_, rfl⟩
  rw [hA4] at vcut
  go_wp2_with fail
  clear hA4
  refine (count_ok _ _ _ _ _ _ l (p.drop t) s (-1) xc _ (by omega) (by omega) vl6 vcut (Hall.out t).2.2 Hxc.out).mono ?_
  rintro e w7 ⟨rfl, hb7⟩
  have vl7 := vl6.below hb7
  have vp7 := vp6.below hb7
  have hb7a := below_step hb6a hb7
  clear vl6 vp6 hb6a hb7 hy htx' htm tb
  by_cases hm0 : m = 0
  · subst hm0
    go_wp2_with fail
    refine (sane05_c _).mono ?_
    rintro e w8 ⟨rfl, hb8⟩
    go_wp2_with fail
    go_ret
    exact ⟨rfl, below_step hb7a hb8⟩
  · have hm1 : 0 < m := by omega
    have em : ((m : Int) == 0) = false := by simp; omega
    obtain ⟨q, hq⟩ : ∃ q, m / 2 = q := ⟨_, rfl⟩
    have hqm : q < m := by omega
    have hqi : (m : Int) / 2 = (q : Int) := by omega
    obtain ⟨ad, ⟨pa, r, pc⟩, rfl, hba, hp, c1, c2, c3⟩ := vp7.at_ hqm
    simp only at c1 c2 c3
    have hr0 := Det.okP_time (Hval.out _ (List.mem_of_getElem? hp))
    simp only at hr0
    clear hq hp c1 c3
    go_wp2_with fail
    have hret : ∀ k : Nat, k ≤ m → (∀ x ∈ p.take k, x.b ≤ r) → (∀ q, p[k]? = some q → r < q.b) → Hid (xa = (Sec.cnt l (p.take k) s (-1)).1 + (Sec.cnt l p s r).1) := fun k _ h1 h2 => Lib.hid (by rw [← Hxa.out]; exact Sec.cnt_reset l p s r k Hok.out (by omega) h1 h2)
    have Hret := Lib.hid hret
    clear hret c2 em hqi hqm
    go_loopw [16] (fun v wr => AddR p m r w7 v wr) (fun v _ => m - (intOf v).toNat)
    case atStart => exact (show AddR _ _ _ _ _ _ from ⟨0, by omega, rfl, Lib.hid (by simp), rfl⟩)
    case round =>
      obtain ⟨k, hk, rfl, hlo, rfl⟩ := hrel
      by_cases hlt : k < m
      · obtain ⟨ad', ⟨qa, qb, qc⟩, he', hba', hp, g1, g2, g3⟩ := vp7.at_ hlt
        obtain rfl := Option.some.inj he'
        simp only at g2
        have Hp := Lib.hid hp
        clear hp he' g1 g3
        by_cases hle : qb ≤ r
        · go_wp2_with fail
          go_roundw
          case rel =>
            refine (show AddR _ _ _ _ _ _ from ⟨k + 1, by omega, by go_num, Lib.hid ?_, rfl⟩)
            rw [take_snoc3 Hp.out]
            intro x hx
            rcases List.mem_append.1 hx with hx | hx
            · exact hlo.out x hx
            · simp at hx; subst hx; exact hle
          case measure => simp [intOf]; omega
        · have hd := Hret.out k hk hlo.out (fun q hq => by rw [Hp.out] at hq; cases hq; simp only; omega)
          have Hd := hd
          clear hd
          have Hb2 := hcr.out (p.take k) (-1) (fun x hx => (Det.okP_all (Hval.out x (List.mem_of_mem_take hx))).2.2.2.2)
          have Hc2 := hcr.out p r (fun x hx => (Det.okP_all (Hval.out x hx)).2.2.2.2)
          rw [List.length_take, Hm.out] at Hb2
          rw [Hm.out] at Hc2
          obtain ⟨yb, hyb⟩ : ∃ x, (Sec.cnt l (p.take k) s (-1)).1 = x := ⟨_, rfl⟩
          obtain ⟨yc, hyc⟩ : ∃ x, (Sec.cnt l p s r).1 = x := ⟨_, rfl⟩
          rw [hyb] at Hb2 Hd
          rw [hyc] at Hc2 Hd
          have D2 : -(20 : Int) ≤ yb ∧ yb ≤ 20 := by omega
          have D3 : -(20 : Int) ≤ yc ∧ yc ≤ 20 := by omega
          have Hyb := Lib.hid hyb
          have Hyc := Lib.hid hyc
          have esum2 : (xa == yb + yc) = true := by have := Hd.out; simpa using this
          clear hyb hyc Hb2 Hc2 Hd
          go_wp2_with fail
          refine (count_ok _ _ _ _ _ _ l (p.take k) s (-1) yb _ (by omega) (by omega) vl7 (vp7.take (g := k) (by omega)) (Hall.out k).2.1 Hyb.out).mono ?_
          rintro e w8 ⟨rfl, hb8⟩
          have vl8 := vl7.below hb8
          have vp8 := vp7.below hb8
          have hb8a := below_step hb7a hb8
          clear hb8 vl7 vp7 hb7a
          go_wp2_with fail
          refine (count_ok _ _ _ _ _ _ l p s r yc _ (by omega) (by omega) vl8 vp8 (Hall.out 0).1 Hyc.out).mono ?_
          rintro e w9 ⟨rfl, hb9⟩
          have hb9a := below_step hb8a hb9
          clear hb9 vl8 vp8 hb8a
          go_wp2_with fail
          refine (sane05_c _).mono ?_
          rintro e w10 ⟨rfl, hb10⟩
          go_wp2_with fail
          go_ret
          exact ⟨rfl, below_step hb9a hb10⟩
      · obtain rfl : k = m := by omega
        have hd := Hret.out k hk hlo.out (fun q hq => by have := (List.getElem?_eq_some_iff.1 hq).1; have := Hm.out; omega)
        have Hd := hd
        clear hd
        have Hb2 := hcr.out (p.take k) (-1) (fun x hx => (Det.okP_all (Hval.out x (List.mem_of_mem_take hx))).2.2.2.2)
        have Hc2 := hcr.out p r (fun x hx => (Det.okP_all (Hval.out x hx)).2.2.2.2)
        rw [List.length_take, Hm.out] at Hb2
        rw [Hm.out] at Hc2
        obtain ⟨yb, hyb⟩ : ∃ x, (Sec.cnt l (p.take k) s (-1)).1 = x := ⟨_, rfl⟩
        obtain ⟨yc, hyc⟩ : ∃ x, (Sec.cnt l p s r).1 = x := ⟨_, rfl⟩
        rw [hyb] at Hb2 Hd
        rw [hyc] at Hc2 Hd
        have D2 : -(20 : Int) ≤ yb ∧ yb ≤ 20 := by omega
        have D3 : -(20 : Int) ≤ yc ∧ yc ≤ 20 := by omega
        have Hyb := Lib.hid hyb
        have Hyc := Lib.hid hyc
        have esum2 : (xa == yb + yc) = true := by have := Hd.out; simpa using this
        clear hyb hyc Hb2 Hc2 Hd
        go_wp2_with fail
        refine (count_ok _ _ _ _ _ _ l (p.take k) s (-1) yb _ (by omega) (by omega) vl7 (vp7.take (g := k) (by omega)) (Hall.out k).2.1 Hyb.out).mono ?_
        rintro e w8 ⟨rfl, hb8⟩
        have vl8 := vl7.below hb8
        have vp8 := vp7.below hb8
        have hb8a := below_step hb7a hb8
        clear hb8 vl7 vp7 hb7a
        go_wp2_with fail
        refine (count_ok _ _ _ _ _ _ l p s r yc _ (by omega) (by omega) vl8 vp8 (Hall.out 0).1 Hyc.out).mono ?_
        rintro e w9 ⟨rfl, hb9⟩
        have hb9a := below_step hb8a hb9
        clear hb9 vl8 vp8 hb8a
        go_wp2_with fail
        refine (sane05_c _).mono ?_
        rintro e w10 ⟨rfl, hb10⟩
        go_wp2_with fail
        go_ret
        exact ⟨rfl, below_step hb9a hb10⟩
end Go.Proofs.Ytjlfdkkaljlmjaa
