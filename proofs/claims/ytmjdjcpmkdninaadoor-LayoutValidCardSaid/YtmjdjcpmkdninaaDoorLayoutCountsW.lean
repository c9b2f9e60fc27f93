/- The walk of 'LayoutCounts' (printed by wip/tools/mklc.py). -/
import Derived.Test.YtmjdjcpmkdninaaDoorLyG5
namespace Go.Proofs.YtmjdjcpmkdninaaDoor
open Go.RowKit
namespace Ly
theorem switches_take {l : List LE} {t : Nat} {x : LE} (hx : l[t]? = some x) : switches (l.take (t + 1)) = switches (l.take t) + if x.k = 3 then 1 else 0 := by
  unfold switches
  rw [List.take_add_one, hx, List.countP_append]
  by_cases h : x.k = 3 <;> simp [h]
theorem switches_le (l : List LE) (t : Nat) : switches (l.take t) ≤ t := by
  unfold switches
  have h1 := List.countP_le_length (p := fun x : LE => decide (x.k = 3)) (l := l.take t)
  have h2 := List.length_take_le t l
  omega
theorem first_crest {l : List LE} (h : Fits l) {x : LE} (hx : l[0]? = some x) : x.k = 0 ∧ x.p = -1 := by
  have h0 := (h.first hx).2 rfl
  have := (sound_bd (h.snd hx)).2.1 h0
  exact ⟨h0, by rw [this]⟩
end Ly
theorem LeSp.of_ok {l : List LE} (h : ∀ x ∈ l, Ly.LeOk x) (hv : Ly.vErr l = 0) : ∀ x ∈ l, LeSp x := by
  obtain ⟨h1, _, h3, _⟩ := Ly.vErr_zero hv
  intro x hx
  obtain ⟨i, hi⟩ := Ly.mem_at hx
  have ho := h x hx
  refine ⟨by have := ho.size; omega, ?_, by have := ho.2.2; omega⟩
  rcases Nat.eq_zero_or_pos i with e | e
  · subst e
    have := (Ly.first_crest h3 hi).2
    omega
  · obtain ⟨y, _, h5, h6, _⟩ := h3.behind e hi
    have := (List.getElem?_eq_some_iff.1 hi).1
    omega
theorem leSp_size {l : List LE} (h : ∀ x ∈ l, LeSp x) : ∀ x ∈ l, x.nm.size ≤ maxLen := fun x hx => by have := (h x hx).1; unfold maxLen; omega
theorem leSp_wf {l : List LE} (h : ∀ x ∈ l, LeSp x) : ∀ x ∈ l, (Lit.int .i64 x.p).wf = true ∧ (Lit.int .i64 x.sd).wf = true := fun x hx => by
  have h1 := (h x hx).2.1
  have h2 := (h x hx).2.2
  exact ⟨wf_small (by omega), wf_small (by omega)⟩
def CtI (l : List LE) (n : Nat) (w : World) (vt vs vi : Value) (wr : World) : Prop := ∃ t : Nat, t ≤ n ∧ vi = .int .i64 (t : Int) ∧ vt = .int .i64 (Ly.tracks (l.take t) : Int) ∧ vs = .int .i64 (Ly.switches (l.take t) : Int) ∧ Below w.heap.size w wr
def CtO (w : World) (vi : Value) (wr : World) : Prop := ∃ i c : Nat, i ≤ 4 ∧ vi = .int .i64 (i : Int) ∧ c ≤ 1000 * i ∧ Mk w.heap.size wr w.heap.size c ∧ Below w.heap.size w wr
set_option linter.unusedVariables false in
set_option maxRecDepth 100000 in
set_option maxHeartbeats 8000000 in
theorem walk_LayoutCounts (a0 : Option Addr) (len0 cap0 : Nat) (z0 : List Int) (mx : Int) (w : World) (w0 : IsRow .i64 w a0 len0 cap0 z0) (hmx : w.cell? ⟨1, 0, none⟩ = some (.int .i64 mx)) (ht : Tab10 w) :
    Calls Tryd.prog 8 #[.slice a0 len0 cap0] w fun e w' => e = .returned (.bool true) ∧ Below w.heap.size w w' := by
  obtain ⟨r0, m0, _⟩ := w0.reads
  clear w0
  generalize z0.take len0 = l0 at r0
  go_enter Tryd.func8, Tryd.ntmps8
  go_wp2_with fail
  refine (new_c _ _ _ _ _ m0 r0).mono ?_
  rintro e w1 ⟨rfl, hm1, hb1, hz1⟩
  clear r0 m0
  go_wp2_with fail
  go_loopw [4] (fun vi wr => CtO w vi wr) (fun vi _ => 4 - (intOf vi).toNat)
  case atStart => exact (show CtO _ _ _ from ⟨0, 0, by omega, rfl, by omega, hm1, hb1⟩)
  case round =>
    obtain ⟨i, c, hi4, rfl, hc, hmk, hbr⟩ := hrel
    clear hm1 hb1 hz1
    by_cases hlt : i < 4
    case neg =>
      obtain rfl : i = 4 := by omega
      go_wp2_with fail
      refine (lsane_c mx _ (keep_cell hbr hmx) (ht.below hbr)).mono ?_
      rintro e w4 ⟨rfl, hb4⟩
      go_wp2_with fail
      go_ret
      exact ⟨rfl, below_step hbr hb4⟩
    case pos =>
      have hlti : (i : Int) < 4 := by omega
      have hbs := hbr.size
      go_wp2_with fail
      refine (lmade_c w.heap.size w.heap.size c 8 _ hmk (by omega) (by omega) hbr.size).mono ?_
      rintro e w2 ⟨A, n, cp, l, c2, rfl, _, hR, hn1, _, _, Hok, HL, hc2, hm2, hg2⟩
      have hb2 := hbr.trans (grown_below hg2 hbr.size (Nat.le_refl _))
      clear hmk hg2
      have hll := hR.len
      by_cases hi2 : 1 < i
      case neg =>
        have d2 : decide ((1 : Int) < (i : Int)) = false := decide_eq_false (by omega)
        have d2' : decide (1 < i) = false := decide_eq_false hi2
        go_wp2_with fail
        refine (lvalid_c A n cp l w2 (by unfold maxLen; omega) hR (leOk_size HL.out) (leOk_wf HL.out)).mono ?_
        rintro e w3 ⟨rfl, hbv⟩
        rw [Hok.out]
        have hfit := Lib.hid (Ly.vErr_zero Hok.out).2.2.1
        have Hcts := Lib.hid (Ly.counts Hok.out)
        have hmq := hm2.below hbv
        have hbq := below_step hb2 hbv
        have hRq := hR.below hbv
        have hlq : l.length = n := hll
        clear hm2 hb2 hR hbv
        go_wp2_with fail
        go_loopw [6, 7, 30] (fun vt vs vi wr => CtI l n w3 vt vs vi wr) (fun _ _ vi _ => n - (intOf vi).toNat)
        case atStart => exact (show CtI _ _ _ _ _ _ _ from ⟨0, by omega, rfl, rfl, rfl, Below.refl _ _⟩)
        case round =>
          obtain ⟨t, htn, rfl, rfl, rfl, hbi⟩ := hrel
          have HTl := Lib.hid (Ly.tracks_le (l := l) (t := t))
          have HSl := Lib.hid (Ly.switches_le l t)
          have hmi := hmq.below hbi
          have hRi := hRq.below hbi
          by_cases hlt2 : t < n
          · have hlti2 : (t : Int) < (n : Int) := by omega
            obtain ⟨ad, x, hae, _, hx, x0, x1, x2, x3, x4, x5, x6, x7⟩ := hRi.at_ hlt2
            subst hae
            have HTk := Lib.hid (Ly.tracks_take hx)
            have HSk := Lib.hid (Ly.switches_take hx)
            obtain ⟨T, hT⟩ : ∃ T, Ly.tracks (l.take t) = T := ⟨_, rfl⟩
            obtain ⟨S, hS⟩ : ∃ S, Ly.switches (l.take t) = S := ⟨_, rfl⟩
            rw [hT] at HTk HTl
            rw [hS] at HSk HSl
            have hTl := HTl.out
            have hSl := HSl.out
            rw [hT, hS]
            clear hT hS
            have hpp : (t = 0 ∧ x.k = 0 ∧ x.p = -1) ∨ (0 < t ∧ 0 ≤ x.p ∧ x.p < (t : Int)) := by
              rcases Nat.eq_zero_or_pos t with e | e
              · subst e
                exact .inl ⟨rfl, Ly.first_crest hfit.out hx⟩
              · obtain ⟨y, _, h5, h6, _⟩ := hfit.out.behind e hx
                exact .inr ⟨e, h5, h6⟩
            have e1 : decide ((t : Int) ≤ x.p) = false := decide_eq_false (by omega)
            have hbj := hbi.alloc hbi.size (.cells #[.int .i64 x.k, .string x.nm, .int .i64 x.p, .int .i64 x.sd, .int .i64 x.len, .int .i64 x.g, .int .i64 x.c, .int .i64 x.pw] 48)
            clear hx
            rcases hpp with ⟨hte, hk0, hp1⟩ | ⟨ht0, hp0, hp1⟩
            · have e2 : decide ((0 : Int) < (t : Int)) = false := decide_eq_false (by omega)
              have e2' : decide (0 < t) = false := decide_eq_false (by omega)
              have k4 : (x.k == 4) = false := by simp; omega
              have k3 : (x.k == 3) = false := by simp; omega
              have HT2 := Lib.hid (HTk.out.trans (by rw [if_neg (by omega), Nat.add_zero]))
              have HS2 := Lib.hid (HSk.out.trans (by rw [if_neg (by omega), Nat.add_zero]))
              clear hk0 hp1 hte
              go_wp2_with fail
              go_roundw
              case rel => exact (show CtI _ _ _ _ _ _ _ from ⟨t + 1, by omega, by go_num, by rw [HT2.out], by rw [HS2.out], hbj⟩)
              case measure => simp [intOf]; omega
            · have e2 : decide ((0 : Int) < (t : Int)) = true := decide_eq_true (by omega)
              have e2' : decide (0 < t) = true := decide_eq_true ht0
              have e3 : decide (x.p < 0) = false := decide_eq_false (by omega)
              clear hp0 hp1 ht0
              by_cases hk4 : x.k = 4
              · have k4 : (x.k == 4) = true := by simp [hk4]
                have k3 : (x.k == 3) = false := by simp; omega
                have HT2 := Lib.hid (HTk.out.trans (by rw [if_pos hk4]))
                have HS2 := Lib.hid (HSk.out.trans (by rw [if_neg (by omega), Nat.add_zero]))
                clear hk4
                go_wp2_with fail
                go_roundw
                case rel => exact (show CtI _ _ _ _ _ _ _ from ⟨t + 1, by omega, by go_num, by rw [HT2.out]; go_num, by rw [HS2.out], hbj⟩)
                case measure => simp [intOf]; omega
              · by_cases hk3 : x.k = 3
                · have k4 : (x.k == 4) = false := by simp [hk4]
                  have k3 : (x.k == 3) = true := by simp [hk3]
                  have HT2 := Lib.hid (HTk.out.trans (by rw [if_neg hk4, Nat.add_zero]))
                  have HS2 := Lib.hid (HSk.out.trans (by rw [if_pos hk3]))
                  clear hk4 hk3
                  go_wp2_with fail
                  go_roundw
                  case rel => exact (show CtI _ _ _ _ _ _ _ from ⟨t + 1, by omega, by go_num, by rw [HT2.out], by rw [HS2.out]; go_num, hbj⟩)
                  case measure => simp [intOf]; omega
                · have k4 : (x.k == 4) = false := by simp [hk4]
                  have k3 : (x.k == 3) = false := by simp [hk3]
                  have HT2 := Lib.hid (HTk.out.trans (by rw [if_neg hk4, Nat.add_zero]))
                  have HS2 := Lib.hid (HSk.out.trans (by rw [if_neg hk3, Nat.add_zero]))
                  clear hk4 hk3
                  go_wp2_with fail
                  go_roundw
                  case rel => exact (show CtI _ _ _ _ _ _ _ from ⟨t + 1, by omega, by go_num, by rw [HT2.out], by rw [HS2.out], hbj⟩)
                  case measure => simp [intOf]; omega
          · obtain rfl : t = n := by omega
            have hta : l.take t = l := List.take_of_length_le (by omega)
            rw [hta] at HTl HSl ⊢
            obtain ⟨S, hS⟩ : ∃ S, Ly.switches l = S := ⟨_, rfl⟩
            have hTS : Ly.tracks l = S + 1 := by rw [Hcts.out, hS]
            rw [hS] at HSl
            have hSl := HSl.out
            rw [hTS, hS]
            have dT : ((((S + 1 : Nat) : Int)) != ((S : Int) + 1)) = false := by simp
            have dT' : (((S : Int) + 1) != ((S : Int) + 1)) = false := by simp
            have hbf := below_step hbq hbi
            clear hta hTS hS hRq hmq
            go_wp2_with fail
            go_roundw
            case rel => exact (show CtO _ _ _ from ⟨i + 1, c2, by omega, by go_num, by omega, hmi, hbf⟩)
            case measure => simp [intOf]; omega
      case pos =>
        have d2 : decide ((1 : Int) < (i : Int)) = true := decide_eq_true (by omega)
        have d2' : decide (1 < i) = true := decide_eq_true hi2
        have d3 : decide ((i : Int) < 2) = false := decide_eq_false (by omega)
        have d3' : decide (i < 2) = false := decide_eq_false (by omega)
        go_wp2_with fail
        refine (spoilLayout_c w.heap.size w.heap.size c2 n cp A l w2 hm2 (by omega) (by omega) hb2.size hR (LeSp.of_ok HL.out Hok.out)).mono ?_
        rintro e w5 ⟨A5, n5, cp5, l5, c5, rfl, own5, hn5, Hs5, hc5, hm5, hg5⟩
        have hb5 := hb2.trans (grown_below hg5 hb2.size (Nat.le_refl _))
        have hR5 := own_LR own5
        have hl5 := hR5.len
        have HSp := Lib.hid Hs5
        clear hm2 hb2 hR own5 hg5 Hs5
        go_wp2_with fail
        refine (lvalid_c A5 n5 cp5 l5 w5 (by unfold maxLen; omega) hR5 (leSp_size HSp.out) (leSp_wf HSp.out)).mono ?_
        rintro e w3 ⟨rfl, hbv⟩
        by_cases hv : Ly.vErr l5 = 0
        case neg =>
          have dv : (Ly.vErr l5 != 0) = true := by simpa using hv
          clear hv
          go_wp2_with fail
          go_roundw
          case rel => exact (show CtO _ _ _ from ⟨i + 1, c5, by omega, by go_num, by omega, hm5.below hbv, below_step hb5 hbv⟩)
          case measure => simp [intOf]; omega
        case pos =>
          have HV := Lib.hid hv
          rw [hv]
          clear hv
          have hfit := Lib.hid (Ly.vErr_zero HV.out).2.2.1
          have Hcts := Lib.hid (Ly.counts HV.out)
          have hmq := hm5.below hbv
          have hbq := below_step hb5 hbv
          have hRq := hR5.below hbv
          have hlq : l5.length = n5 := hl5
          clear hm5 hb5 hR5 hbv
          go_wp2_with fail
          go_loopw [6, 7, 30] (fun vt vs vi wr => CtI l5 n5 w3 vt vs vi wr) (fun _ _ vi _ => n5 - (intOf vi).toNat)
          case atStart => exact (show CtI _ _ _ _ _ _ _ from ⟨0, by omega, rfl, rfl, rfl, Below.refl _ _⟩)
          case round =>
            obtain ⟨t, htn, rfl, rfl, rfl, hbi⟩ := hrel
            have HTl := Lib.hid (Ly.tracks_le (l := l5) (t := t))
            have HSl := Lib.hid (Ly.switches_le l5 t)
            have hmi := hmq.below hbi
            have hRi := hRq.below hbi
            by_cases hlt2 : t < n5
            · have hlti2 : (t : Int) < (n5 : Int) := by omega
              obtain ⟨ad, x, hae, _, hx, x0, x1, x2, x3, x4, x5, x6, x7⟩ := hRi.at_ hlt2
              subst hae
              have HTk := Lib.hid (Ly.tracks_take hx)
              have HSk := Lib.hid (Ly.switches_take hx)
              obtain ⟨T, hT⟩ : ∃ T, Ly.tracks (l5.take t) = T := ⟨_, rfl⟩
              obtain ⟨S, hS⟩ : ∃ S, Ly.switches (l5.take t) = S := ⟨_, rfl⟩
              rw [hT] at HTk HTl
              rw [hS] at HSk HSl
              have hTl := HTl.out
              have hSl := HSl.out
              rw [hT, hS]
              clear hT hS
              have hpp : (t = 0 ∧ x.k = 0 ∧ x.p = -1) ∨ (0 < t ∧ 0 ≤ x.p ∧ x.p < (t : Int)) := by
                rcases Nat.eq_zero_or_pos t with e | e
                · subst e
                  exact .inl ⟨rfl, Ly.first_crest hfit.out hx⟩
                · obtain ⟨y, _, h5, h6, _⟩ := hfit.out.behind e hx
                  exact .inr ⟨e, h5, h6⟩
              have e1 : decide ((t : Int) ≤ x.p) = false := decide_eq_false (by omega)
              have hbj := hbi.alloc hbi.size (.cells #[.int .i64 x.k, .string x.nm, .int .i64 x.p, .int .i64 x.sd, .int .i64 x.len, .int .i64 x.g, .int .i64 x.c, .int .i64 x.pw] 48)
              clear hx
              rcases hpp with ⟨hte, hk0, hp1⟩ | ⟨ht0, hp0, hp1⟩
              · have e2 : decide ((0 : Int) < (t : Int)) = false := decide_eq_false (by omega)
                have e2' : decide (0 < t) = false := decide_eq_false (by omega)
                have k4 : (x.k == 4) = false := by simp; omega
                have k3 : (x.k == 3) = false := by simp; omega
                have HT2 := Lib.hid (HTk.out.trans (by rw [if_neg (by omega), Nat.add_zero]))
                have HS2 := Lib.hid (HSk.out.trans (by rw [if_neg (by omega), Nat.add_zero]))
                clear hk0 hp1 hte
                go_wp2_with fail
                go_roundw
                case rel => exact (show CtI _ _ _ _ _ _ _ from ⟨t + 1, by omega, by go_num, by rw [HT2.out], by rw [HS2.out], hbj⟩)
                case measure => simp [intOf]; omega
              · have e2 : decide ((0 : Int) < (t : Int)) = true := decide_eq_true (by omega)
                have e2' : decide (0 < t) = true := decide_eq_true ht0
                have e3 : decide (x.p < 0) = false := decide_eq_false (by omega)
                clear hp0 hp1 ht0
                by_cases hk4 : x.k = 4
                · have k4 : (x.k == 4) = true := by simp [hk4]
                  have k3 : (x.k == 3) = false := by simp; omega
                  have HT2 := Lib.hid (HTk.out.trans (by rw [if_pos hk4]))
                  have HS2 := Lib.hid (HSk.out.trans (by rw [if_neg (by omega), Nat.add_zero]))
                  clear hk4
                  go_wp2_with fail
                  go_roundw
                  case rel => exact (show CtI _ _ _ _ _ _ _ from ⟨t + 1, by omega, by go_num, by rw [HT2.out]; go_num, by rw [HS2.out], hbj⟩)
                  case measure => simp [intOf]; omega
                · by_cases hk3 : x.k = 3
                  · have k4 : (x.k == 4) = false := by simp [hk4]
                    have k3 : (x.k == 3) = true := by simp [hk3]
                    have HT2 := Lib.hid (HTk.out.trans (by rw [if_neg hk4, Nat.add_zero]))
                    have HS2 := Lib.hid (HSk.out.trans (by rw [if_pos hk3]))
                    clear hk4 hk3
                    go_wp2_with fail
                    go_roundw
                    case rel => exact (show CtI _ _ _ _ _ _ _ from ⟨t + 1, by omega, by go_num, by rw [HT2.out], by rw [HS2.out]; go_num, hbj⟩)
                    case measure => simp [intOf]; omega
                  · have k4 : (x.k == 4) = false := by simp [hk4]
                    have k3 : (x.k == 3) = false := by simp [hk3]
                    have HT2 := Lib.hid (HTk.out.trans (by rw [if_neg hk4, Nat.add_zero]))
                    have HS2 := Lib.hid (HSk.out.trans (by rw [if_neg hk3, Nat.add_zero]))
                    clear hk4 hk3
                    go_wp2_with fail
                    go_roundw
                    case rel => exact (show CtI _ _ _ _ _ _ _ from ⟨t + 1, by omega, by go_num, by rw [HT2.out], by rw [HS2.out], hbj⟩)
                    case measure => simp [intOf]; omega
            · obtain rfl : t = n5 := by omega
              have hta : l5.take t = l5 := List.take_of_length_le (by omega)
              rw [hta] at HTl HSl ⊢
              obtain ⟨S, hS⟩ : ∃ S, Ly.switches l5 = S := ⟨_, rfl⟩
              have hTS : Ly.tracks l5 = S + 1 := by rw [Hcts.out, hS]
              rw [hS] at HSl
              have hSl := HSl.out
              rw [hTS, hS]
              have dT : ((((S + 1 : Nat) : Int)) != ((S : Int) + 1)) = false := by simp
              have dT' : (((S : Int) + 1) != ((S : Int) + 1)) = false := by simp
              have hbf := below_step hbq hbi
              clear hta hTS hS hRq hmq
              go_wp2_with fail
              go_roundw
              case rel => exact (show CtO _ _ _ from ⟨i + 1, c5, by omega, by go_num, by omega, hmi, hbf⟩)
              case measure => simp [intOf]; omega
end Go.Proofs.YtmjdjcpmkdninaaDoor
