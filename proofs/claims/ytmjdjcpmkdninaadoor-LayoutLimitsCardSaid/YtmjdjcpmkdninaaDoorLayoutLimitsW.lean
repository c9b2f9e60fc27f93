/- The walk of 'LayoutLimits'. -/
import Derived.Test.YtmjdjcpmkdninaaDoorLyLim
namespace Go.Proofs.YtmjdjcpmkdninaaDoor
open Go.RowKit
theorem lim_size {l : List LE} (h : ∀ x ∈ l, Ly.LimOk x) : ∀ x ∈ l, x.nm.size ≤ maxLen := fun x hx => by have := (h x hx).1; unfold maxLen; omega
theorem lim_wf {l : List LE} (h : ∀ x ∈ l, Ly.LimOk x) : ∀ x ∈ l, (Lit.int .i64 x.p).wf = true ∧ (Lit.int .i64 x.sd).wf = true := fun x hx => by
  have h1 := (h x hx).2.1
  have h2 := (h x hx).2.2
  exact ⟨wf_small (by omega), wf_small (by omega)⟩
theorem fmt_bad {l : List LE} (h : Ly.vErr l = 3) : Ly.fmt l = ([], 3) := by unfold Ly.fmt; rw [h]; rfl
theorem lfmtBad_c (A : Option Addr) (n c : Nat) (l : List LE) (w : World) (hn : n ≤ maxLen) (h : LR w A n l) (hs : ∀ x ∈ l, x.nm.size ≤ maxLen) (hi : ∀ x ∈ l, (Lit.int .i64 x.p).wf = true ∧ (Lit.int .i64 x.sd).wf = true) (ht : Tab10 w) (hv : Ly.vErr l = 3) :
    Calls Tryd.prog 12 #[.slice A n c] w fun e w' => e = .returned (.tuple #[.string ⟨#[]⟩, .int .i64 3]) ∧ Below w.heap.size w w' := by
  refine (lformat_c A n c l w hn h hs hi ht).mono ?_
  rintro e w' ⟨he, hb⟩
  rw [fmt_bad hv] at he
  exact ⟨he, hb⟩
/-- A slice that is tried. -/
def LimL (w : World) (b j : Nat) (A : Option Addr) (n c : Nat) (l : List LE) (r : Nat) : Prop := w.cell? ⟨b, j, none⟩ = some (.slice A n c) ∧ LR w A n l ∧ n ≤ 1000 ∧ (∀ x ∈ l, Ly.LimOk x) ∧ Ly.vErr l = (if r = 2 then 3 else 0)
theorem LimL.below {w w' : World} {b j : Nat} {A : Option Addr} {n c : Nat} {l : List LE} {r : Nat} (h : LimL w b j A n c l r) (hb : Below w.heap.size w w') : LimL w' b j A n c l r := ⟨keep_cell hb h.1, h.2.1.below hb, h.2.2⟩
def LimI (w1 : World) (vi : Value) (wr : World) : Prop := ∃ t : Nat, t ≤ 2 ∧ vi = .int .i64 (t : Int) ∧ Below w1.heap.size w1 wr
set_option linter.unusedVariables false in
set_option maxRecDepth 100000 in
set_option maxHeartbeats 8000000 in
theorem walk_LayoutLimits (a0 : Int) (mx : Int) (w : World) (w0 : (Lit.int .i64 a0).wf = true) (hmx : w.cell? ⟨1, 0, none⟩ = some (.int .i64 mx)) (ht : Tab10 w) :
    Calls Tryd.prog 3 #[.int .i64 a0] w fun e w' => e = .returned (.bool true) ∧ Below w.heap.size w w' := by
  obtain ⟨r, hr, hrx⟩ := inMod a0 3 (by omega)
  have t0 := tmod_bd a0 3 (by omega)
  have hr3 : r < 3 := by omega
  obtain ⟨P, hP⟩ : ∃ P : Nat, 125 + r = P := ⟨_, rfl⟩
  obtain ⟨Q, hQ⟩ : ∃ Q : Nat, 30 + r = Q := ⟨_, rfl⟩
  have hPx : (125 : Int) + (r : Int) = (P : Int) := by omega
  have hQx : (30 : Int) + (r : Int) = (Q : Int) := by omega
  have HP := Lib.hid (Ly.line_v r hr3)
  have HQ := Lib.hid (Ly.fan_v r hr3)
  rw [hP] at HP
  rw [hQ] at HQ
  have HPl := Lib.hid (Ly.line_lim (n := P) (by omega))
  have HQl := Lib.hid (Ly.fan_lim (n := Q) (by omega))
  have hP1 : P ≤ 127 := by omega
  have hQ1 : Q ≤ 32 := by omega
  clear hP hQ
  go_enter Tryd.func3, Tryd.ntmps3
  go_wp2_with fail
  refine (line_c P w (by omega)).mono ?_
  rintro e w1 ⟨v, rfl, own1, hb1⟩
  obtain ⟨A1, c1, rfl, _, _⟩ := own_form own1
  have hR1 := own_LR own1
  clear own1
  go_wp2_with fail
  refine (fan_c Q w1 (by omega)).mono ?_
  rintro e w2 ⟨v, rfl, own2, hb2⟩
  obtain ⟨A2, c2, rfl, _, _⟩ := own_form own2
  have hR2 := own_LR own2
  have hR1' := hR1.below hb2
  have hb2' := below_step hb1 hb2
  clear own2 hR1 hb1 hb2
  have hk := Blk.new w2 22 #[.slice A1 (P + 2) c1, .slice A2 (2 * Q + 2) c2]
  have hbk := hb2'.alloc hb2'.size (.cells #[.slice A1 (P + 2) c1, .slice A2 (2 * Q + 2) c2] 22)
  have hal : Below w2.heap.size w2 (w2.alloc (.cells #[.slice A1 (P + 2) c1, .slice A2 (2 * Q + 2) c2] 22)) := (Below.refl _ _).alloc (Nat.le_refl _) _
  have HL1 := Lib.hid (show LimL (w2.alloc (.cells #[.slice A1 (P + 2) c1, .slice A2 (2 * Q + 2) c2] 22)) w2.heap.size 0 A1 (P + 2) c1 (Ly.lineL P) r from ⟨hk.cell 0, hR1'.below hal, by omega, HPl.out, HP.out⟩)
  have HL2 := Lib.hid (show LimL (w2.alloc (.cells #[.slice A1 (P + 2) c1, .slice A2 (2 * Q + 2) c2] 22)) w2.heap.size 1 A2 (2 * Q + 2) c2 (Ly.fanL Q) r from ⟨hk.cell 1, hR2.below hal, by omega, HQl.out, HQ.out⟩)
  obtain ⟨w3, hw3⟩ : ∃ w3, w2.alloc (.cells #[.slice A1 (P + 2) c1, .slice A2 (2 * Q + 2) c2] 22) = w3 := ⟨_, rfl⟩
  have key : ∀ t : Nat, t < 2 → ∃ A n c l, Hid (LimL w3 w2.heap.size t A n c l r) := by
    intro t ht2
    rw [← hw3]
    have h2 : t = 0 ∨ t = 1 := by omega
    rcases h2 with rfl | rfl
    · exact ⟨_, _, _, _, HL1⟩
    · exact ⟨_, _, _, _, HL2⟩
  have HK := Lib.hid key
  rw [hw3] at hbk
  clear hk hal HL1 HL2 hR1' hR2 hb2' key
  go_wp2_with fail
  clear hw3
  go_loopw [22] (fun vi wr => LimI w3 vi wr) (fun vi _ => 2 - (intOf vi).toNat)
  case atStart => exact (show LimI _ _ _ from ⟨0, by omega, rfl, Below.refl _ _⟩)
  case round =>
    obtain ⟨t, ht2, rfl, hbr⟩ := hrel
    have hbw := hbk.trans (hbr.mono hbk.size)
    by_cases hlt : t < 2
    · have hlti : (t : Int) < 2 := by omega
      obtain ⟨A, n, c, l, HL⟩ := HK.out t hlt
      have HL3 := Lib.hid (HL.out.below hbr)
      obtain ⟨hc, hR, hn, hlo, hv⟩ := HL3.out
      have Hlo := Lib.hid hlo
      have Hv := Lib.hid hv
      have hll := hR.len
      clear hlo hv HL HL3
      have hnm : n ≤ maxLen := by unfold maxLen; omega
      by_cases hr2 : r = 2
      · have d1 : decide ((1 : Int) < (r : Int)) = true := decide_eq_true (by omega)
        have d1' : decide (1 < r) = true := decide_eq_true (by omega)
        have Hv3 := Lib.hid (Hv.out.trans (if_pos hr2))
        have HF := Lib.hid (lfmtBad_c A n c l wr hnm hR (lim_size Hlo.out) (lim_wf Hlo.out) (ht.below hbw) Hv3.out)
        clear hr2
        go_wp2_with fail
        refine HF.out.mono ?_
        rintro e w4 ⟨rfl, hb4⟩
        have hb4' := hbr.trans (hb4.mono hbr.size)
        go_wp2_with fail
        refine (lvalid_c A n c l w4 hnm (hR.below hb4) (lim_size Hlo.out) (lim_wf Hlo.out)).mono ?_
        rintro e w5 ⟨rfl, hb5⟩
        rw [Hv3.out]
        have hb5' := hb4'.trans (hb5.mono hb4'.size)
        go_wp2_with fail
        go_roundw
        case rel => exact (show LimI _ _ _ from ⟨t + 1, by omega, by go_num, hb5'⟩)
        case measure => simp [intOf]; omega
      · have d1 : decide ((1 : Int) < (r : Int)) = false := decide_eq_false (by omega)
        have d1' : decide (1 < r) = false := decide_eq_false (by omega)
        have Hv0 := Lib.hid (Hv.out.trans (if_neg hr2))
        have HF := Lib.hid (lfmtOk_c A n c l wr hnm hR (Ly.vErr_leok Hv0.out) (ht.below hbw) Hv0.out)
        have Hp := Lib.hid (Ly.parse_fmt Hv0.out)
        have hl128 := (Ly.vErr_zero Hv0.out).1
        have Hlen := Lib.hid (Ly.fmtL_len (Ly.vErr_zero Hv0.out).2.2.1)
        obtain ⟨s, hs⟩ : ∃ s, baOf (Ly.fmtL l) = s := ⟨_, rfl⟩
        have hs2 : s.size ≤ 16384 := by rw [← hs, Ly.baOf_size]; have := Hlen.out; omega
        rw [hs] at HF Hp
        clear hr2 hs
        go_wp2_with fail
        refine HF.out.mono ?_
        rintro e w4 ⟨rfl, hb4⟩
        have hb4' := hbr.trans (hb4.mono hbr.size)
        have hbw4 := below_step hbw hb4
        have hR4 := hR.below hb4
        clear HF hR
        go_wp2_with fail
        refine (lparse_c s mx _ (by unfold maxLen; omega) (keep_cell hbw4 hmx)).mono ?_
        rintro e w5 ⟨A5, n5, c5, rfl, hR5, hn5, _, hb5⟩
        rw [Hp.out] at hR5 ⊢
        have hb5' := hb4'.trans (hb5.mono hb4'.size)
        have hR45 := hR4.below hb5
        clear hR4
        go_wp2_with fail
        refine (elems_c A A5 n n5 c c5 l w5 hnm hR45 hR5).mono ?_
        rintro e w6 ⟨rfl, hb6⟩
        have hb6' := hb5'.trans (hb6.mono hb5'.size)
        go_wp2_with fail
        go_roundw
        case rel => exact (show LimI _ _ _ from ⟨t + 1, by omega, by go_num, hb6'⟩)
        case measure => simp [intOf]; omega
    · obtain rfl : t = 2 := by omega
      go_wp2_with fail
      refine (lsane_c mx wr (keep_cell hbw hmx) (ht.below hbw)).mono ?_
      rintro e w5 ⟨rfl, hb5⟩
      go_wp2_with fail
      go_ret
      exact ⟨rfl, below_step hbw hb5⟩
end Go.Proofs.YtmjdjcpmkdninaaDoor
