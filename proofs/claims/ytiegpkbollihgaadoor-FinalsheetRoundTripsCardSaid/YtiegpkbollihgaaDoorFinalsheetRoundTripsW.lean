/- The walk of 'FinalsheetRoundTrips'. -/
import Derived.Test.YtiegpkbollihgaaDoorFnMade
import Derived.Test.YtiegpkbollihgaaDoorFnW10
import Derived.Test.YtiegpkbollihgaaDoorFnSane
import Derived.Test.YtiegpkbollihgaaDoorFnSame
import Derived.Test.YtiegpkbollihgaaDoorFnOk
namespace Go.Proofs.YtiegpkbollihgaaDoor
open Go.RowKit
def FrI (w : World) (xb : Nat) (v4 v57 : Value) (W : World) : Prop := ∃ (i : Nat) (A : Option Addr) (n c : Nat) (Bs : Option Addr) (m d : Nat) (f : FN) (b0 b1 b2 b3 b4 b5 b6 : Int), i ≤ 3 ∧ v4 = .bool false ∧ v57 = .int .i64 (i : Int) ∧ Blk W xb 28 #[.string f.nm, .slice A n c, .int .i64 b0, .int .i64 b1, .int .i64 b2, .int .i64 b3, .int .i64 b4, .int .i64 b5, .int .i64 b6, .slice Bs m d] ∧ Below w.heap.size w W
set_option linter.unusedVariables false in
set_option maxRecDepth 100000 in
set_option maxHeartbeats 16000000 in
theorem walk_FinalsheetRoundTrips (a0 : Option Addr) (len0 cap0 : Nat) (z0 : List Int) (t1 : ByteArray) (mx : Int) (w : World) (w0 : IsRow .i64 w a0 len0 cap0 z0) (w1 : t1.size ≤ maxLen) (hmx : w.cell? ⟨0, 0, none⟩ = some (.int .i64 mx)) (ht : Tab10 w) :
    Calls Tryd.prog 5 #[.slice a0 len0 cap0, .string t1] w fun e w' => e = .returned (.bool true) ∧ Below w.heap.size w w' := by
  obtain ⟨r0, m0, _⟩ := w0.reads
  clear w0
  generalize z0.take len0 = l0 at r0
  have HN := Lib.hid (new_c a0 len0 cap0 l0 w m0 r0)
  clear r0
  go_enter Tryd.func5, Tryd.ntmps5
  go_wp2_with fail
  refine HN.out.mono ?_
  rintro e w1' ⟨rfl, hm1, hb1, hz1⟩
  obtain ⟨g, hg⟩ : ∃ g, w.heap.size = g := ⟨_, rfl⟩
  rw [hg] at hm1
  have hgw : g ≤ w.heap.size := by omega
  have hgw' : w.heap.size ≤ g := by omega
  have hs1 := hb1.size
  clear hz1 HN
  go_wp2_with fail
  refine (fmade_c g g 0 12 w1' hm1 (by omega) (by omega) (by have := hm1.lt; omega)).mono ?_
  rintro e w2 ⟨A, m, cp, Bs, k, d, f, b0, b1, b2, b3, b4, b5, b6, c2, rfl, HOK, Hbk, oW2, oS2, hc2, hm2, hg2⟩
  have oW := own_more (B' := g) oW2 (by have := hm1.lt; omega)
  have oS := own_more (B' := g) oS2 (by have := hm1.lt; omega)
  have hb2 : Below w.heap.size w w2 := hb1.trans (grown_below hg2 hs1 (by omega))
  clear oW2 oS2 hg2 hm1 hb1 hs1
  obtain ⟨xb, hxb⟩ : ∃ xb, w2.heap.size = xb := ⟨_, rfl⟩
  obtain ⟨W3, hW3⟩ : ∃ W3, w2.alloc (.cells #[.string f.nm, .slice A m cp, .int .i64 b0, .int .i64 b1, .int .i64 b2, .int .i64 b3, .int .i64 b4, .int .i64 b5, .int .i64 b6, .slice Bs k d] 28) = W3 := ⟨_, rfl⟩
  have hX3 : Blk W3 xb 28 #[.string f.nm, .slice A m cp, .int .i64 b0, .int .i64 b1, .int .i64 b2, .int .i64 b3, .int .i64 b4, .int .i64 b5, .int .i64 b6, .slice Bs k d] := by rw [← hW3, ← hxb]; exact Blk.new w2 _ _
  have oW3 : W3.ownsRow g 34 8 (.slice A m cp) m (flatW f.ws) := by rw [← hW3]; exact oW.alloc _
  have oS3 : W3.ownsRow g 39 3 (.slice Bs k d) k (flatS f.so) := by rw [← hW3]; exact oS.alloc _
  have hm3 : Mk g W3 g c2 := by rw [← hW3]; exact hm2.alloc _
  have hb3 : Below w.heap.size w W3 := by rw [← hW3]; exact hb2.alloc hb2.size _
  have hgxb : g < xb := by rw [← hxb]; exact hm2.lt
  clear oW oS hm2 hb2
  have hFR3 := ok_FR oW3 oS3 HOK.out
  have hb7 : f.bk.length = 7 := by rw [Hbk.out]; rfl
  have HFm := Lib.hid (fformat_c A m cp Bs k d f b0 b1 b2 b3 b4 b5 b6 W3 Hbk.out hFR3 (ht.below hb3))
  unfold FFormatR at HFm
  rw [ok_fmt HOK.out] at HFm
  simp only at HFm
  have hpz := ok_parse HOK.out hb7
  have hlen := Fn.len_fmt HOK.out.err hb7
  obtain ⟨S, hS⟩ : ∃ S, baOf (Fn.fmtL f) = S := ⟨_, rfl⟩
  have hSz : S.size ≤ 9000 := by rw [← hS, Fn.ba_size]; exact hlen
  rw [hS] at HFm hpz
  have HPz := Lib.hid hpz
  unfold fnV at HFm
  have x0 : W3.cell? ⟨xb, 0, none⟩ = some (.string f.nm) := hX3.cell 0
  have x1 : W3.cell? ⟨xb, 1, none⟩ = some (.slice A m cp) := hX3.cell 1
  have x2 : W3.cell? ⟨xb, 2, none⟩ = some (.int .i64 b0) := hX3.cell 2
  have x3 : W3.cell? ⟨xb, 3, none⟩ = some (.int .i64 b1) := hX3.cell 3
  have x4 : W3.cell? ⟨xb, 4, none⟩ = some (.int .i64 b2) := hX3.cell 4
  have x5 : W3.cell? ⟨xb, 5, none⟩ = some (.int .i64 b3) := hX3.cell 5
  have x6 : W3.cell? ⟨xb, 6, none⟩ = some (.int .i64 b4) := hX3.cell 6
  have x7 : W3.cell? ⟨xb, 7, none⟩ = some (.int .i64 b5) := hX3.cell 7
  have x8 : W3.cell? ⟨xb, 8, none⟩ = some (.int .i64 b6) := hX3.cell 8
  have x9 : W3.cell? ⟨xb, 9, none⟩ = some (.slice Bs k d) := hX3.cell 9
  clear hpz hlen hb7 hS
  unfold fnV
  go_wp2_with fail
  refine HFm.out.mono ?_
  rintro e w4 ⟨rfl, hb4⟩
  have hm4 := hm3.below hb4
  have hX4 := hX3.below hb4 hX3.lt
  have hFR4 := hFR3.below hb4
  have hbw4 := below_step hb3 hb4
  clear x0 x1 x2 x3 x4 x5 x6 x7 x8 x9 hm3 hX3 oW3 oS3 hb3 hFR3 HFm hb4
  go_wp2_with fail
  refine (fparse_c S mx w4 (by unfold maxLen; omega) (keep_cell hbw4 hmx)).mono ?_
  rintro e w5 hP5
  unfold FParseR at hP5
  rw [HPz.out] at hP5
  obtain ⟨A2, m2, cp2, Bs2, k2, d2, p0, p1, p2, p3, p4, p5, p6, rfl, hbk2, hFR5, _, hb5⟩ := hP5
  obtain ⟨rfl, rfl, rfl, rfl, rfl, rfl, rfl⟩ : b0 = p0 ∧ b1 = p1 ∧ b2 = p2 ∧ b3 = p3 ∧ b4 = p4 ∧ b5 = p5 ∧ b6 = p6 := by
    have := Hbk.out.symm.trans hbk2
    simpa using this
  have hm5 := hm4.below hb5
  have hX5 := hX4.below hb5 hX4.lt
  have hFR4' := hFR4.below hb5
  have hbw5 := below_step hbw4 hb5
  simp only
  unfold fnV
  obtain ⟨yb, hyb⟩ : ∃ yb, w5.heap.size = yb := ⟨_, rfl⟩
  obtain ⟨W6, hW6⟩ : ∃ W6, w5.alloc (.cells #[.string f.nm, .slice A2 m2 cp2, .int .i64 b0, .int .i64 b1, .int .i64 b2, .int .i64 b3, .int .i64 b4, .int .i64 b5, .int .i64 b6, .slice Bs2 k2 d2] 28) = W6 := ⟨_, rfl⟩
  have hY6 : Blk W6 yb 28 #[.string f.nm, .slice A2 m2 cp2, .int .i64 b0, .int .i64 b1, .int .i64 b2, .int .i64 b3, .int .i64 b4, .int .i64 b5, .int .i64 b6, .slice Bs2 k2 d2] := by rw [← hW6, ← hyb]; exact Blk.new w5 _ _
  have hX6 : Blk W6 xb 28 #[.string f.nm, .slice A m cp, .int .i64 b0, .int .i64 b1, .int .i64 b2, .int .i64 b3, .int .i64 b4, .int .i64 b5, .int .i64 b6, .slice Bs k d] := by rw [← hW6]; exact hX5.alloc _
  have hba : Below w5.heap.size w5 W6 := by rw [← hW6]; exact (Below.refl _ _).alloc (Nat.le_refl _) _
  have hm6 := hm5.below hba
  have hFX6 := hFR4'.below hba
  have hFY6 := hFR5.below hba
  have hb6 := below_step hbw5 hba
  have hyx : w.heap.size ≤ yb := by rw [← hyb]; exact hbw5.size
  have hgy : g < yb := by rw [← hyb]; exact hm5.lt
  have HSM := Lib.hid (sameFinals_c A A2 m m2 cp cp2 Bs Bs2 k k2 d d2 f b0 b1 b2 b3 b4 b5 b6 W6 hFX6 hFY6)
  unfold fnV at HSM
  have x0 : W6.cell? ⟨xb, 0, none⟩ = some (.string f.nm) := hX6.cell 0
  have x1 : W6.cell? ⟨xb, 1, none⟩ = some (.slice A m cp) := hX6.cell 1
  have x2 : W6.cell? ⟨xb, 2, none⟩ = some (.int .i64 b0) := hX6.cell 2
  have x3 : W6.cell? ⟨xb, 3, none⟩ = some (.int .i64 b1) := hX6.cell 3
  have x4 : W6.cell? ⟨xb, 4, none⟩ = some (.int .i64 b2) := hX6.cell 4
  have x5 : W6.cell? ⟨xb, 5, none⟩ = some (.int .i64 b3) := hX6.cell 5
  have x6 : W6.cell? ⟨xb, 6, none⟩ = some (.int .i64 b4) := hX6.cell 6
  have x7 : W6.cell? ⟨xb, 7, none⟩ = some (.int .i64 b5) := hX6.cell 7
  have x8 : W6.cell? ⟨xb, 8, none⟩ = some (.int .i64 b6) := hX6.cell 8
  have x9 : W6.cell? ⟨xb, 9, none⟩ = some (.slice Bs k d) := hX6.cell 9
  have y0 : W6.cell? ⟨yb, 0, none⟩ = some (.string f.nm) := hY6.cell 0
  have y1 : W6.cell? ⟨yb, 1, none⟩ = some (.slice A2 m2 cp2) := hY6.cell 1
  have y2 : W6.cell? ⟨yb, 2, none⟩ = some (.int .i64 b0) := hY6.cell 2
  have y3 : W6.cell? ⟨yb, 3, none⟩ = some (.int .i64 b1) := hY6.cell 3
  have y4 : W6.cell? ⟨yb, 4, none⟩ = some (.int .i64 b2) := hY6.cell 4
  have y5 : W6.cell? ⟨yb, 5, none⟩ = some (.int .i64 b3) := hY6.cell 5
  have y6 : W6.cell? ⟨yb, 6, none⟩ = some (.int .i64 b4) := hY6.cell 6
  have y7 : W6.cell? ⟨yb, 7, none⟩ = some (.int .i64 b5) := hY6.cell 7
  have y8 : W6.cell? ⟨yb, 8, none⟩ = some (.int .i64 b6) := hY6.cell 8
  have y9 : W6.cell? ⟨yb, 9, none⟩ = some (.slice Bs2 k2 d2) := hY6.cell 9
  clear hX5 hX4 hFR4' hFR5 hFR4 hbw4 hbw5 hm5 hm4 hb5 hbk2 hba hX6 hFX6 hFY6
  go_wp2_with fail
  refine HSM.out.mono ?_
  rintro e w7 ⟨rfl, hb7⟩
  have hm7 := hm6.below hb7
  have hY7 := hY6.below hb7 hY6.lt
  have hbw7 := below_step hb6 hb7
  clear x0 x1 x2 x3 x4 x5 x6 x7 x8 x9 y0 y1 y2 y3 y4 y5 y6 y7 y8 y9 hm6 hY6 hb6 hb7 HSM
  go_wp2_with fail
  refine (spoil_c g g c2 S w7 hm7 (by omega) (by omega)).mono ?_
  rintro e w8 ⟨s1, c8, rfl, hz1, hc8, hm8, hg8⟩
  have hY8 := hY7.grown hg8 (fun e => by have := Option.some.inj e; omega)
  have hb8 : Below w.heap.size w w8 := hbw7.grown hg8 hbw7.size (fun b e => by have := Option.some.inj e; omega)
  clear hm7 hY7 hbw7 hg8
  go_wp2_with fail
  refine (spoil_c g g c8 S w8 hm8 (by omega) (by omega)).mono ?_
  rintro e w9 ⟨s2, c9, rfl, hz2, hc9, hm9, hg9⟩
  have hY9 := hY8.grown hg9 (fun e => by have := Option.some.inj e; omega)
  have hb9 : Below w.heap.size w w9 := hb8.grown hg9 hb8.size (fun b e => by have := Option.some.inj e; omega)
  clear hm8 hY8 hb8 hg9
  go_wp2_with fail
  refine (spoil_c g g c9 s2 w9 hm9 (by omega) (by omega)).mono ?_
  rintro e w10 ⟨s3, c10, rfl, hz3, hc10, hm10, hg10⟩
  have hY10 := hY9.grown hg10 (fun e => by have := Option.some.inj e; omega)
  have hb10 : Below w.heap.size w w10 := hb9.grown hg10 hb9.size (fun b e => by have := Option.some.inj e; omega)
  clear hm9 hY9 hb9 hg10 hm10
  go_wp2_with fail
  have i0 : ∀ w, (Instr.index 52 (.agg #[.string t1, .string s1, .string s3]) (.int .i64 0)).run Tryd.prog w = .ok (.string t1) w := fun _ => by kernel_rfl
  have i1 : ∀ w, (Instr.index 52 (.agg #[.string t1, .string s1, .string s3]) (.int .i64 1)).run Tryd.prog w = .ok (.string s1) w := fun _ => by kernel_rfl
  have i2 : ∀ w, (Instr.index 52 (.agg #[.string t1, .string s1, .string s3]) (.int .i64 2)).run Tryd.prog w = .ok (.string s3) w := fun _ => by kernel_rfl
  go_loopw [4, 57] (fun v4 v57 wr => FrI w yb v4 v57 wr) (fun _ v57 _ => 3 - (intOf v57).toNat)
  case atStart => exact (show FrI _ _ _ _ _ from ⟨0, A2, m2, cp2, Bs2, k2, d2, f, b0, b1, b2, b3, b4, b5, b6, by omega, rfl, rfl, hY10, hb10⟩)
  case round =>
    obtain ⟨i, Ar, nr, cr, Br, mr, dr, fr, r0, r1, r2, r3, r4, r5, r6, hi, rfl, rfl, hYr, hbr⟩ := hrel
    clear hY10 hb10
    by_cases hlt : i < 3
    · obtain ⟨x, hx, hix⟩ : ∃ x : ByteArray, x.size ≤ maxLen ∧ ∀ w, (Instr.index 52 (.agg #[.string t1, .string s1, .string s3]) (.int .i64 (i : Int))).run Tryd.prog w = .ok (.string x) w := by
        have h3 : i = 0 ∨ i = 1 ∨ i = 2 := by omega
        rcases h3 with rfl | rfl | rfl
        · exact ⟨t1, w1, i0⟩
        · exact ⟨s1, by unfold maxLen; omega, i1⟩
        · exact ⟨s3, by unfold maxLen; omega, i2⟩
      have dlt : decide ((i : Int) < 3) = true := decide_eq_true (by omega)
      have dlt' : decide (i < 3) = true := decide_eq_true hlt
      clear i0 i1 i2
      by_cases h8 : 8000 < x.size
      · have d8 : decide ((8000 : Int) < (x.size : Int)) = true := decide_eq_true (by omega)
        have d8' : decide (8000 < x.size) = true := decide_eq_true h8
        go_wp2_with fail
        go_roundw
        case rel => exact (show FrI _ _ _ _ _ from ⟨i + 1, Ar, nr, cr, Br, mr, dr, fr, r0, r1, r2, r3, r4, r5, r6, by omega, rfl, by go_num, hYr, hbr⟩)
        case measure => simp [intOf]; omega
      · have d8 : decide ((8000 : Int) < (x.size : Int)) = false := decide_eq_false (by omega)
        have d8' : decide (8000 < x.size) = false := decide_eq_false h8
        clear h8
        go_wp2_with fail
        refine (fparse_c x mx wr hx (keep_cell hbr hmx)).mono ?_
        rintro e w11 hP
        unfold FParseR at hP
        obtain ⟨Aq, mq, cq, Bq, kq, dq, q0, q1, q2, q3, q4, q5, q6, rfl, hbkq, hFRq, hfrq, hbq⟩ := hP
        have hYq := hYr.below hbq hYr.lt
        have hbwq := below_step hbr hbq
        obtain ⟨P, hP⟩ : ∃ P, Fn.parse x = P := ⟨_, rfl⟩
        rw [hP] at hbkq hFRq
        rw [hP]
        obtain ⟨fq, nq, eq⟩ := P
        simp only at hbkq hFRq
        simp only
        unfold fnV
        have hYlt := hYr.lt
        clear hYr hbr hbq
        by_cases heq : eq = 0
        · subst heq
          obtain ⟨g1, g2, g3, g4⟩ := Fn.parse_back hP
          have hxq : baOf (Fn.fmtL fq) = x := by rw [← g2]; rfl
          have HGF := Lib.hid (fun (W : World) (hR : FR W Aq mq Bq kq fq) (hT : Tab10 W) => fformat_c Aq mq cq Bq kq dq fq q0 q1 q2 q3 q4 q5 q6 W hbkq hR hT)
          unfold FFormatR at HGF
          rw [show Fn.fmt fq = (Fn.fmtL fq, 0) by unfold Fn.fmt; rw [if_pos g1]] at HGF
          simp only at HGF
          rw [hxq] at HGF
          unfold fnV at HGF
          have hne : ∀ bb : Option Addr, (∀ ad, bb = some ad → wr.heap.size ≤ ad.block) → ∀ ad, bb = some ad → ad.block ≠ yb := fun bb hbb ad e => by have := hbb ad e; have := hYlt; omega
          clear g1 g2 g3 hxq hP hbkq
          go_wp2_with (first
                        | ((with_reducible refine at_st 28 (.tmp 9) (.tmp 66) ?_); go_must (refine wpList_stB rfl 28 (.tmp 9) (.tmp 66) rfl yb 0 [.string fq.nm, .slice Aq mq cq, .int .i64 q0, .int .i64 q1, .int .i64 q2, .int .i64 q3, .int .i64 q4, .int .i64 q5, .int .i64 q6, .slice Bq kq dq] rfl rfl hYq #[.string fq.nm, .slice Aq mq cq, .int .i64 q0, .int .i64 q1, .int .i64 q2, .int .i64 q3, .int .i64 q4, .int .i64 q5, .int .i64 q6, .slice Bq kq dq] rfl rfl (by kernel_rfl) rfl ?_; intro W12 hY12 hg12))
                        | ((with_reducible refine at_ld 28 (.tmp 9) ?_); go_must (refine wpList_ldB rfl 28 (.tmp 9) rfl yb 0 rfl hY12 [.string fq.nm, .slice Aq mq cq, .int .i64 q0, .int .i64 q1, .int .i64 q2, .int .i64 q3, .int .i64 q4, .int .i64 q5, .int .i64 q6, .slice Bq kq dq] rfl _ Tryd.underlying28 rfl (by kernel_rfl) ?_)))
          have hFR12 := hFRq.far hg12 (hne _ hfrq.1) (hne _ hfrq.2)
          have hb12 : Below w.heap.size w W12 := hbwq.grown hg12 hbwq.size (fun b e => by have := Option.some.inj e; omega)
          refine (HGF.out W12 hFR12 (ht.below hb12)).mono ?_
          rintro e w13 ⟨rfl, hb13⟩
          have hY13 := hY12.below hb13 hY12.lt
          have hbw13 := below_step hb12 hb13
          go_wp2_with fail
          go_roundw
          case rel => exact (show FrI _ _ _ _ _ from ⟨i + 1, Aq, mq, cq, Bq, kq, dq, fq, q0, q1, q2, q3, q4, q5, q6, by omega, rfl, by go_num, hY13, hbw13⟩)
          case measure => simp [intOf]; omega
        · have de : (eq == 0) = false := by simpa using heq
          clear heq hP hbkq
          go_wp2_with ((with_reducible refine at_st 28 (.tmp 9) (.tmp 66) ?_); go_must (refine wpList_stB rfl 28 (.tmp 9) (.tmp 66) rfl yb 0 [.string fq.nm, .slice Aq mq cq, .int .i64 q0, .int .i64 q1, .int .i64 q2, .int .i64 q3, .int .i64 q4, .int .i64 q5, .int .i64 q6, .slice Bq kq dq] rfl rfl hYq #[.string fq.nm, .slice Aq mq cq, .int .i64 q0, .int .i64 q1, .int .i64 q2, .int .i64 q3, .int .i64 q4, .int .i64 q5, .int .i64 q6, .slice Bq kq dq] rfl rfl (by kernel_rfl) rfl ?_; intro W12 hY12 hg12))
          have hb12 : Below w.heap.size w W12 := hbwq.grown hg12 hbwq.size (fun b e => by have := Option.some.inj e; omega)
          go_roundw
          case rel => exact (show FrI _ _ _ _ _ from ⟨i + 1, Aq, mq, cq, Bq, kq, dq, fq, q0, q1, q2, q3, q4, q5, q6, by omega, rfl, by go_num, hY12, hb12⟩)
          case measure => simp [intOf]; omega
    · obtain rfl : i = 3 := by omega
      have dlt : decide (((3 : Nat) : Int) < 3) = false := rfl
      clear i0 i1 i2
      go_wp2_with fail
      refine (sane38_c mx wr (keep_cell hbr hmx) (ht.below hbr)).mono ?_
      rintro e w6 ⟨rfl, hb6⟩
      have hbw6 := below_step hbr hb6
      go_wp2_with fail
      go_ret
      exact ⟨rfl, hbw6⟩
end Go.Proofs.YtiegpkbollihgaaDoor
