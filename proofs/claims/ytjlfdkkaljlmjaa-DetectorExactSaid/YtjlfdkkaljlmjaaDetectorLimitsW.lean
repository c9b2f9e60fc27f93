/- The walk of 'DetectorLimits'. -/
import Derived.Test.YtjlfdkkaljlmjaaDetectorJoinsW
import Derived.Test.YtjlfdkkaljlmjaaGenBorders
namespace Go.Proofs.Ytjlfdkkaljlmjaa
open Go.RowKit
namespace Det
theorem joined4 (l m : List V3) (h : vGo l none = 0) (hm : vGo m none = 0) (hl : l.length ≤ 4096) (hml : m.length ≤ 4096) :
    Ham.unpE (Ham.encB (vals l) ++ Ham.encB (vals m)) = 0 ∧ Ham.unpackV (Ham.encB (vals l) ++ Ham.encB (vals m)) = vals l ++ vals m := by
  rw [← encB_append]
  have r1 := vals_range _ l (Nat.le_refl _) h
  have r2 := vals_range _ m (Nat.le_refl _) hm
  obtain ⟨G1, a1, a2, _⟩ := vals_len _ l (Nat.le_refl _)
  obtain ⟨G2, b1, b2, _⟩ := vals_len _ m (Nat.le_refl _)
  have hu := (Ham.Near.enc (vals l ++ vals m)).unpack (fun v hv => by
    rcases List.mem_append.1 hv with hv | hv
    · exact r1 v hv
    · exact r2 v hv) (by rw [List.length_append]; omega)
  exact ⟨hu.1, hu.2.1⟩
theorem decE_two (l : List V3) (h : vGo l none = 0) (hl : l.length ≤ 4096) (h2 : 4096 < 2 * l.length) : decE (Ham.encB (vals l) ++ Ham.encB (vals l)) = 3 := by
  obtain ⟨j1, j2⟩ := joined4 l l h h hl hl
  rw [decE, if_neg (by omega), j2, parse_two l l h h, if_pos (by simp only [List.length_append]; omega)]
end Det
theorem encode_bad (A : Option Addr) (n c : Nat) (l : List V3) (w : World) (hn : n ≤ maxLen) (h : VR w A n l) (E : Int) (hE : Det.vErr l = E) (hb : E ≠ 0) :
    Calls Try.prog 30 #[.slice A n c] w fun e w' => e = .returned (.tuple #[.slice none 0 0, .int .i64 E]) ∧ Below w.heap.size w w' := by
  have HE := Lib.hid hE
  have e2 : (E != 0) = true := by simpa using hb
  clear hE hb
  go_enter Try.func30, Try.ntmps30
  go_wp2_with fail
  refine (valid_c A n c l _ hn h).mono ?_
  rintro e w1 ⟨rfl, hb1⟩
  rw [HE.out]
  go_wp2_with fail
  go_ret2
  exact ⟨rfl, hb1⟩
theorem decode_err (A : Option Addr) (n c : Nat) (B : List Int) (E : Int) (w : World) (hn : n ≤ maxLen) (h : IR .u8 w A n B) (hr : ∀ x ∈ B, 0 ≤ x ∧ x < 256) (hE : Det.decE B = E) :
    Calls Try.prog 33 #[.slice A n c] w fun e w' => ∃ v u, e = .returned (.tuple #[v, u, .int .i64 E]) ∧ Below w.heap.size w w' :=
  (ddecode_c A n c B w hn h hr).mono fun _ _ ⟨v, u, h1, _, _, h4⟩ => ⟨v, u, by rw [h1, hE], h4⟩
def LimD (w : World) (n : Nat) (v t p : Value) (wr : World) : Prop :=
  ∃ (k c : Nat) (l : List V3) (x : Int), p = .int .i64 k ∧ t = .int .i64 x ∧ k ≤ n ∧ 0 ≤ x ∧ x ≤ 1000000000 ∧ Det.vGo l none = 0 ∧ (∀ q ∈ l, q.b ≤ x) ∧ c ≤ 1 + 3 * k ∧ Mk w.heap.size wr w.heap.size c ∧ wr.ownsRow w.heap.size 41 3 v k (flat3 l) ∧ Below w.heap.size w wr
set_option linter.unusedVariables false in
set_option maxRecDepth 100000 in
set_option maxHeartbeats 4000000 in
theorem walk_DetectorLimits (a0 : Option Addr) (len0 cap0 : Nat) (z0 : List Int) (a1 : Int) (w : World) (w0 : IsRow .i64 w a0 len0 cap0 z0) (w1 : (Lit.int .i64 a1).wf = true) :
    Calls Try.prog 9 #[.slice a0 len0 cap0, .int .i64 a1] w fun e w' => e = .returned (.bool true) ∧ Below w.heap.size w w' := by
  obtain ⟨r0, m0, _⟩ := w0.reads
  clear w0
  generalize z0.take len0 = l0 at r0
  obtain ⟨r, hr, hrx⟩ := inM a1 3 (by omega)
  have t0 := tmod_bd a1 3 (by omega)
  obtain ⟨n, hn⟩ : ∃ n : Nat, n = 4095 + r := ⟨_, rfl⟩
  have hn1 : 4095 ≤ n := by omega
  have hn2 : n ≤ 4097 := by omega
  have hnx : (4095 : Int) + (r : Int) = (n : Int) := by omega
  clear hn
  go_enter Try.func9, Try.ntmps9
  go_wp2_with fail
  refine (new_c _ _ _ _ _ m0 r0).mono ?_
  rintro e w1 ⟨rfl, hm1, hb1, hz0⟩
  have hz1 : w.heap.size < w1.heap.size := by omega
  clear hz0
  go_wp2_with fail
  refine (pick_c w.heap.size w.heap.size 0 w1.heap.size 3 _ [0, 1000, 3000000] _ (hm1.alloc _) (by omega) (by omega) (by omega) (by omega) (IR.new _ 3 rfl rfl (by decide))).mono ?_
  rintro e w2 ⟨x, hx, rfl, hm2, hg2⟩
  have hga2 := (World.grownBy_alloc w1 _ (some w.heap.size)).trans hg2
  have hb2 := hb1.trans (grown_below hga2 hb1.size (Nat.le_refl _))
  have hx2 : 0 ≤ x ∧ x ≤ 3000000 := by simp at hx; omega
  clear hm1 hga2 hg2 hz1 hb1 hx hrx hnx t0
  go_wp2_with fail
  go_loopw [6, 7, 8] (fun v t p wr => LimD w n v t p wr) (fun _ _ p _ => n - (intOf p).toNat)
  case atStart => exact (show LimD _ _ _ _ _ _ from ⟨0, 0 + 1, [], _, rfl, rfl, by omega, by omega, by omega, rfl, by simp, by omega, hm2, World.ownsRow_nil _ _ _ _, hb2⟩)
  case round =>
    obtain ⟨k, c', l, t, rfl, rfl, hk, ht0, ht1, hok, hlow, hc, hmk, hown, hbr⟩ := hrel
    clear hm2 hb2 hx2
    by_cases hlt : k < n
    · go_wp2_with fail
      refine (pick_c w.heap.size w.heap.size c' wr.heap.size 5 _ [0, 0, 1, 1023, 1024] _ (hmk.alloc _) (by have := hmk.lt; omega) (by omega) (by omega) (by omega) (IR.new _ 5 rfl rfl (by decide))).mono ?_
      rintro e w3 ⟨y, hy, rfl, hm3, hg3⟩
      have hga := (World.grownBy_alloc wr _ (some w.heap.size)).trans hg3
      have own3 := hown.kept hga (.inr (hmk.ne hown (by decide)))
      have hb3 := hbr.trans (grown_below hga hbr.size (Nat.le_refl _))
      have hy2 : 0 ≤ y ∧ y ≤ 1024 := by simp at hy; omega
      clear hy hg3 hga hown hmk hbr
      by_cases hmx : 1000000000 ≤ t + y
      · go_wp2_with fail
        refine (pick_c w.heap.size w.heap.size (c' + 1) w3.heap.size 2 _ [0, 31] _ (hm3.alloc _) (by have := hm3.lt; omega) (by omega) (by omega) (by omega) (IR.new _ 2 rfl rfl (by decide))).mono ?_
        rintro e w4 ⟨d, hd, rfl, hm4, hg4⟩
        have hga4 := (World.grownBy_alloc w3 _ (some w.heap.size)).trans hg4
        have own4 := own3.kept hga4 (.inr (hm3.ne own3 (by decide)))
        have hb4 := hb3.trans (grown_below hga4 hb3.size (Nat.le_refl _))
        have hd2 : d = 0 ∨ d = 31 := by simp at hd; omega
        clear own3 hga4 hg4 hm3 hb3 hd
        go_wp2_with fail
        refine (pick_c w.heap.size w.heap.size (c' + 1 + 1) w4.heap.size 2 _ [1, -1] _ (hm4.alloc _) (by have := hm4.lt; omega) (by omega) (by omega) (by omega) (IR.new _ 2 rfl rfl (by decide))).mono ?_
        rintro e w5 ⟨r, hr, rfl, hm5, hg5⟩
        have hga5 := (World.grownBy_alloc w4 _ (some w.heap.size)).trans hg5
        have own5 := own4.kept hga5 (.inr (hm4.ne own4 (by decide)))
        have hb5 := hb4.trans (grown_below hga5 hb4.size (Nat.le_refl _))
        have hr2 : r = 1 ∨ r = -1 := by simp at hr; omega
        clear own4 hga5 hg5 hm4 hb4 hr
        go_wp2_with (at_builtin; refine wpList_push sl_pulse rfl (.tmp 36) (.tmp 45) rfl w.heap.size _ _ _ rfl own5 1 1 rfl rfl rfl (by simp only [maxLen]; omega) (by omega) hb5.size ?_; intro v6 w6 own6 hgr6)
        have hm6 := hm5.grown hgr6.grown (hm5.ne own5 (by decide)) (own_ge own5)
        have hb6 := hb5.trans (hgr6.below (own_ge own5) hb5.size)
        clear own5 hgr6 hm5 hb5
        go_wp2_with fail
        go_roundw
        case rel =>
          refine (show LimD _ _ _ _ _ _ from ⟨k + 1, c' + 1 + 1 + 1, l ++ [⟨d, 1000000000, r⟩], 1000000000, by go_num, rfl, by omega, by omega, by omega, Det.vGo_snoc _ ?_ l none hok (fun q hq => ?_) (by simp), fun q hq => ?_, by omega, hm6, ?_, hb6⟩)
          · simp only [Det.okP, Bool.and_eq_true, Bool.or_eq_true, decide_eq_true_eq]
            omega
          · have := hlow q hq
            simp only
            omega
          · rcases List.mem_append.1 hq with hq | hq
            · have := hlow q hq
              omega
            · simp at hq; subst hq; exact Int.le_refl _
          · rw [flat3_snoc]
            exact own6
        case measure => simp [intOf]; omega
      · go_wp2_with fail
        refine (pick_c w.heap.size w.heap.size (c' + 1) w3.heap.size 2 _ [0, 31] _ (hm3.alloc _) (by have := hm3.lt; omega) (by omega) (by omega) (by omega) (IR.new _ 2 rfl rfl (by decide))).mono ?_
        rintro e w4 ⟨d, hd, rfl, hm4, hg4⟩
        have hga4 := (World.grownBy_alloc w3 _ (some w.heap.size)).trans hg4
        have own4 := own3.kept hga4 (.inr (hm3.ne own3 (by decide)))
        have hb4 := hb3.trans (grown_below hga4 hb3.size (Nat.le_refl _))
        have hd2 : d = 0 ∨ d = 31 := by simp at hd; omega
        clear own3 hga4 hg4 hm3 hb3 hd
        go_wp2_with fail
        refine (pick_c w.heap.size w.heap.size (c' + 1 + 1) w4.heap.size 2 _ [1, -1] _ (hm4.alloc _) (by have := hm4.lt; omega) (by omega) (by omega) (by omega) (IR.new _ 2 rfl rfl (by decide))).mono ?_
        rintro e w5 ⟨r, hr, rfl, hm5, hg5⟩
        have hga5 := (World.grownBy_alloc w4 _ (some w.heap.size)).trans hg5
        have own5 := own4.kept hga5 (.inr (hm4.ne own4 (by decide)))
        have hb5 := hb4.trans (grown_below hga5 hb4.size (Nat.le_refl _))
        have hr2 : r = 1 ∨ r = -1 := by simp at hr; omega
        clear own4 hga5 hg5 hm4 hb4 hr
        go_wp2_with (at_builtin; refine wpList_push sl_pulse rfl (.tmp 36) (.tmp 45) rfl w.heap.size _ _ _ rfl own5 1 1 rfl rfl rfl (by simp only [maxLen]; omega) (by omega) hb5.size ?_; intro v6 w6 own6 hgr6)
        have hm6 := hm5.grown hgr6.grown (hm5.ne own5 (by decide)) (own_ge own5)
        have hb6 := hb5.trans (hgr6.below (own_ge own5) hb5.size)
        clear own5 hgr6 hm5 hb5
        go_wp2_with fail
        go_roundw
        case rel =>
          refine (show LimD _ _ _ _ _ _ from ⟨k + 1, c' + 1 + 1 + 1, l ++ [⟨d, t + y, r⟩], t + y, by go_num, rfl, by omega, by omega, by omega, Det.vGo_snoc _ ?_ l none hok (fun q hq => ?_) (by simp), fun q hq => ?_, by omega, hm6, ?_, hb6⟩)
          · simp only [Det.okP, Bool.and_eq_true, Bool.or_eq_true, decide_eq_true_eq]
            omega
          · have := hlow q hq
            simp only
            omega
          · rcases List.mem_append.1 hq with hq | hq
            · have := hlow q hq
              omega
            · simp at hq; subst hq; exact Int.le_refl _
          · rw [flat3_snoc]
            exact own6
        case measure => simp [intOf]; omega
    · obtain rfl : k = n := by omega
      have hl := own3_len hown
      obtain ⟨A6, d6, rfl, k6, k6'⟩ := own_form hown
      have vl := own_VR hown
      have Hok := Lib.hid hok
      clear hok hlow hmk
      by_cases hbig : 4096 < k
      · have Hv := Lib.hid (show Det.vErr l = 3 by rw [Det.vErr, if_pos (by omega)])
        have hbd : decide (4096 < (k : Int)) = true := by simp; omega
        go_wp2_with fail
        refine (encode_bad _ _ _ l _ (by omega) vl 3 Hv.out (by omega)).mono ?_
        rintro e w3 ⟨rfl, hb3⟩
        have hb4 := below_step hbr hb3
        go_wp2_with fail
        refine (valid_c _ _ _ l _ (by omega) (vl.below hb3)).mono ?_
        rintro e w5 ⟨rfl, hb5⟩
        rw [Hv.out]
        have hb6 := below_step hb4 hb5
        clear hb3 hb4 hb5
        go_wp2_with fail
        refine (sane04_c _).mono ?_
        rintro e w7 ⟨rfl, hb7⟩
        go_wp2_with fail
        go_ret
        exact ⟨rfl, below_step hb6 hb7⟩
      · have hbd : decide (4096 < (k : Int)) = false := by simp; omega
        have hbd' : decide (4096 < k) = false := by simp; omega
        have Hl := Lib.hid hl
        obtain ⟨G, a1, a2, _⟩ := Det.vals_len _ l (Nat.le_refl _)
        have Hone := Lib.hid (Det.parse_one l Hok.out)
        have Htwo := Lib.hid (Det.decE_two l Hok.out (by omega) (by omega))
        have Hj := Lib.hid ((Ham.Near.enc (Det.vals l)).unpack (Det.vals_range _ l (Nat.le_refl _) Hok.out) (by omega))
        obtain ⟨x, hx⟩ : ∃ x, (Det.vals l).length = x := ⟨_, rfl⟩
        have a4 : x ≤ 24576 := by omega
        clear a1 a2 hl
        go_wp2_with fail
        refine (encode_made _ k _ l _ k6 k6' vl Hok.out (by omega)).mono ?_
        rintro e w4 ⟨v4, rfl, own4, hb4⟩
        rw [hx] at own4
        clear hx
        obtain ⟨A4, c4, rfl, k4, k4'⟩ := own_form own4
        have own6 := own_below hown hb4
        have hb4a := below_step hbr hb4
        clear hown vl hb4 hbr
        go_wp2_with fail
        refine (decode_as A4 (2 * x) c4 _ l [] _ (by omega) (own_IR own4) (Ham.encB_range _) (dec_of Hj.out.1 Hj.out.2.1 Hone.out (by rw [Hl.out]; omega)) k 0 Hl.out rfl).mono ?_
        rintro e w5 ⟨v5, u5, rfl, own5, own5', hb5⟩
        obtain ⟨A5, c5, rfl, k5, k5'⟩ := own_form own5
        obtain ⟨B5, e5, rfl, _, _⟩ := own_form own5'
        have own4b := own_below own4 hb5
        have own6b := own_below own6 hb5
        have hb5a := below_step hb4a hb5
        clear own4 own6 hb5 hb4a own5'
        go_wp2_with fail
        refine (gpulses_eq _ _ _ _ _ _ _ _ (by omega) (own_VR own5) (own_VR own6b)).mono ?_
        rintro e w6 ⟨rfl, hb6⟩
        have own4c := own_below own4b hb6
        have hb6a := below_step hb5a hb6
        have hle6 : w.heap.size ≤ w6.heap.size := hb6a.size
        clear own4b own5 own6b hb6 hb5a
        go_wp2_with (first
          | (at_builtin
             have hguard := hb6a
             clear hguard
             go_must (
             refine wpList_cat sl_u8 rfl (.tmp 88) (.tmp 89) rfl w.heap.size _ 0 [] rfl (World.ownsRow_lit w6 #[] 0 hle6 (by simp [maxLen]) rfl) _ A4 (2 * x) c4 _ rfl (Reads.of_own (own4c.alloc _)) (one_ints _ _) (by simp only [maxLen]; omega) (by omega) (by simp; omega) ?_
             intro v7 w7 own7 hgr7
             have own4d := hgr7.keep (own4c.alloc _) (apart_new own4c _ _)
             have hb7 := (hb6a.alloc hle6 _).trans (hgr7.below (own_ge (World.ownsRow_lit (e := 5) (size := 1) w6 #[] 0 hle6 (by simp [maxLen]) rfl)) (by simp; omega))
             clear own4c hgr7 hb6a))
          | (at_builtin
             have hguard := hb7
             clear hguard
             go_must (
             refine wpList_cat sl_u8 rfl (.tmp 90) (.tmp 91) rfl w.heap.size _ _ _ rfl own7 _ A4 (2 * x) c4 _ rfl (Reads.of_own own4d) (one_ints _ _) (by simp only [maxLen]; omega) (by omega) hb7.size ?_
             intro v8 w8 own8 hgr8
             have hb8 := hb7.trans (hgr8.below (own_ge own7) hb7.size)
             clear own4d hgr8 own7 hb7)))
        have hcat : w8.ownsRow w.heap.size 5 1 v8 (2 * x + 2 * x) ((Ham.encB (Det.vals l) ++ Ham.encB (Det.vals l)).map (Value.int .u8)) := by
          rw [List.map_append]
          simpa using own8
        clear own8
        have Hdc := Lib.hid (fun A c W (hI : IR .u8 W A (2 * x + 2 * x) (Ham.encB (Det.vals l) ++ Ham.encB (Det.vals l))) => decode_err A (2 * x + 2 * x) c _ 3 W (by simp only [maxLen]; omega) hI (fun v hv => by
          rcases List.mem_append.1 hv with hv | hv
          · exact Ham.encB_range _ v hv
          · exact Ham.encB_range _ v hv) Htwo.out)
        obtain ⟨N, hN⟩ : ∃ N, 2 * x + 2 * x = N := ⟨_, rfl⟩
        rw [hN] at hcat Hdc
        clear hN
        obtain ⟨A8, c8, rfl, _, _⟩ := own_form hcat
        refine (Hdc.out _ _ _ (own_IR hcat)).mono ?_
        rintro e w9 ⟨v9, u9, rfl, hb9⟩
        have hb9a := below_step hb8 hb9
        clear hcat hb8 hb9
        go_wp2_with fail
        refine (sane04_c _).mono ?_
        rintro e w10 ⟨rfl, hb10⟩
        go_wp2_with fail
        go_ret
        exact ⟨rfl, below_step hb9a hb10⟩
end Go.Proofs.Ytjlfdkkaljlmjaa
