/- The walk of wheel.Recognize at tolerance 0. -/
import Derived.Test.YtocohkgdkebmdaaGreatAxW1
import Derived.Deep.RegionWith
import Derived.BigRegion
namespace Go.Proofs.YtocohkgdkebmdaaGreat
open Go.RowKit
set_option maxHeartbeats 1000000 in
theorem whcheck_c (A P : Option Addr) (n c m cp : Nat) (D : List Nat) (L : List (List Nat)) (vs : List Value) (w : World) (hn : n ≤ 768) (hm : m ≤ 16) (hA : NR w A n D) (hP : LLR w P m L vs)
    (hD : ∀ i, i < n → 1 ≤ D.getD i 0 ∧ D.getD i 0 ≤ 10000) (hL : ∀ i, i < m → (L.getD i []).length ≤ 5 ∧ ∀ k, k < (L.getD i []).length → 1 ≤ (L.getD i []).getD k 0 ∧ (L.getD i []).getD k 0 ≤ 10000) :
    Calls Tryz.prog 30 #[.slice A n c, .slice P m cp, .int .i64 0] w fun e w' => e = .returned (.int .i64 0) ∧ w' = w := by
  have d1 : decide ((768 : Int) < (n : Int)) = false := decide_eq_false (by omega)
  have d2 : decide (768 < n) = false := decide_eq_false (by omega)
  have d3 : decide ((16 : Int) < (m : Int)) = false := decide_eq_false (by omega)
  have d4 : decide (16 < m) = false := decide_eq_false (by omega)
  have HD := Lib.hid hD
  have HL := Lib.hid hL
  clear hD hL
  go_enter Tryz.func30, Tryz.ntmps30
  go_wp2_with fail
  go_loop [6, 26] (fun v p => v = .int .i64 0 ∧ ∃ i : Nat, i ≤ m ∧ p = .int .i64 i) (fun _ p => m - (intOf p).toNat)
  case atStart => exact ⟨rfl, 0, by omega, rfl⟩
  case round =>
    obtain ⟨rfl, i, hi, rfl⟩ := hrel
    by_cases hlt : i < m
    · obtain ⟨ad, Ai, ci, rfl, _, k1, h1⟩ := hP.at_ hlt
      have h5 := (HL.out i hlt).1
      obtain ⟨q, hq⟩ : ∃ q, (L.getD i []).length = q := ⟨_, rfl⟩
      rw [hq] at k1 h1 h5
      have e1 : decide ((5 : Int) < (q : Int)) = false := decide_eq_false (by omega)
      have e2 : decide (5 < q) = false := decide_eq_false (by omega)
      clear hq h1 hP
      go_wp2_with fail
      go_round
      case rel => exact ⟨rfl, i + 1, by omega, by go_num⟩
      case measure => simp [intOf]; omega
    · obtain rfl : i = m := by omega
      go_wp2_with fail
      go_loop [9, 42] (fun b p => b = .bool true ∧ ∃ j : Nat, j ≤ n ∧ p = .int .i64 j) (fun _ p => n - (intOf p).toNat)
      case atStart => exact ⟨rfl, 0, by omega, rfl⟩
      case round =>
        obtain ⟨rfl, j, hj, rfl⟩ := hrel
        by_cases hlt2 : j < n
        · obtain ⟨ad, rfl, _, ck⟩ := codes_at hA hlt2
          have hb := HD.out j hlt2
          unfold Tl.kAt at ck
          obtain ⟨x, hx⟩ : ∃ x, D.getD j 0 = x := ⟨_, rfl⟩
          rw [hx] at ck hb
          clear hx hA hP
          go_wp2_with fail
          refine (wdist_c (x : Int) _ (by omega) (by omega)).mono ?_
          rintro e w1 ⟨rfl, rfl⟩
          go_wp2_with fail
          go_round
          case rel => exact ⟨rfl, j + 1, by omega, by go_num⟩
          case measure => simp [intOf]; omega
        · obtain rfl : j = n := by omega
          go_wp2_with fail
          go_loop [9, 54] (fun b p => b = .bool true ∧ ∃ k : Nat, k ≤ i ∧ p = .int .i64 k) (fun _ p => i - (intOf p).toNat)
          case atStart => exact ⟨rfl, 0, by omega, rfl⟩
          case round =>
            obtain ⟨rfl, k, hk, rfl⟩ := hrel
            by_cases hlt3 : k < i
            · obtain ⟨ad, Ai, ci, rfl, _, k1, h1⟩ := hP.at_ hlt3
              have h5 := HL.out k hlt3
              obtain ⟨q, hq⟩ : ∃ q, (L.getD k []).length = q := ⟨_, rfl⟩
              obtain ⟨r, hr⟩ : ∃ r, L.getD k [] = r := ⟨_, rfl⟩
              rw [hr] at hq
              rw [hr, hq] at k1 h1 h5
              have H5 := Lib.hid h5
              have h5q := h5.1
              clear hr hq h5 hP
              go_wp2_with fail
              go_loop [9, 60] (fun b p => b = .bool true ∧ ∃ y : Nat, y ≤ q ∧ p = .int .i64 y) (fun _ p => q - (intOf p).toNat)
              case atStart => exact ⟨rfl, 0, by omega, rfl⟩
              case round =>
                obtain ⟨rfl, y, hy, rfl⟩ := hrel
                by_cases hlt4 : y < q
                · obtain ⟨bd, rfl, _, ck⟩ := h1.at_ hlt4
                  have hb := H5.out.2 y hlt4
                  have hg : (r.map fun (x : Nat) => (x : Int)).getD y 0 = ((r.getD y 0 : Nat) : Int) := by
                    rw [List.getD_eq_getElem?_getD, List.getElem?_map, List.getD_eq_getElem?_getD]
                    cases r[y]? <;> rfl
                  rw [hg] at ck
                  obtain ⟨x, hx⟩ : ∃ x, r.getD y 0 = x := ⟨_, rfl⟩
                  rw [hx] at ck hb
                  clear hx hg h1 k1
                  go_wp2_with fail
                  refine (wdist_c (x : Int) _ (by omega) (by omega)).mono ?_
                  rintro e w1 ⟨rfl, rfl⟩
                  go_wp2_with fail
                  go_round
                  case rel => exact ⟨rfl, y + 1, by omega, by go_num⟩
                  case measure => simp [intOf]; omega
                · obtain rfl : y = q := by omega
                  clear h1 k1
                  go_wp2_with fail
                  go_round
                  case rel => exact ⟨rfl, k + 1, by omega, by go_num⟩
                  case measure => simp [intOf]; omega
            · obtain rfl : k = i := by omega
              go_wp2_with fail
              go_ret
              exact ⟨rfl, rfl⟩
end Go.Proofs.YtocohkgdkebmdaaGreat
namespace Go.Proofs.YtocohkgdkebmdaaGreat
open Go.RowKit
namespace Ax
theorem Mt_drop {d p : List Nat} {a : Nat} : Mt (d.drop a) p 0 ↔ Mt d p a := by
  unfold Mt
  rw [List.length_drop, Nat.sub_zero]
  refine and_congr_right fun _ => forall_congr' fun i => imp_congr_right fun _ => ?_
  rw [Nat.zero_add, List.getD_eq_getElem?_getD, List.getElem?_drop, ← List.getD_eq_getElem?_getD]
theorem Dp.val {d : List Nat} {P : List (List Nat)} {a : Nat} {C H : List Int} (h : Dp d P a C H) {x : Nat} (h1 : a ≤ x) (h2 : x ≤ d.length + 1) : C.getD x 0 = -1 ∨ C.getD x 0 = 0 := by
  by_cases e : x = d.length + 1
  · subst e; exact .inr h.zero
  · rcases h.sound x h1 (by omega) with h3 | ⟨h3, _⟩
    · exact .inl h3
    · exact .inr h3
end Ax
/-- The outer loop of Recognize. -/
def RgA (B g1 g2 N : Nat) (D : List Nat) (L : List (List Nat)) (w1 : World) (p : Value) (wr : World) : Prop :=
  ∃ (a : Nat) (C H : List Int), a ≤ N ∧ p = .int .i64 ((a : Int) - 1) ∧ Hid (Ax.Dp D L a C H) ∧ wr.ownsRow B 3 1 (.slice (some ⟨g1, 0, none⟩) (N + 1) (N + 1)) (N + 1) (C.map (Value.int .i64)) ∧
    wr.ownsRow B 3 1 (.slice (some ⟨g2, 0, none⟩) (N + 1) (N + 1)) (N + 1) (H.map (Value.int .i64)) ∧ Below w1.heap.size w1 wr
/-- The inner loop of Recognize, at a place a. -/
def RgB (B g1 g2 N m a : Nat) (D : List Nat) (L : List (List Nat)) (C H : List Int) (w1 : World) (p : Value) (wr : World) : Prop :=
  ∃ (i : Nat) (cv hv : Int), i ≤ m ∧ p = .int .i64 i ∧ Hid (Ax.At D L a i C cv hv) ∧ ((cv = -1 ∧ hv = -1) ∨ (cv = 0 ∧ 0 ≤ hv)) ∧ wr.ownsRow B 3 1 (.slice (some ⟨g1, 0, none⟩) (N + 1) (N + 1)) (N + 1) ((C.set a cv).map (Value.int .i64)) ∧
    wr.ownsRow B 3 1 (.slice (some ⟨g2, 0, none⟩) (N + 1) (N + 1)) (N + 1) ((H.set a hv).map (Value.int .i64)) ∧ Below w1.heap.size w1 wr
/-- The last loop of Recognize. -/
def RgC (B N : Nat) (C : List Int) (w2 : World) (v p : Value) (wr : World) : Prop :=
  ∃ (x : Nat) (Q : List Nat), x ≤ N ∧ p = .int .i64 x ∧ C.getD x 0 = 0 ∧ Q.length ≤ x ∧ wr.ownsRow B 3 1 v Q.length (ints64 Q) ∧ Below w2.heap.size w2 wr
def RgR (w : World) (N : Nat) (e : Ending) (w' : World) : Prop :=
  ∃ (v : Value) (Q : List Nat), e = .returned (.tuple #[v, .int .i64 0, .int .i64 0]) ∧ Q.length ≤ N ∧ w'.ownsRow w.heap.size 3 1 v Q.length (ints64 Q) ∧ Below w.heap.size w w'
set_option linter.unusedVariables false in
set_option maxRecDepth 100000 in
set_option maxHeartbeats 4000000 in
theorem recog_c (A P : Option Addr) (n c m cp : Nat) (D : List Nat) (L : List (List Nat)) (vs : List Value) (w : World) (hnc : n ≤ c) (hcm : c ≤ maxLen) (hn : n ≤ 768) (hm : m ≤ 16) (hA : NR w A n D) (hP : LLR w P m L vs)
    (hD : ∀ i, i < n → 1 ≤ D.getD i 0 ∧ D.getD i 0 ≤ 10000) (hL : ∀ i, i < m → (L.getD i []).length ≤ 5 ∧ ∀ k, k < (L.getD i []).length → 1 ≤ (L.getD i []).getD k 0 ∧ (L.getD i []).getD k 0 ≤ 10000)
    (hmade : ∀ C H, Ax.Dp D L 0 C H → C.getD 0 0 = 0) :
    Calls Tryz.prog 14 #[.slice A n c, .slice P m cp, .int .i64 0] w (RgR w (n + 1)) := by
  unfold maxLen at hcm
  have HCk := Lib.hid (whcheck_c A P n c m cp D L vs w hn hm hA hP hD hL)
  have hDl := hA.len
  have hD2 : ∀ x i, (D.drop x).getD i 0 ≤ 1000000 := fun x i => by
    rw [List.getD_eq_getElem?_getD, List.getElem?_drop, ← List.getD_eq_getElem?_getD]
    by_cases h : x + i < n
    · have := hD _ h; omega
    · rw [List.getD_eq_getElem?_getD, List.getElem?_eq_none (by omega)]; simp
  have hL2 : ∀ x, x < m → ∀ i, (L.getD x []).getD i 0 ≤ 1000000 := fun x hx i => by
    by_cases h : i < (L.getD x []).length
    · have := (hL x hx).2 i h; omega
    · rw [List.getD_eq_getElem?_getD (l := L.getD x []), List.getElem?_eq_none (by omega)]; simp
  have hL5 : ∀ x, x < m → (L.getD x []).length ≤ 5 := fun x hx => (hL x hx).1
  have HD2 := Lib.hid hD2
  have HL2 := Lib.hid hL2
  have HL5 := Lib.hid hL5
  have HM := Lib.hid hmade
  have HLl := Lib.hid hP.len
  have HDl := Lib.hid hDl
  obtain ⟨N, hN⟩ : ∃ N, n + 1 = N := ⟨_, rfl⟩
  have hNI : (n : Int) + 1 = (N : Int) := by omega
  clear hmade hL hD hD2 hL2 hL5 hDl
  go_enter Tryz.func14, Tryz.ntmps14
  go_wp2_with fail
  refine HCk.out.mono ?_
  rintro e w1 ⟨rfl, rfl⟩
  clear HCk
  go_upto_region 6 with (at_make; refine wpList_mkn mk_intR rfl rfl _ _ rfl w1.heap.size _ _ _ _ (N + 1) rfl rfl (by omega) (by omega) (by omega) (by simp only [maxLen]; omega) (Nat.le_refl _) ?_; intro w2 own2 hb2)
  have hbs2 := hb2.size
  go_wp2_with (at_make; refine wpList_mkn mk_intR rfl rfl _ _ rfl w1.heap.size _ _ _ _ (N + 1) rfl rfl (by omega) (by omega) (by omega) (by simp only [maxLen]; omega) hbs2 ?_; intro w3 own3 hb3)
  have hlt12 : w1.heap.size < w2.heap.size := (own2.lt w1.heap.size rfl).2
  replace own2 := own_below own2 hb3
  have hbr0 : Below w1.heap.size w1 w3 := hb2.trans (hb3.mono hbs2)
  have hDp0 : Hid (Ax.Dp D L N (List.replicate (N + 1) 0) (List.replicate (N + 1) 0)) := Lib.hid (by
    have h := Ax.Dp.first (d := D) (P := L)
    rw [HDl.out, show n + 2 = N + 1 by omega, show n + 1 = N by omega] at h
    exact h)
  rw [show List.replicate (N + 1) (Value.int .i64 0) = (List.replicate (N + 1) (0 : Int)).map (Value.int .i64) by simp] at own2 own3
  obtain ⟨g1, hg1⟩ : ∃ g1, w1.heap.size = g1 := ⟨_, rfl⟩
  obtain ⟨g2, hg2⟩ : ∃ g2, w2.heap.size = g2 := ⟨_, rfl⟩
  simp only [hg1, hg2]
  rw [hg1, hg2] at hlt12
  rw [hg1] at own2 own3
  rw [hg2] at own3
  have HG := Lib.hid hg1
  clear hb2 hb3 hg1 hg2 hbs2
  go_loopw [13] (fun p wr => RgA g1 g1 g2 N D L w1 p wr) (fun p _ => (intOf p + 1).toNat)
  case atStart => exact (show RgA _ _ _ _ _ _ _ _ _ from ⟨N, _, _, Nat.le_refl _, rfl, hDp0, own2, own3, hbr0⟩)
  case round =>
    clear own2 own3 hbr0 hDp0
    obtain ⟨a, C, H, haN, rfl, HDp, own2, own3, hbr⟩ := hrel
    by_cases ha : 0 < a
    · obtain ⟨y, rfl⟩ : ∃ y, a = y + 1 := ⟨a - 1, by omega⟩
      have hy : ((y + 1 : Nat) : Int) - 1 = (y : Int) := by omega
      simp only [hy]
      clear ha hy
      have c1 := own_cell own2 (j := y) (by omega)
      have z1 := own2.frozenAt y
      have c2 := own_cell own3 (j := y) (by omega)
      have z2 := own3.frozenAt y
      have hne : g1 ≠ g2 := by omega
      have c2' : (wr.setCell ⟨g1, y, none⟩ (.int .i64 (-1))).cell? ⟨g2, y, none⟩ = some (.int .i64 (H.getD y 0)) := by
        rw [World.cell?_setCell_other _ _ _ _ (by simp <;> omega)]; exact c2
      have own2a := own_set own2 (j := y) (-1)
      have own3a := own_set_other (j := y) own3 (show (Value.slice (some ⟨g2, 0, none⟩) (N + 1) (N + 1)).ownBlock ≠ some g1 from by simp [Value.ownBlock]; omega) (.int .i64 (-1))
      have z2' := own3a.frozenAt y
      have own2b := own_set_other (j := y) own2a (show (Value.slice (some ⟨g1, 0, none⟩) (N + 1) (N + 1)).ownBlock ≠ some g2 from by simp [Value.ownBlock]; omega) (.int .i64 (-1))
      have own3b := own_set own3a (j := y) (-1)
      have hbr2 := (hbr.setCell (p := ⟨g1, y, none⟩) (show w1.heap.size ≤ g1 by rw [HG.out]; omega) (.int .i64 (-1))).setCell (p := ⟨g2, y, none⟩) (show w1.heap.size ≤ g2 by rw [HG.out]; omega) (.int .i64 (-1))
      have HA0 := Lib.hid (Ax.At.start D L y C)
      clear own2 own3 own2a own3a hbr
      go_wp2_with fail
      go_loopw [50] (fun p wr => RgB g1 g1 g2 N m y D L C H w1 p wr) (fun p _ => m - (intOf p).toNat)
      case atStart => exact (show RgB _ _ _ _ _ _ _ _ _ _ _ _ _ from ⟨0, -1, -1, Nat.zero_le _, rfl, HA0, .inl ⟨rfl, rfl⟩, own2b, own3b, hbr2⟩)
      case round =>
        clear own2b own3b hbr2 HA0 c1 z1 c2 z2 c2' z2'
        obtain ⟨i, cv, hv, hi, rfl, HAt, hcv, own2, own3, hbr⟩ := hrel
        by_cases hlt : i < m
        · obtain ⟨pd, Ai, ci, rfl, _, k1, h1⟩ := (hP.below hbr).at_ hlt
          have hNA0 := hA.below hbr
          have h5 := HL5.out i hlt
          have HR2 := Lib.hid (HL2.out i hlt)
          obtain ⟨r, hr⟩ : ∃ r, L.getD i [] = r := ⟨_, rfl⟩
          rw [hr] at k1 h1 h5 HR2
          obtain ⟨q, hq⟩ : ∃ q, r.length = q := ⟨_, rfl⟩
          rw [hq] at k1 h1 h5
          have hNP : NR wr Ai q r := by unfold NR; rw [ints64_map]; exact h1
          have hNA : NR wr (if c = y then A else A.map (·.add (y * 1))) (n - y) (D.drop y) := by
            have := Reads.cut hNA0 (k := y) (cap := c) (by omega) hnc
            rw [Nat.mul_one] at this ⊢
            unfold NR
            rw [show ints64 (D.drop y) = (ints64 D).drop y by simp [ints64]]
            exact this
          rw [Nat.mul_one] at hNA
          obtain ⟨A4, hA4⟩ : ∃ A4, (if c = y then A else A.map (·.add y)) = A4 := ⟨_, rfl⟩
          rw [hA4] at hNA
          have HMa := Lib.hid (wmatch_c A4 Ai (n - y) (c - y) q ci (D.drop y) r wr (by omega) (by omega) hNA hNP (HD2.out y) HR2.out)
          have Hr := Lib.hid hr
          have Hq := Lib.hid hq
          clear hr hq h1 hNP hNA hNA0 HR2
          go_wp2_with fail
          refine HMa.out.mono ?_
          rintro e w5 ⟨⟨ok, rfl, hok⟩, qd, rfl⟩
          cases ok
          · have hn : ¬ Ax.Mt D (L.getD i []) y := by
              rw [Hr.out]
              intro h
              have := hok.2 (Ax.Mt_drop.2 h)
              cases this
            have HAt2 := Lib.hid (HAt.out.skip (fun h => absurd h hn))
            clear hn hok
            go_wp2_with fail
            go_roundw
            case rel => exact (show RgB _ _ _ _ _ _ _ _ _ _ _ _ _ from ⟨i + 1, cv, hv, by omega, by go_num, HAt2, hcv, own2, own3, below_drewN hbr qd⟩)
            case measure => simp [intOf]; omega
          · have hM : Ax.Mt D r y := Ax.Mt_drop.1 (hok.1 rfl)
            have hM' : Ax.Mt D (L.getD i []) y := by rw [Hr.out]; exact hM
            have hqn : y + q + 1 ≤ N := by have := hM.1; rw [HDl.out, Hq.out] at this; omega
            have hlenr : (L.getD i []).length = q := by rw [Hr.out, Hq.out]
            have hval := HDp.out.val (x := y + q + 1) (by omega) (by rw [HDl.out]; omega)
            have hCl : C.length = N + 1 := by have := HDp.out.lc; rw [HDl.out] at this; omega
            have hHl : H.length = N + 1 := by have := HDp.out.lh; rw [HDl.out] at this; omega
            have hyN : y < N := by omega
            have c5 := own_cell own2 (j := y + q + 1) (by omega)
            rw [Ax.getD_set_ne (by omega)] at c5
            obtain ⟨nx, hnx⟩ : ∃ nx, y + q + 1 = nx := ⟨_, rfl⟩
            have hnxI : (y : Int) + (q : Int) + 1 = (nx : Int) := by omega
            have hnxN : nx < N + 1 := by omega
            have hnxN' : (nx : Int) < (N : Int) + 1 := by omega
            rw [hnx] at c5 hval
            have Hnx := Lib.hid hnx
            have HM' := Lib.hid hM'
            have Hlr := Lib.hid hlenr
            clear hM hM' hok hlenr hnx hqn
            rcases hval with hval | hval
            · rw [hval] at c5
              have HAt2 := Lib.hid (HAt.out.skip (fun _ h => by rw [Hlr.out, Hnx.out, hval] at h; cases h))
              clear hval
              go_wp2_with fail
              go_roundw
              case rel => exact (show RgB _ _ _ _ _ _ _ _ _ _ _ _ _ from ⟨i + 1, cv, hv, by omega, by go_num, HAt2, hcv, own2, own3, below_drewN hbr qd⟩)
              case measure => simp [intOf]; omega
            · rw [hval] at c5
              have Hval := Lib.hid hval
              have hh := own_cell own3 (j := y) (by omega)
              rw [Ax.getD_set_eq (by omega)] at hh
              have hc := own_cell own2 (j := y) (by omega)
              rw [Ax.getD_set_eq (by omega)] at hc
              clear hval
              rcases hcv with ⟨rfl, rfl⟩ | ⟨rfl, hhv⟩
              · have HAt2 := Lib.hid (Ax.At.take (d := D) (P := L) (C := C) (i := i) (a := y) (by rw [HLl.out]; exact hlt) (by rw [HDl.out]; omega) HM'.out (by rw [Hlr.out, Hnx.out, Hval.out]))
                have z1 := own2.frozenAt y
                have z2 := own3.frozenAt y
                have hne : g1 ≠ g2 := by omega
                have hh' : (wr.setCell ⟨g1, y, none⟩ (.int .i64 0)).cell? ⟨g2, y, none⟩ = some (.int .i64 (-1)) := by
                  rw [World.cell?_setCell_other _ _ _ _ (by simp <;> omega)]; exact hh
                have own2a := own_set own2 (j := y) 0
                have own3a := own_set_other (j := y) own3 (show (Value.slice (some ⟨g2, 0, none⟩) (N + 1) (N + 1)).ownBlock ≠ some g1 from by simp [Value.ownBlock]; omega) (.int .i64 0)
                have z2' := own3a.frozenAt y
                have own2b := own_set_other (j := y) own2a (show (Value.slice (some ⟨g1, 0, none⟩) (N + 1) (N + 1)).ownBlock ≠ some g2 from by simp [Value.ownBlock]; omega) (.int .i64 (i : Int))
                have own3b := own_set own3a (j := y) (i : Int)
                rw [List.set_set] at own2b own3b
                have hbr2 := (hbr.setCell (p := ⟨g1, y, none⟩) (show w1.heap.size ≤ g1 by rw [HG.out]; omega) (.int .i64 0)).setCell (p := ⟨g2, y, none⟩) (show w1.heap.size ≤ g2 by rw [HG.out]; omega) (.int .i64 (i : Int))
                clear own2 own3 own2a own3a hbr
                go_wp2_with fail
                go_roundw
                case rel => exact (show RgB _ _ _ _ _ _ _ _ _ _ _ _ _ from ⟨i + 1, 0, (i : Int), by omega, by go_num, HAt2, .inr ⟨rfl, by omega⟩, own2b, own3b, below_drewN hbr2 qd⟩)
                case measure => simp [intOf]; omega
              · have e1 : decide (hv < 0) = false := decide_eq_false (by omega)
                have HAt2 : Hid (Ax.At D L y (i + 1) C 0 hv) := Lib.hid (by
                  rcases HAt.out with ⟨h, _⟩ | h
                  · omega
                  · exact .inr h)
                go_wp2_with fail
                go_roundw
                case rel => exact (show RgB _ _ _ _ _ _ _ _ _ _ _ _ _ from ⟨i + 1, 0, hv, by omega, by go_num, HAt2, .inr ⟨rfl, hhv⟩, own2, own3, below_drewN hbr qd⟩)
                case measure => simp [intOf]; omega
        · obtain rfl : i = m := by omega
          have HDp2 := Lib.hid (HDp.out.next (by rw [HDl.out]; omega) (by rw [HLl.out]; exact HAt.out))
          go_wp2_with fail
          go_roundw
          case rel => exact (show RgA _ _ _ _ _ _ _ _ _ from ⟨y, _, _, by omega, by go_num, HDp2, own2, own3, hbr⟩)
          case measure => simp [intOf] <;> omega
    · obtain rfl : a = 0 := by omega
      have h0 := HM.out C H HDp.out
      have hC0 := own_cell own2 (j := 0) (by omega)
      rw [h0] at hC0
      have Hch : Hid (∀ x, x < N → C.getD x 0 = 0 → ∃ k : Nat, k < m ∧ H.getD x 0 = (k : Int) ∧ x + (L.getD k []).length + 1 ≤ N ∧ C.getD (x + (L.getD k []).length + 1) 0 = 0) := Lib.hid fun x hx h => by
        rcases HDp.out.sound x (Nat.zero_le _) (by rw [HDl.out]; omega) with h1 | ⟨_, k, h2, h3, h4, h5⟩
        · omega
        · exact ⟨k, by rw [← HLl.out]; exact h2, h3, by rw [HDl.out] at h4; omega, h5⟩
      have Hc2 : Hid (∀ x, x < N → wr.cell? ⟨g2, x, none⟩ = some (.int .i64 (H.getD x 0))) := Lib.hid fun x hx => own_cell own3 (j := x) (by omega)
      have hz : ((0 : Nat) : Int) - 1 = -1 := rfl
      have H0 := Lib.hid h0
      have hwsz : w1.heap.size ≤ wr.heap.size := hbr.size
      obtain ⟨w4, hw4⟩ : ∃ w4, w4 = wr := ⟨_, rfl⟩
      subst hw4
      simp only [hz]
      clear hz own2 own3 HDp h0
      go_wp2_with fail
      go_loopw [18, 19] (fun v p wz => RgC w4.heap.size N C w4 v p wz) (fun _ p _ => N - (intOf p).toNat)
      case atStart => exact (show RgC _ _ _ _ _ _ _ from ⟨0, [], Nat.zero_le _, rfl, H0.out, Nat.le_refl _, World.ownsRow_nil _ _ _ _, Below.refl _ _⟩)
      case round =>
        obtain ⟨x, Q, hx, rfl, hCx, hQ, own, hbr3⟩ := hrel
        have HCx := Lib.hid hCx
        clear hCx
        by_cases hlt : x < N
        · obtain ⟨k, hk, hHk, hnx, hCn⟩ := Hch.out x hlt HCx.out
          have c2 := Hc2.out x hlt
          rw [hHk] at c2
          have c2a := keep_cell hbr3 c2
          obtain ⟨pd, Ai, ci, rfl, hpb, k1, _⟩ := hP.at_ hk
          have h5 := HL5.out k hk
          obtain ⟨q, hq⟩ : ∃ q, (L.getD k []).length = q := ⟨_, rfl⟩
          rw [hq] at k1 h5 hnx hCn
          have HCn := Lib.hid hCn
          have hl63 : Q.length + 1 ≤ maxLen := by unfold maxLen; omega
          have hl8 : (Q.length + 1) * 8 ≤ 140737488355328 := by omega
          obtain ⟨Qn, hQn⟩ : ∃ Qn, Q.length = Qn := ⟨_, rfl⟩
          rw [hQn] at own hQ hl63 hl8
          have HQn := Lib.hid hQn
          obtain ⟨Av, cv, rfl, _, _⟩ := own_form own
          have hkm : (k : Int) < (m : Int) := by omega
          have Hc := Lib.hid c2
          have Hk := Lib.hid k1
          have Hbr := Lib.hid hbr
          clear hHk hq hCn hQn hlt c2 k1
          go_wp2_with (at_builtin
                       go_must (
                       refine wpList_push sl_int rfl (.tmp 127) (.tmp 132) rfl w4.heap.size _ _ _ rfl own 1 1 rfl rfl rfl hl63 hl8 hbr3.size ?_
                       intro v6 w6 own6 hgr6
                       have hb6 := hbr3.trans (hgr6.below (own_ge own) hbr3.size)
                       have c2b := keep_cell hb6 Hc.out
                       have k1b := keep_cell (below_step Hbr.out hb6) Hk.out))
          go_roundw
          case rel => exact (show RgC _ _ _ _ _ _ _ from ⟨x + q + 1, Q ++ [k], by omega, by go_num, HCn.out, by rw [List.length_append, HQn.out]; simp; omega, by rw [List.length_append, HQn.out]; simpa [ints64] using own6, hb6⟩)
          case measure => simp [intOf]; omega
        · obtain rfl : x = N := by omega
          have c0 := keep_cell hbr3 hC0
          have hb4 := below_step hbr hbr3
          have own2 := own_more own hwsz
          obtain ⟨Av, cv, rfl, _, _⟩ := own_form own2
          have hE : ∀ q, RgR w1 (n + 1) (.returned (.tuple #[.slice Av Q.length cv, .int .i64 0, .int .i64 0])) (wr.drewN q) := fun q => ⟨_, Q, rfl, by omega, own2, below_drewN hb4 q⟩
          have HE := Lib.hid hE
          clear hE own own2
          go_wp2_with fail
          go_quiet (fail)
          go_wp2_with fail
          go_ret3
          exact HE.out _
end Go.Proofs.YtocohkgdkebmdaaGreat
