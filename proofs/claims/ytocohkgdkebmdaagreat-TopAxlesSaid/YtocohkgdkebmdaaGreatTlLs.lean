/- The walk of leastcode.Least. -/
import Derived.Test.YtocohkgdkebmdaaGreatTlSv
import Derived.Test.YtocohkgdkebmdaaGreatTlM6
namespace Go.Proofs.YtocohkgdkebmdaaGreat
open Go.RowKit
namespace Tl
/-- The steps of the codes. -/
def stepsTo (K : List Nat) : Nat → Nat
  | 0 => 0
  | i + 1 => max (stepsTo K i) (blen (kAt K i))
def stepsOf (K : List Nat) : Nat := stepsTo K K.length
theorem stepsTo_le {K : List Nat} (h : ∀ z, kAt K z < 4096) : ∀ i, stepsTo K i ≤ 12
  | 0 => Nat.zero_le _
  | i + 1 => Nat.max_le.2 ⟨stepsTo_le h i, blen_le (h i)⟩
theorem stepsTo_ge {K : List Nat} {x : Nat} : ∀ i, x < i → blen (kAt K x) ≤ stepsTo K i
  | 0, h => absurd h (Nat.not_lt_zero _)
  | i + 1, h => by
    unfold stepsTo
    by_cases e : x = i
    · subst e; exact Nat.le_max_right _ _
    · exact Nat.le_trans (stepsTo_ge i (by omega)) (Nat.le_max_left _ _)
theorem sol_lt {l : List IT} {w : Nat} {K : List Nat} (hs : Sol l w K) (z : Nat) : kAt K z < 4096 := by
  by_cases h : z < l.length
  · exact (next_spec (hs.2 z h)).2.1
  · unfold kAt
    rw [List.getD_eq_getElem?_getD, List.getElem?_eq_none (by have := hs.1; omega)]
    decide
theorem sol_steps {l : List IT} {w : Nat} {K : List Nat} (hs : Sol l w K) : stepsOf K ≤ 12 ∧ ∀ x, x < l.length → kAt K x < 2 ^ stepsOf K := by
  refine ⟨stepsTo_le (sol_lt hs) _, fun x hx => ?_⟩
  exact (blen_spec (by have := sol_lt hs x; omega) _).1 (stepsTo_ge _ (by have := hs.1; omega))
end Tl
/-- A row of the call's own is kept where its block is. -/
theorem own_under {w0 w1 : World} {B b e size g n cap : Nat} {xs : List Value} (h : w0.ownsRow B e size (.slice (some ⟨g, 0, none⟩) n cap) n xs) (hb : Below b w0 w1) (hg : g < b) : w1.ownsRow B e size (.slice (some ⟨g, 0, none⟩) n cap) n xs := by
  refine ⟨h.1, ?_⟩
  rcases h.2 with h0 | ⟨g', cap', cur, hv, hg', hh, h1, h2, h3, h4⟩
  · exact .inl h0
  · have e : g' = g := by injection hv with hv; injection hv with hv; injection hv with hv; exact hv.symm
    subst e
    exact .inr ⟨g', cap', cur, hv, hg', (hb.block g' hg).trans hh, h1, h2, h3, h4⟩
/-- What Least leaves. -/
def LsR (l : List IT) (k n : Nat) (w : World) (e : Ending) (w' : World) : Prop :=
  ∃ o : List Nat, Tl.Ord l o ∧ Below w.heap.size w w' ∧
      ((Tl.solve l k o = none ∧ e = .returned (.tuple #[planV 0 none 0 0, .int .i64 15])) ∨
       ∃ (b K : List Nat) (g : Nat), Tl.solve l k o = some (b, K) ∧ e = .returned (.tuple #[planV (Tl.stepsOf K) (some ⟨g, 0, none⟩) n n, .int .i64 0]) ∧
         w'.ownsRow w.heap.size 3 1 (.slice (some ⟨g, 0, none⟩) n n) n (ints64 K))
/-- What solve leaves, its results apart. -/
def SvP (l : List IT) (k n : Nat) (w : World) (v1 v2 v3 : Value) (W : World) : Prop :=
  ∃ o : List Nat, Tl.Ord l o ∧ Below w.heap.size w W ∧
      ((Tl.solve l k o = none ∧ v1 = nilS ∧ v2 = nilS ∧ v3 = .int .i64 15) ∨
       ∃ (b K : List Nat) (g1 g2 : Nat), Tl.solve l k o = some (b, K) ∧ v1 = .slice (some ⟨g1, 0, none⟩) n n ∧ v2 = .slice (some ⟨g2, 0, none⟩) n n ∧ v3 = .int .i64 0 ∧ g1 ≠ g2 ∧
         W.ownsRow w.heap.size 3 1 (.slice (some ⟨g1, 0, none⟩) n n) n (ints64 b) ∧ W.ownsRow w.heap.size 3 1 (.slice (some ⟨g2, 0, none⟩) n n) n (ints64 K))
theorem svr_form {l : List IT} {k n : Nat} {w W : World} {e : Ending} (h : SvR l k n w e W) : ∃ v1 v2 v3, e = .returned (.tuple #[v1, v2, v3]) ∧ SvP l k n w v1 v2 v3 W := by
  obtain ⟨o, ho, hb, h | ⟨b, K, g1, g2, h1, h2, h3, h4, h5⟩⟩ := h
  · exact ⟨_, _, _, h.2, o, ho, hb, .inl ⟨h.1, rfl, rfl, rfl⟩⟩
  · exact ⟨_, _, _, h2, o, ho, hb, .inr ⟨b, K, g1, g2, h1, rfl, rfl, rfl, h3, h4, h5⟩⟩
/-- Behind solve. -/
def LsC (l : List IT) (k n : Nat) (w1 : World) (v1 v2 v3 : Value) (W : World) : Prop := ∃ w2, Below w1.heap.size w1 w2 ∧ SvP l k n w2 v1 v2 v3 W
/-- The loop of Least. -/
def LsL (B ib g n : Nat) (K : List Nat) (w : World) (p : Value) (wr : World) : Prop :=
  ∃ i : Nat, i ≤ n ∧ p = .int .i64 i ∧ Blk wr ib 59 #[.int .i64 (Tl.stepsTo K i : Nat), .slice (some ⟨g, 0, none⟩) n n] ∧ Below B w wr
attribute [local irreducible] Tl.stepsTo Tl.blen
set_option maxRecDepth 100000 in
set_option maxHeartbeats 4000000 in
theorem least_c (A : Option Addr) (n c k : Nat) (l : List IT) (w : World) (hj : Tl.JobOk l k) (hn : n ≤ 12) (h : IR4 w A n l) :
    Calls Tryz.prog 71 #[jobV A n c k] w (LsR l k n w) := by
  have hl := h.len
  obtain ⟨W0, hW0⟩ : ∃ W0, (w.alloc (.cells #[.slice A n c, .int .i64 k] 57)).alloc (.cells #[.int .i64 0, .slice none 0 0] 59) = W0 := ⟨_, rfl⟩
  have hB1 : Blk W0 w.heap.size 57 #[.slice A n c, .int .i64 k] := by rw [← hW0]; exact (Blk.new w _ _).alloc _
  have hB2 : Blk W0 (w.heap.size + 1) 59 #[.int .i64 0, .slice none 0 0] := by
    rw [← hW0]
    have := Blk.new (w.alloc (.cells #[.slice A n c, .int .i64 k] 57)) 59 #[.int .i64 0, .slice none 0 0]
    simpa using this
  have hb0 : Below w.heap.size w W0 := by rw [← hW0]; exact ((Below.refl _ _).alloc (Nat.le_refl _) _).alloc (by simp) _
  have hs0 := hb0.size
  have h0 := h.below hb0
  have HV := Lib.hid (jvalid_c A n c k l W0 hj h0)
  unfold jobV at HV ⊢
  obtain ⟨B, hB⟩ : ∃ B, w.heap.size = B := ⟨_, rfl⟩
  rw [hB] at hB1 hB2 hb0 hs0
  have j0 := hB1.cell 0
  have j1 := hB1.cell 1
  simp at j0 j1
  clear h hB1
  go_enter Tryz.func71, Tryz.ntmps71
  go_wp2_with fail
  clear hW0
  refine HV.out.mono ?_
  rintro e w1 ⟨rfl, hb1⟩
  replace j0 := keep_cell hb1 j0
  replace j1 := keep_cell hb1 j1
  have hX := hB2.below hb1 hB2.lt
  have h1 := h0.below hb1
  have hs1 : B ≤ w1.heap.size := Nat.le_trans hs0 hb1.size
  have hb2 : Below B w w1 := hb0.trans (hb1.mono hs0)
  clear HV hb0 hb1 h0 hB2 hs0
  go_upto_region 4 with fail
  go_cut [5, 6, 7] from 8 (fun v1 v2 v3 W => LsC l k n w1 v1 v2 v3 W)
  case first =>
    have HR := Lib.hid (relations_c A n c k l w1.drew (by omega) h1)
    unfold jobV at HR
    go_region_law (first
      | (go_simp; go_at_call 86; (with_reducible refine HS.out.mono ?_); intro e w3 hsv; obtain ⟨v1, v2, v3, rfl, hsp⟩ := svr_form hsv)
      | (go_simp; go_at_call 87; (with_reducible refine HR.out.mono ?_); rintro e w2 ⟨g, L, vs, rfl, hLL, hLr, hbr⟩
         have j0' := keep_cell_d hbr j0
         have j1' := keep_cell_d hbr j1
         have HS := Lib.hid (solve_c A n c k l (some ⟨g, 0, none⟩) n L vs w2 hj hn (IR4.below (w := w1.drew) h1 hbr) hLL.reads hLr)
         unfold jobV at HS))
    all_goals
      go_wp2_with fail
      go_meet
      case rel => exact ⟨w2, below_drew' hbr, hsp⟩
  case rest =>
    obtain ⟨w2, hbr, o, ho, hb3, hsv⟩ := hcut
    have hBw2 : B ≤ w2.heap.size := Nat.le_trans hs1 hbr.size
    have hbw : Below B w wc := hb2.trans ((hbr.trans (hb3.mono hbr.size)).mono hs1)
    have hX2 := ((hX.below hbr hX.lt).below hb3 (hX.below hbr hX.lt).lt)
    have x0 := hX2.cell 0
    have x1 := hX2.cell 1
    have z0 := hX2.frozen 0
    have z1 := hX2.frozen 1
    simp at x0 x1
    rcases hsv with ⟨hno, rfl, rfl, rfl⟩ | ⟨bb, K, g1, g2, hso, rfl, rfl, rfl, hgg, own1, own2⟩
    · have hX3 := (hX2.set_ 0 (.int .i64 0)).set_ 1 (.slice none 0 0)
      have q0 := hX3.cell 0
      have q1 := hX3.cell 1
      simp at q0 q1
      have hE : LsR l k n w (.returned (.tuple #[planV 0 none 0 0, .int .i64 15])) ((wc.setCell ⟨B + 1, 0, none⟩ (.int .i64 0)).setCell ⟨B + 1, 1, none⟩ (.slice none 0 0)) :=
        ⟨o, ho, by rw [hB]; exact (hbw.setCell (p := ⟨B + 1, 0, none⟩) (show B ≤ B + 1 by omega) _).setCell (p := ⟨B + 1, 1, none⟩) (show B ≤ B + 1 by omega) _, .inl ⟨hno, rfl⟩⟩
      clear hno ho
      go_wp2_with fail
      exact bodyPost_ret (v := .tuple #[planV 0 none 0 0, .int .i64 15]) (by simp [results, planV, Tryz.results71, go_sem, q0, q1]) rfl hE
    · have hsol := (Tl.solve_sol ho hso).1
      have hlt4 := Tl.sol_lt hsol
      have hst := (Tl.sol_steps hsol).1
      have Hlt := Lib.hid hlt4
      have hKl := own64_len own2
      have HE := Lib.hid (fun (W : World) (hw : Below B w W) (ow : W.ownsRow B 3 1 (.slice (some ⟨g2, 0, none⟩) n n) n (ints64 K)) => (show LsR l k n w (.returned (.tuple #[planV (Tl.stepsOf K) (some ⟨g2, 0, none⟩) n n, .int .i64 0])) W from
        ⟨o, ho, by rw [hB]; exact hw, .inr ⟨bb, K, g2, hso, rfl, by rw [hB]; exact ow⟩⟩))
      have hBw : B ≤ wc.heap.size := by rw [← hB]; exact hbw.size
      have hX3 := hX2.alloc (.cells #[.int .i64 0, .slice (some ⟨g2, 0, none⟩) n n] 59)
      have hPl := Blk.new wc 59 #[.int .i64 0, .slice (some ⟨g2, 0, none⟩) n n]
      have hbq := hbw.alloc hBw (.cells #[.int .i64 0, .slice (some ⟨g2, 0, none⟩) n n] 59)
      have own3 := own2.alloc (.cells #[.int .i64 0, .slice (some ⟨g2, 0, none⟩) n n] 59)
      have hsz : wc.heap.size < (wc.alloc (.cells #[.int .i64 0, .slice (some ⟨g2, 0, none⟩) n n] 59)).heap.size := by simp
      obtain ⟨ib, hib⟩ : ∃ ib, wc.heap.size = ib := ⟨_, rfl⟩
      rw [hib] at hPl hsz hBw
      have hb1X : B + 1 < ib := by rw [← hib]; exact hX2.lt
      have hg2 : g2 < ib := by rw [← hib]; exact (own2.lt g2 rfl).2
      clear hsol hlt4 hso ho own1 own2 hX hX2 x0 x1 z0 z1 h1 hb2 hbr hb3 j0 j1
      go_wp2_with fail
      generalize wc.alloc (.cells #[.int .i64 0, .slice (some ⟨g2, 0, none⟩) n n] 59) = wq at *
      have hp0 : Blk wq ib 59 #[.int .i64 (Tl.stepsTo K 0 : Nat), .slice (some ⟨g2, 0, none⟩) n n] := by
        have : Tl.stepsTo K 0 = 0 := by rw [Tl.stepsTo]
        rw [this]; exact hPl
      clear hib hPl
      go_loopw [35] (fun p wr => LsL ib ib g2 n K wq p wr) (fun p _ => n - (intOf p).toNat)
      case atStart => exact (show LsL _ _ _ _ _ _ _ _ from ⟨0, by omega, rfl, hp0, Below.refl _ _⟩)
      case round =>
        clear hp0
        obtain ⟨i, hi, rfl, hp, hbr⟩ := hrel
        by_cases hlt : i < n
        · have ow := own_under own3 hbr hg2
          have ci := own64_cell ow (i := i) hlt
          have hk := Hlt.out i
          obtain ⟨kx, hkx⟩ : ∃ kx, K.getD i 0 = kx := ⟨_, rfl⟩
          have hkx' : Tl.kAt K i = kx := hkx
          rw [hkx] at ci
          rw [hkx'] at hk
          have HS := Lib.hid (steps_c kx hk)
          have hss : Tl.stepsTo K (i + 1) = max (Tl.stepsTo K i) (Tl.blen kx) := by rw [Tl.stepsTo, hkx']
          have hs12 := Tl.stepsTo_le Hlt.out i
          have hbl := Tl.blen_le hk
          have p0 := hp.cell 0
          have z0 := hp.frozen 0
          simp at p0
          have hp2 := hp.set_ 0 (.int .i64 (Tl.stepsTo K (i + 1) : Nat))
          simp at hp2
          have hbr2 := hbr.setCell (p := ⟨ib, 0, none⟩) (Nat.le_refl _) (.int .i64 (Tl.stepsTo K (i + 1) : Nat))
          rw [hss] at hp2 hbr2
          have Hss := Lib.hid hss
          obtain ⟨s0, hs0⟩ : ∃ s0, Tl.stepsTo K i = s0 := ⟨_, rfl⟩
          obtain ⟨bl, hble⟩ : ∃ bl, Tl.blen kx = bl := ⟨_, rfl⟩
          rw [hs0] at p0 hp2 hbr2 hs12 Hss
          rw [hble] at hp2 hbr2 hbl Hss HS
          obtain ⟨mx, hmx⟩ : ∃ mx, max s0 bl = mx := ⟨_, rfl⟩
          rw [hmx] at hp2 hbr2 Hss
          have hmi : max (s0 : Int) (bl : Int) = (mx : Int) := by omega
          clear hss hp ow hkx hkx' hs0 hble hmx
          go_wp2_with (go_at_call 88; (with_reducible refine (HS.out _).mono ?_); rintro e w7 ⟨rfl, rfl⟩)
          go_roundw
          case rel => exact (show LsL _ _ _ _ _ _ _ _ from ⟨i + 1, by omega, by go_num, by rw [Hss.out]; exact hp2, hbr2⟩)
          case measure => simp [intOf]; omega
        · obtain rfl : i = n := by omega
          have p0 := hp.cell 0
          have p1 := hp.cell 1
          simp at p0 p1
          have hX4 := hX3.below hbr hb1X
          have x0 := hX4.cell 0
          have x1 := hX4.cell 1
          have z0 := hX4.frozen 0
          have z1 := hX4.frozen 1
          simp at x0 x1
          have hso : Tl.stepsTo K i = Tl.stepsOf K := by unfold Tl.stepsOf; rw [hKl]
          rw [hso] at p0
          have hX5 := (hX4.set_ 0 (.int .i64 (Tl.stepsOf K : Nat))).set_ 1 (.slice (some ⟨g2, 0, none⟩) i i)
          have q0 := hX5.cell 0
          have q1 := hX5.cell 1
          simp at q0 q1
          have ow := own_under own3 hbr hg2
          have ow2 := own_set_other (j := 0) ow (own_blk_ne ow hX4 (by decide)) (.int .i64 (Tl.stepsOf K : Nat))
          have ow3 := own_set_other (j := 1) ow2 (own_blk_ne ow2 (hX4.set_ 0 (.int .i64 (Tl.stepsOf K : Nat))) (by decide)) (.slice (some ⟨g2, 0, none⟩) i i)
          have hbw2 := ((hbq.trans (hbr.mono hBw)).setCell (p := ⟨B + 1, 0, none⟩) (show B ≤ B + 1 by omega) (.int .i64 (Tl.stepsOf K : Nat))).setCell (p := ⟨B + 1, 1, none⟩) (show B ≤ B + 1 by omega) (.slice (some ⟨g2, 0, none⟩) i i)
          have hE := HE.out _ hbw2 (own_more ow3 hBw2)
          clear hso ow ow2 ow3 hbw2 hX5 hX4 hp
          go_wp2_with fail
          exact bodyPost_ret (v := .tuple #[planV (Tl.stepsOf K) (some ⟨g2, 0, none⟩) i i, .int .i64 0]) (by simp [results, planV, Tryz.results71, go_sem, q0, q1]) rfl hE
end Go.Proofs.YtocohkgdkebmdaaGreat
