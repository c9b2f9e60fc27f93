/- The walk of leastcode.Witness. -/
import Derived.Test.YtocohkgdkebmdaaGreatTlWt
namespace Go.Proofs.YtocohkgdkebmdaaGreat
open Go.RowKit
theorem add_off0 (g x : Nat) : ((⟨g, 0, none⟩ : Addr).add x) = ⟨g, x, none⟩ := by
  unfold Addr.add
  by_cases hj : x = 0
  · simp [hj]
  · simp [hj]
/-- What Witness leaves. -/
def WtR (l : List IT) (k n : Nat) (w : World) (e : Ending) (w' : World) : Prop :=
  ∃ o : List Nat, Tl.Ord l o ∧ Below w.heap.size w w' ∧
    ((Tl.solve l k o = none ∧ e = .returned (.tuple #[nilS, .int .i64 15])) ∨
     (n = 0 ∧ (∃ bK, Tl.solve l k o = some bK) ∧ e = .returned (.tuple #[nilS, .int .i64 0])) ∨
     ∃ (b K : List Nat) (y : Nat) (ch : List Nat) (v : Value), Tl.solve l k o = some (b, K) ∧ Tl.Chn l K y ch ∧ Tl.base l K y = 0 ∧ Tl.kAt K (ch.getD 0 0) = Tl.maxTo K n ∧ ch.length ≤ 32 ∧
       e = .returned (.tuple #[v, .int .i64 0]) ∧ w'.ownsRow w.heap.size 3 1 v ch.length (ints64 ch.reverse))
/-- The outer loop. -/
def WtA (B n : Nat) (l : List IT) (K : List Nat) (w : World) (kk : Nat) (v9 v10 : Value) (wr : World) : Prop :=
  ∃ (y : Nat) (ch : List Nat), v9 = .int .i64 y ∧ y < n ∧ kk = (Tl.it l y).bl ∧ ch.length + kk ≤ 32 ∧ Hid (Tl.Chn l K y ch) ∧ Hid (Tl.kAt K (ch.getD 0 0) = Tl.maxTo K n) ∧ wr.ownsRow B 3 1 v10 ch.length (ints64 ch) ∧ Below w.heap.size w wr
/-- The inner loop. -/
def WtB (B n y : Nat) (l : List IT) (K : List Nat) (ch : List Nat) (v10 : Value) (w : World) (v9 p : Value) (wr : World) : Prop :=
  v9 = .int .i64 y ∧ ∃ x : Nat, x ≤ n ∧ p = .int .i64 x ∧ Hid (∀ z, z < x → ¬ Tl.Link l K z y) ∧ wr.ownsRow B 3 1 v10 ch.length (ints64 ch) ∧ Below w.heap.size w wr
set_option maxRecDepth 100000 in
set_option maxHeartbeats 4000000 in
theorem witness_c (A : Option Addr) (n c k : Nat) (l : List IT) (w : World) (hj : Tl.JobOk l k) (hn : n ≤ 12) (h : IR4 w A n l) :
    Calls Tryz.prog 74 #[jobV A n c k] w (WtR l k n w) := by
  have hl := h.len
  obtain ⟨W0, hW0⟩ : ∃ W0, w.alloc (.cells #[.slice A n c, .int .i64 k] 57) = W0 := ⟨_, rfl⟩
  have hB1 : Blk W0 w.heap.size 57 #[.slice A n c, .int .i64 k] := by rw [← hW0]; exact Blk.new w _ _
  have hb0 : Below w.heap.size w W0 := by rw [← hW0]; exact (Below.refl _ _).alloc (Nat.le_refl _) _
  have hs0 := hb0.size
  have h0 := h.below hb0
  have HV := Lib.hid (jvalid_c A n c k l W0 hj h0)
  unfold jobV at HV ⊢
  obtain ⟨B, hB⟩ : ∃ B, w.heap.size = B := ⟨_, rfl⟩
  rw [hB] at hB1 hb0 hs0
  have j0 := hB1.cell 0
  have j1 := hB1.cell 1
  simp at j0 j1
  clear h hB1
  go_enter Tryz.func74, Tryz.ntmps74
  go_wp2_with fail
  clear hW0
  refine HV.out.mono ?_
  rintro e w1 ⟨rfl, hb1⟩
  replace j0 := keep_cell hb1 j0
  replace j1 := keep_cell hb1 j1
  have h1 := h0.below hb1
  have hs1 : B ≤ w1.heap.size := Nat.le_trans hs0 hb1.size
  have hb2 : Below B w w1 := hb0.trans (hb1.mono hs0)
  clear HV hb0 hb1 h0 hs0
  have HR := Lib.hid (relations_c A n c k l w1 (by omega) h1)
  unfold jobV at HR
  go_wp2_with fail
  refine HR.out.mono ?_
  rintro e w2 ⟨g, L, vs, rfl, hLL, hLr, hbr⟩
  replace j0 := keep_cell hbr j0
  replace j1 := keep_cell hbr j1
  have h2 := IR4.below h1 hbr
  have hLR2 := hLL.reads
  have HS := Lib.hid (solve_c A n c k l (some ⟨g, 0, none⟩) n L vs w2 hj hn h2 hLR2 hLr)
  unfold jobV at HS
  have hb3 : Below B w w2 := hb2.trans (hbr.mono hs1)
  have hs2 : B ≤ w2.heap.size := Nat.le_trans hs1 hbr.size
  clear hbr hb2 hLL HR
  go_wp2_with fail
  refine HS.out.mono ?_
  intro e w3 hsv
  obtain ⟨v1, v2, v3, rfl, o, ho, hb4, hcase⟩ := svr_form hsv
  have hb5 : Below B w w3 := hb3.trans (hb4.mono hs2)
  clear HS hsv
  rcases hcase with ⟨hno, rfl, rfl, rfl⟩ | ⟨b, K, g1, g2, hso, rfl, rfl, rfl, hgg, own1, own2⟩
  · have hE : WtR l k n w (.returned (.tuple #[nilS, .int .i64 15])) w3 := ⟨o, ho, by rw [hB]; exact hb5, .inl ⟨hno, rfl⟩⟩
    unfold nilS
    clear hno ho
    go_wp2_with fail
    go_ret2
    exact hE
  · have hs3 : B ≤ w3.heap.size := Nat.le_trans hs2 hb4.size
    rcases Nat.eq_zero_or_pos n with hn0 | hn0
    · subst hn0
      have hE : WtR l k 0 w (.returned (.tuple #[nilS, .int .i64 0])) w3 := ⟨o, ho, by rw [hB]; exact hb5, .inr (.inl ⟨rfl, ⟨_, hso⟩, rfl⟩)⟩
      clear hso ho
      go_wp2_with fail
      go_ret2
      exact hE
    · obtain ⟨hsol, hbl, hbk⟩ := Tl.solve_sol ho hso
      have hlt4 := Tl.sol_lt hsol
      have hKl := hsol.1
      have Hbk := Lib.hid hbk
      have Hlt := Lib.hid hlt4
      have hb4' : ∀ y, Tl.base l K y ≤ 4096 := fun y => Tl.baseTo_le hlt4 _
      have Hb4 := Lib.hid hb4'
      have hmx := Tl.maxTo_lt hlt4 n
      have HX := Lib.hid (maxi_c w3 hn0 (by omega) own2)
      have HI := Lib.hid (index_c (v := Tl.maxTo K n) w3 (by omega) own2 (Tl.maxTo_at n hn0))
      have hE : ∀ (y : Nat) (ch : List Nat) (v : Value) (W : World), Tl.Chn l K y ch → Tl.base l K y = 0 → Tl.kAt K (ch.getD 0 0) = Tl.maxTo K n → ch.length ≤ 32 → W.ownsRow B 3 1 v ch.length (ints64 ch.reverse) → Below B w W → WtR l k n w (.returned (.tuple #[v, .int .i64 0])) W :=
        fun y ch v W q1 q2 q3 q4 q5 q6 => ⟨o, ho, by rw [hB]; exact q6, .inr (.inr ⟨b, K, y, ch, v, hso, q1, q2, q3, q4, rfl, by rw [hB]; exact q5⟩)⟩
      have HE := Lib.hid hE
      have hits := hj.its
      have Hits := Lib.hid hits
      have hdn : ((n : Int) == 0) = false := by simp; omega
      have hdn2 : (n == 0) = false := by simp; omega
      clear hb4' hsol hbk hlt4 hso ho hE hits hb3 hj
      obtain ⟨mx, hmxE⟩ : ∃ mx, Tl.maxTo K n = mx := ⟨_, rfl⟩
      rw [hmxE] at HX HI hmx
      go_wp2_with (go_at_call 92; (with_reducible refine HX.out.mono ?_); rintro e w7 ⟨rfl, rfl⟩)
      refine HI.out.mono ?_
      rintro e w7 ⟨y0, hy0, hKy, rfl, rfl⟩
      have hy0l : y0 < l.length := by omega
      have hbl0 : (Tl.it l y0).bl ≤ 31 := (Hits.out _ (Tl.it_mem hy0l)).2.1
      have ownc : (w7.alloc (.cells #[.int .i64 y0] 3)).ownsRow w7.heap.size 3 1 (.slice (some ⟨w7.heap.size, 0, none⟩) 1 1) 1 (ints64 [y0]) := World.ownsRow_lit w7 _ 1 (Nat.le_refl _) (by simp [maxLen]) rfl
      have hbc := (Below.refl w7.heap.size w7).alloc (Nat.le_refl _) (.cells #[.int .i64 y0] 3)
      have hc0 : Hid (Tl.Chn l K y0 [y0]) := Lib.hid (.one y0 hy0l)
      have hc1 : Hid (Tl.kAt K ([y0].getD 0 0) = Tl.maxTo K n) := Lib.hid (by rw [hmxE]; exact hKy)
      clear hKy
      go_wp2_with fail
      go_loopg [9, 10] ((Tl.it l y0).bl) (fun kk v9 v10 wr => WtA w7.heap.size n l K w7 kk v9 v10 wr)
      case atStart => exact (show WtA _ _ _ _ _ _ _ _ _ from ⟨y0, [y0], rfl, hy0, rfl, by simp; omega, hc0, hc1, ownc, hbc⟩)
      case round =>
        clear ownc hbc hc0 hc1 hbl0 hy0l
        obtain ⟨y, ch, rfl, hy, hgk, hcl, Hch, Hc1, own, hbr⟩ := hrel
        obtain ⟨Ac, cc, rfl, _, _⟩ := own_form own
        have own1' := own_below own1 hbr
        have own2' := own_below own2 hbr
        have cb := own64_cell own1' (i := y) hy
        have hby : b.getD y 0 = Tl.base l K y := Hbk.out y (by omega)
        rw [hby] at cb
        have hb5k := Hb4.out y
        obtain ⟨by', hbyE⟩ : ∃ by', Tl.base l K y = by' := ⟨_, rfl⟩
        rw [hbyE] at cb hb5k
        by_cases hpos : 0 < by'
        · have hpI : (0 : Int) < (by' : Int) := by omega
          clear own1' own2'
          go_wp2_with fail
          go_loopw [9, 46] (fun v9 p wr => WtB w7.heap.size n y l K ch (.slice Ac ch.length cc) w7 v9 p wr) (fun _ p _ => n - (intOf p).toNat)
          case atStart => exact (show WtB _ _ _ _ _ _ _ _ _ _ _ from ⟨rfl, 0, by omega, rfl, Lib.hid (fun z hz => absurd hz (Nat.not_lt_zero _)), own, hbr⟩)
          case round =>
            clear own hbr cb
            obtain ⟨rfl, x, hx, rfl, Hno, own, hbr⟩ := hrel
            by_cases hlx : x < n
            · have own1' := own_below own1 hbr
              have own2' := own_below own2 hbr
              have cb := own64_cell own1' (i := y) hy
              rw [hby, hbyE] at cb
              have ck := own64_cell own2' (i := x) hlx
              have hkx : Tl.kAt K x < 4096 := Hlt.out x
              obtain ⟨a2, Ai, ci, hA2, _, k1, hir⟩ := hLR2.at_ hlx
              obtain rfl := Option.some.inj hA2
              rw [hLr x hlx] at k1 hir
              rw [add_off0] at k1
              have hrl : (Tl.relRow l n x).length = n := by simp [Tl.relRow]
              rw [hrl] at k1 hir
              obtain ⟨ai, rfl, _, k2⟩ := hir.at_ hy
              rw [Tl.relRow_at l n x y hy] at k2
              replace k1 := keep_cell hbr (keep_cell hb4 k1)
              replace k2 := keep_cell hbr (keep_cell hb4 k2)
              have hr2 := Tl.rel_le l x y
              obtain ⟨r, hr⟩ : ∃ r, Tl.rel l x y = r := ⟨_, rfl⟩
              obtain ⟨kx, hkxE⟩ : ∃ kx, Tl.kAt K x = kx := ⟨_, rfl⟩
              have hkxE' : K.getD x 0 = kx := hkxE
              rw [hkxE'] at ck
              rw [hr] at k2 hr2
              rw [hkxE] at hkx
              have Hlk : Hid (Tl.Link l K x y ↔ (0 < r ∧ kx + r - 1 = by')) := Lib.hid (by unfold Tl.Link; rw [hr, hkxE, hbyE])
              clear hir hrl hr hkxE hkxE' own1' own2' hA2
              by_cases hlk : 0 < r ∧ kx + r - 1 = by'
              · have hd1 : decide ((0 : Int) < (r : Int)) = true := decide_eq_true (by omega)
                have hd2 : decide (0 < r) = true := decide_eq_true (by omega)
                have hw1 : IntKind.i64.wrap ((kx : Int) + (r : Int)) = (kx : Int) + (r : Int) := IntWalk.i64_in _ ⟨by omega, by omega⟩
                have hw2 : IntKind.i64.wrap ((kx : Int) + (r : Int) - 1) = (kx : Int) + (r : Int) - 1 := IntWalk.i64_in _ ⟨by omega, by omega⟩
                have he : (((kx : Int) + (r : Int) - 1) == (by' : Int)) = true := by simp; omega
                have Hlk2 := Lib.hid (Hlk.out.2 hlk)
                clear hlk Hlk
                go_wp2_with fail
                go_quiet (fail)
                have own5 := own
                have hcl2 : ch.length ≤ 32 := by omega
                go_wp2_with (at_builtin; refine wpList_push sl_int rfl (.tmp 74) (.tmp 76) rfl w7.heap.size (.slice Ac ch.length cc) ch.length (ints64 ch) rfl own5 1 1 rfl rfl rfl (by unfold maxLen; omega) (by omega) hbr.size ?_; intro v9 w9 own9 hgr)
                have hbl2 := (Tl.rel_bl (l := l) (x := x) (y := y) Hlk2.out.1).2
                have hb9 : Below w7.heap.size w7 w9 := hbr.trans (below_drewN' (hgr.below (B := w7.heap.size) (own_ge own5) hbr.size))
                have Hch2 : Hid (Tl.Chn l K x (ch ++ [x])) := Lib.hid (.more x y ch (by omega) Hlk2.out Hch.out)
                have hch0 : 0 < ch.length := by cases Hch.out <;> simp
                have Hc2 : Hid (Tl.kAt K ((ch ++ [x]).getD 0 0) = Tl.maxTo K n) := Lib.hid (by rw [List.getD_eq_getElem?_getD, List.getElem?_append_left hch0, ← List.getD_eq_getElem?_getD]; exact Hc1.out)
                have own10 : w9.ownsRow w7.heap.size 3 1 v9 (ch ++ [x]).length (ints64 (ch ++ [x])) := by rw [List.length_append]; simpa [ints64] using own9
                clear own9 hgr
                go_wp2_with fail
                go_roundg ((Tl.it l x).bl)
                case measure => omega
                case rel => exact (show WtA _ _ _ _ _ _ _ _ _ from ⟨x, _, rfl, hlx, rfl, by simp; omega, Hch2, Hc2, own10, hb9⟩)
              · have Hno2 : Hid (∀ z, z < x + 1 → ¬ Tl.Link l K z y) := Lib.hid fun z hz hc => by
                  by_cases e : z = x
                  · subst e; exact hlk (Hlk.out.1 hc)
                  · exact Hno.out z (by omega) hc
                by_cases hr0 : 0 < r
                · have hd1 : decide ((0 : Int) < (r : Int)) = true := decide_eq_true (by omega)
                  have hd2 : decide (0 < r) = true := decide_eq_true (by omega)
                  have hw1 : IntKind.i64.wrap ((kx : Int) + (r : Int)) = (kx : Int) + (r : Int) := IntWalk.i64_in _ ⟨by omega, by omega⟩
                  have hw2 : IntKind.i64.wrap ((kx : Int) + (r : Int) - 1) = (kx : Int) + (r : Int) - 1 := IntWalk.i64_in _ ⟨by omega, by omega⟩
                  have he : (((kx : Int) + (r : Int) - 1) == (by' : Int)) = false := by simp; omega
                  clear hlk Hlk Hno
                  go_wp2_with fail
                  go_quiet (fail)
                  go_wp2_with fail
                  go_roundw
                  case rel => exact (show WtB _ _ _ _ _ _ _ _ _ _ _ from ⟨rfl, x + 1, by omega, by go_num, Hno2, own, below_drewN hbr _⟩)
                  case measure => simp [intOf]; omega
                · have hd1 : decide ((0 : Int) < (r : Int)) = false := decide_eq_false (by omega)
                  have hd2 : decide (0 < r) = false := decide_eq_false (by omega)
                  clear hlk Hlk Hno
                  go_wp2_with fail
                  go_quiet (fail)
                  go_wp2_with fail
                  go_roundw
                  case rel => exact (show WtB _ _ _ _ _ _ _ _ _ _ _ from ⟨rfl, x + 1, by omega, by go_num, Hno2, own, below_drewN hbr _⟩)
                  case measure => simp [intOf]; omega
            · obtain rfl : x = n := by omega
              exfalso
              obtain ⟨z, hz, h1z, h2z⟩ := Tl.base_hit (l := l) (K := K) (y := y) l.length (by show 0 < Tl.base l K y; rw [hbyE]; exact hpos)
              exact Hno.out z (by omega) ⟨h1z, h2z⟩
        · have hz0 : by' = 0 := by omega
          subst hz0
          have own5 := own
          have HRv := Lib.hid (fun g5 (e5 : Ac = some ⟨g5, 0, none⟩) => reverse_c (g := g5) (cap := cc) (n := ch.length) wr (by omega) (by rw [← e5]; exact own))
          have hch0 : 0 < ch.length := by cases Hch.out <;> simp
          obtain ⟨g5, cap5, hv5, hg5, _⟩ := own5.form hch0
          have hA5 : Ac = some ⟨g5, 0, none⟩ := by injection hv5
          subst hA5
          have HR5 := Lib.hid (HRv.out g5 rfl)
          have hcl2 : ch.length ≤ 32 := by omega
          clear own1' own2' own own5 hv5 HRv
          go_wp2_with fail
          refine HR5.out.mono ?_
          rintro e w8 ⟨rfl, own8, hgr8⟩
          have hbw8 : Below B w w8 := (hb5.trans (hbr.mono hs3)).trans ((Below.refl _ _).grown hgr8 (Nat.le_trans hs3 hbr.size) (fun b' e => by have := Option.some.inj e; omega))
          have hE := HE.out y ch _ w8 Hch.out hbyE Hc1.out hcl2 (own_more own8 hs3) hbw8
          clear own8 hgr8 hbw8 HE Hch Hc1 HR5
          go_wp2_with fail
          go_ret2
          exact hE
end Go.Proofs.YtocohkgdkebmdaaGreat
