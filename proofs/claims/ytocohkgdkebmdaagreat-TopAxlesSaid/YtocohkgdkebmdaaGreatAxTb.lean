/- The walk of reconcile's table of zeros; two tables of the call's own. -/
import Derived.Test.YtocohkgdkebmdaaGreatTlM2
import Derived.Test.YtocohkgdkebmdaaGreatAxW1
namespace Go.Proofs.YtocohkgdkebmdaaGreat
open Go.RowKit
/-- The outer loop. -/
def TbO (b N : Nat) (w : World) (p : Value) (wr : World) : Prop :=
  ∃ (x : Nat) (L : List (List Nat)) (vs : List Value), x ≤ N ∧ p = .int .i64 x ∧ OwnLL wr b 22 3 (.slice (some ⟨b, 0, none⟩) N N) N L vs ∧
    Hid (∀ i, i < N → L.getD i [] = if i < x then List.replicate N 0 else []) ∧ Below b w wr ∧ b < wr.heap.size
/-- The inner loop. -/
def TbI (b N x : Nat) (w : World) (p : Value) (wr : World) : Prop :=
  ∃ (y g' cap' : Nat) (L : List (List Nat)) (vs : List Value), y ≤ N ∧ p = .int .i64 y ∧ OwnLL wr b 22 3 (.slice (some ⟨b, 0, none⟩) N N) N L vs ∧ vs.getD x nilS = .slice (some ⟨g', 0, none⟩) N cap' ∧
    L.getD x [] = List.replicate N 0 ∧ Hid (∀ i, i < N → i ≠ x → L.getD i [] = if i < x then List.replicate N 0 else []) ∧ Below b w wr ∧ b < wr.heap.size
theorem rep_set (N y : Nat) : (List.replicate N (0 : Nat)).set y 0 = List.replicate N 0 := by
  refine List.ext_getElem (by simp) fun i h1 h2 => ?_
  simp
theorem zeros2_of {L : List (List Nat)} {n : Nat} (hl : L.length = n + 1) (h : ∀ i, i < n + 1 → L.getD i [] = List.replicate (n + 1) 0) : L = Ax.zeros2 n := by
  refine List.ext_getElem (by simp [Ax.zeros2, hl]) fun i h1 h2 => ?_
  have := h i (by omega)
  rw [List.getD_eq_getElem?_getD, List.getElem?_eq_getElem h1] at this
  simpa [Ax.zeros2] using this
set_option maxRecDepth 100000 in
set_option maxHeartbeats 4000000 in
theorem table_c (A : Option Addr) (n c : Nat) (w : World) (hn : n ≤ 96) :
    Calls Tryz.prog 33 #[.slice A n c, .slice A n c, .int .i64 0] w fun e w' => ∃ (g : Nat) (vs : List Value), e = .returned (.slice (some ⟨g, 0, none⟩) (n + 1) (n + 1)) ∧
      OwnLL w' w.heap.size 22 3 (.slice (some ⟨g, 0, none⟩) (n + 1) (n + 1)) (n + 1) (Ax.zeros2 n) vs ∧ w.heap.size ≤ g ∧ Below w.heap.size w w' := by
  obtain ⟨N, hN⟩ : ∃ N, n + 1 = N := ⟨_, rfl⟩
  have hNI : (n : Int) + 1 = (N : Int) := by omega
  rw [hN]
  have HN := Lib.hid hN
  have hN97 : N ≤ 97 := by omega
  clear hN
  go_enter Tryz.func33, Tryz.ntmps33
  go_wp2_with (at_make; refine wpList_mkn mk_ll rfl rfl _ _ rfl w.heap.size _ _ _ _ N rfl rfl (by omega) (by omega) (by omega) (by simp only [maxLen]; omega) (Nat.le_refl _) ?_; intro w1 own1 hb1)
  obtain ⟨b, hb⟩ : ∃ b, w.heap.size = b := ⟨_, rfl⟩
  simp only [hb]
  rw [hb] at own1 hb1
  have hll := OwnLL.nils (eI := 3) own1
  have hlt0 := hll.outer.lt b rfl
  have Hb := Lib.hid hb
  clear own1 hb
  go_loopw [16] (fun p wr => TbO b N w p wr) (fun p _ => N - (intOf p).toNat)
  case atStart => exact (show TbO _ _ _ _ _ from ⟨0, _, _, by omega, rfl, hll, Lib.hid (fun i hi => by rw [if_neg (by omega), List.getD_eq_getElem?_getD, List.getElem?_replicate, if_pos hi]; rfl), hb1, hlt0.2⟩)
  case round =>
    obtain ⟨x, L, vs, hx, rfl, hl1, HL, hbr, hsr⟩ := hrel
    by_cases hlt : x < N
    · have hcx := hl1.cellO hlt
      have hfx := hl1.outer.frozenAt x
      go_wp2_with (at_make; refine wpList_mkn mk_intR rfl rfl _ _ rfl wr.heap.size _ _ _ _ N rfl rfl (by omega) (by omega) (by omega) (by simp only [maxLen]; omega) (Nat.le_refl _) ?_; intro w2 own2 hb2; have hcx2 := keep_cell hb2 hcx; have hfx2 := (own_below hl1.outer hb2).frozenAt x)
      have own3 : w2.ownsRow wr.heap.size 3 1 (.slice (some ⟨wr.heap.size, 0, none⟩) N N) (List.replicate N 0).length (ints64 (List.replicate N 0)) := by
        rw [List.length_replicate, ints64_zeros]
        exact own2
      have hl2 := OwnLL.fresh (by decide) hl1 hlt hb2 (by omega) own3
      have hbr2 : Below b w (w2.setCell ⟨b, x, none⟩ (.slice (some ⟨wr.heap.size, 0, none⟩) N N)) := (hbr.trans (hb2.mono (by omega))).setCell (p := ⟨b, x, none⟩) (Nat.le_refl _) _
      have hvl := hl1.vlen
      have hLl := hl1.len
      have hin1 : (vs.set x (.slice (some ⟨wr.heap.size, 0, none⟩) N N)).getD x nilS = .slice (some ⟨wr.heap.size, 0, none⟩) N N := getD_set_same (by omega)
      have hin2 : (L.set x (List.replicate N 0)).getD x [] = List.replicate N 0 := getD_set_same (by omega)
      have Hin : Hid (∀ i, i < N → i ≠ x → (L.set x (List.replicate N 0)).getD i [] = if i < x then List.replicate N 0 else []) := Lib.hid fun i hi hne => by rw [getD_set_other hne.symm, HL.out i hi]
      have hs2 : b < (w2.setCell ⟨b, x, none⟩ (.slice (some ⟨wr.heap.size, 0, none⟩) N N)).heap.size := by have := hb2.size; simp; omega
      go_loopw [31] (fun p wr => TbI b N x w p wr) (fun p _ => N - (intOf p).toNat)
      case atStart => exact (show TbI _ _ _ _ _ _ from ⟨0, wr.heap.size, N, _, _, by omega, rfl, hl2, hin1, hin2, Hin, hbr2, hs2⟩)
      case round =>
        clear own2 own3 hl2 hin1 hin2 Hin hbr2 hs2 hcx hcx2 hfx hfx2
        obtain ⟨y, g', cap', L2, vs2, hy, rfl, hl2, hv2, hp2, H2, hb3, hs3⟩ := hrel
        clear hbr hsr hl1 HL hb2 hvl hLl
        by_cases hlt2 : y < N
        · have hin := hl2.inner x hlt
          rw [hv2] at hin
          have hrow : (L2.getD x []).length = N := by rw [hp2, List.length_replicate]
          rw [hrow] at hin
          have hox := hl2.cellO hlt
          rw [hv2] at hox
          have hiy := own64_cell hin (i := y) hlt2
          have hfy := hin.frozenAt y
          have hvr : vs2.getD x nilS = .slice (some ⟨g', 0, none⟩) (L2.getD x []).length cap' := by rw [hrow]; exact hv2
          have hge : b ≤ g' := own_ge (hl2.inner x hlt) g' (by rw [hv2]; rfl)
          have hl3 := hl2.setIn (x := 0) (j := y) (by decide) hlt hvr
          have hp3 : (L2.set x ((L2.getD x []).set y 0)).getD x [] = List.replicate N 0 := by rw [getD_set_same (by rw [hl2.len]; exact hlt), hp2, rep_set]
          have H3 : Hid (∀ i, i < N → i ≠ x → (L2.set x ((L2.getD x []).set y 0)).getD i [] = if i < x then List.replicate N 0 else []) := Lib.hid fun i hi hne => by rw [getD_set_other hne.symm, H2.out i hi hne]
          generalize L2.set x ((L2.getD x []).set y 0) = L3 at hl3 hp3 H3
          generalize (L2.getD x []).getD y 0 = z at hiy
          clear hl2 hin hp2 H2 hrow hvr
          go_wp2_with fail
          go_roundw
          case rel => exact (show TbI _ _ _ _ _ _ from ⟨y + 1, g', cap', L3, vs2, by omega, by go_num, hl3, hv2, hp3, H3, hb3.setCell hge _, by simp; omega⟩)
          case measure => simp [intOf]; omega
        · obtain rfl : y = N := by omega
          go_wp2_with fail
          go_roundw
          case rel => exact (show TbO _ _ _ _ _ from ⟨x + 1, L2, vs2, by omega, by go_num, hl2, Lib.hid (fun i hi => by
            by_cases e : i = x
            · subst e; rw [hp2, if_pos (by omega)]
            · rw [H2.out i hi e]
              by_cases h : i < x
              · rw [if_pos h, if_pos (by omega)]
              · rw [if_neg h, if_neg (by omega)]), hb3, hs3⟩)
          case measure => simp [intOf]; omega
    · obtain rfl : x = N := by omega
      have hz : L = Ax.zeros2 n := zeros2_of (by rw [hl1.len, HN.out]) (fun i hi => by rw [HL.out i (by rw [← HN.out]; exact hi), if_pos (by rw [← HN.out]; exact hi), HN.out])
      subst hz
      go_wp2_with fail
      go_ret
      exact ⟨b, vs, rfl, by rw [Hb.out]; exact hl1, by rw [Hb.out]; exact Nat.le_refl _, by rw [Hb.out]; exact hbr⟩
/-- An element is stored into a row of the first of two tables. -/
theorem Own2.setIn {w : World} {B n n' i j x g' cap' : Nat} {eO eI : TypeId} {v v' lv : Value} {L L' : List (List Nat)} {vs vs' : List Value} {lr : List Nat} (hne : eI ≠ eO) (h : Own2 w B eO eI v n L vs v' n' L' vs' lv lr) (hi : i < n)
    (hvi : vs.getD i nilS = .slice (some ⟨g', 0, none⟩) (L.getD i []).length cap') : Own2 (w.setCell ⟨g', j, none⟩ (.int .i64 x)) B eO eI v n (L.set i ((L.getD i []).set j x)) vs v' n' L' vs' lv lr := by
  have hb : (vs.getD i nilS).ownBlock = some g' := by rw [hvi]; rfl
  have hap : ∀ {u : Value}, apart (vs.getD i nilS) u → u.ownBlock ≠ some g' := by
    intro u hu e
    rcases hu with h1 | h1
    · rw [h1] at hb; cases hb
    · exact h1 (by rw [hb, e])
  refine ⟨h.a.setIn hne hi hvi, h.b.far_set ?_ (fun k hk => hap (h.x i k hi hk)), h.o, h.x, own_set_other h.r (hap (h.ra i hi)) _, h.ra, h.rb⟩
  exact hap (own_ne (h.a.inner i hi) h.b.outer hne)
theorem row_of {w : World} {B g m c i : Nat} {eO eI : TypeId} {L : List (List Nat)} {vs : List Value} (h : OwnLL w B eO eI (.slice (some ⟨g, 0, none⟩) m c) m L vs) (hi : i < m) (hl : (L.getD i []).length = m) :
    ∃ g' cap', w.cell? ⟨g, i, none⟩ = some (.slice (some ⟨g', 0, none⟩) m cap') ∧ vs.getD i nilS = .slice (some ⟨g', 0, none⟩) (L.getD i []).length cap' ∧ (∀ j, j < m → w.cell? ⟨g', j, none⟩ = some (.int .i64 ((Ax.at2 L i j : Nat) : Int))) ∧ (∀ j, w.frozen? ⟨g', j, none⟩ = false) ∧ B ≤ g' := by
  have hin := h.inner i hi
  have hc := h.cellO hi
  rw [hl] at hin ⊢
  obtain ⟨g', cap', hv, hg, _⟩ := hin.form (by omega)
  rw [hv] at hin hc
  exact ⟨g', cap', hc, hv, fun j hj => own64_cell hin hj, fun j => hin.frozenAt j, hg⟩
end Go.Proofs.YtocohkgdkebmdaaGreat
