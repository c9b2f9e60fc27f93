/- The walk of reconcile.Align of a list with itself. -/
import Derived.Test.YtocohkgdkebmdaaGreatAxTb
import Derived.Test.YtocohkgdkebmdaaGreatAxSt
import Derived.BigRegion
namespace Go.Proofs.YtocohkgdkebmdaaGreat
open Go.RowKit
namespace Ax
theorem put2_self {n i j : Nat} {R : List (List Nat)} (h : Tab n R) (hi : i ≤ n) (hj : j ≤ n) : put2 R i j (at2 R i j) = R := by
  have h1 := h.len
  have h2 := h.row i hi
  unfold put2 at2
  have e1 : (R.getD i []).set j ((R.getD i []).getD j 0) = R.getD i [] := by
    rw [List.getD_eq_getElem?_getD (l := R.getD i []), List.getElem?_eq_getElem (by omega)]
    exact List.set_getElem_self _
  rw [e1, List.getD_eq_getElem?_getD, List.getElem?_eq_getElem (by omega)]
  exact List.set_getElem_self _
theorem mx_eq : ((mx : Nat) : Int) = 9223372036854775807 := rfl
end Ax
theorem rstep_c (A : Option Addr) (n c i j e : Nat) (L : List Nat) (w : World) (hn : n ≤ 96) (h : NR w A n L) (hi : i ≤ n) (hj : j ≤ n) (he : e < 5) :
    Calls Tryz.prog 34 #[.slice A n c, .slice A n c, .int .i64 i, .int .i64 j, .int .i64 e] w (StR n i j e w) := by
  rcases (show e = 0 ∨ e = 1 ∨ e = 2 ∨ e = 3 ∨ e = 4 by omega) with rfl | rfl | rfl | rfl | rfl
  · exact rstep0_c A n c i j L w hn h hi hj
  · exact rstep1_c A n c i j L w hn h hi hj
  · exact rstep2_c A n c i j w hn hi hj
  · exact rstep3_c A n c i j w hn hi hj
  · exact rstep4_c A n c i j L w hn h hi hj
theorem row_at {w : World} {B g m c i g' cap' : Nat} {eO eI : TypeId} {L : List (List Nat)} {vs : List Value} (h : OwnLL w B eO eI (.slice (some ⟨g, 0, none⟩) m c) m L vs) (hi : i < m) (hl : (L.getD i []).length = m)
    (hv : vs.getD i nilS = .slice (some ⟨g', 0, none⟩) m cap') : w.cell? ⟨g, i, none⟩ = some (.slice (some ⟨g', 0, none⟩) m cap') ∧ (∀ j, j < m → w.cell? ⟨g', j, none⟩ = some (.int .i64 ((Ax.at2 L i j : Nat) : Int))) ∧ (∀ j, w.frozen? ⟨g', j, none⟩ = false) := by
  have hin := h.inner i hi
  have hc := h.cellO hi
  rw [hl, hv] at hin
  rw [hv] at hc
  exact ⟨hc, fun j hj => own64_cell hin hj, fun j => hin.frozenAt j⟩
/-- The two tables of Align. -/
def AT (w : World) (B g1 g2 N : Nat) (R K : List (List Nat)) (vs1 vs2 : List Value) : Prop :=
  Own2 w B 22 3 (.slice (some ⟨g1, 0, none⟩) N N) N R vs1 (.slice (some ⟨g2, 0, none⟩) N N) N K vs2 nilS []
/-- The outer loop. -/
def AlO (B g1 g2 n : Nat) (vs1 vs2 : List Value) (w0 : World) (p : Value) (wr : World) : Prop :=
  ∃ (i : Nat) (R K : List (List Nat)), i ≤ n + 1 ∧ p = .int .i64 ((i : Int) - 1) ∧ Hid ((0 < i → Ax.Al n (i - 1) (n + 1) R K) ∧ (i = 0 → Ax.Al n 0 0 R K)) ∧ AT wr B g1 g2 (n + 1) R K vs1 vs2 ∧ Below B w0 wr
/-- The loop over j. -/
def AlI (B g1 g2 n i : Nat) (vs1 vs2 : List Value) (w0 : World) (p : Value) (wr : World) : Prop :=
  ∃ (j : Nat) (R K : List (List Nat)), j ≤ n + 1 ∧ p = .int .i64 ((j : Int) - 1) ∧ Hid (Ax.Al n i j R K) ∧ AT wr B g1 g2 (n + 1) R K vs1 vs2 ∧ Below B w0 wr
/-- The loop over the edits. -/
def AlE (B g1 g2 n i j : Nat) (R K : List (List Nat)) (vs1 vs2 : List Value) (w0 : World) (p : Value) (wr : World) : Prop :=
  ∃ e v k : Nat, e ≤ 5 ∧ p = .int .i64 e ∧ Hid (Ax.Ed n i j e v k) ∧ AT wr B g1 g2 (n + 1) (Ax.put2 R i j v) (Ax.put2 K i j k) vs1 vs2 ∧ Below B w0 wr
/-- The last loop. -/
def AlF (B n : Nat) (w0 : World) (v p q : Value) (wr : World) : Prop :=
  ∃ x : Nat, x ≤ n ∧ p = .int .i64 x ∧ q = .int .i64 x ∧ wr.ownsRow B 3 1 v x (ints64 (List.replicate x 0)) ∧ Below B w0 wr
def AlR (n : Nat) (w : World) (e : Ending) (w' : World) : Prop :=
  ∃ v, e = .returned (.tuple #[v, .int .i64 0, .int .i64 0]) ∧ w'.ownsRow w.heap.size 3 1 v n (ints64 (List.replicate n 0)) ∧ Below w.heap.size w w'
set_option maxRecDepth 100000 in
set_option maxHeartbeats 8000000 in
theorem align_c (A : Option Addr) (n c : Nat) (L : List Nat) (w : World) (hn : n ≤ 96) (h : NR w A n L) :
    Calls Tryz.prog 15 #[.slice A n c, .slice A n c] w (AlR n w) := by
  have HLg := Lib.hid (fun W => long_c A A n n c c W hn hn)
  have HTb := Lib.hid (fun W => table_c A n c W hn)
  have Hh := Lib.hid h
  clear h
  go_enter Tryz.func15, Tryz.ntmps15
  go_wp2_with fail
  refine (HLg.out _).mono ?_
  rintro e w1 ⟨rfl, rfl⟩
  go_wp2_with fail
  refine (HTb.out _).mono ?_
  rintro e w2 ⟨g1, vs1, rfl, o1, hg1, hb2⟩
  go_wp2_with fail
  refine (HTb.out _).mono ?_
  rintro e w3 ⟨g2, vs2, rfl, o2, hg2, hb3⟩
  have hb4 := below_step hb2 hb3
  have hT : AT w3 w1.heap.size g1 g2 (n + 1) (Ax.zeros2 n) (Ax.zeros2 n) vs1 vs2 :=
    ⟨o1.below hb3, ⟨own_more o2.outer hb2.size, o2.len, fun i hi => own_more (o2.inner i hi) hb2.size, o2.far⟩, apart_old o1.outer o2.outer (Nat.le_refl _),
      fun i j hi hj => apart_old (o1.inner i hi) (o2.inner j hj) (Nat.le_refl _), ⟨rfl, .inl ⟨rfl, rfl⟩⟩, fun _ _ => apart.symm (.inl rfl), fun _ _ => apart.symm (.inl rfl)⟩
  have HA0 : Hid ((0 < n + 1 → Ax.Al n (n + 1 - 1) (n + 1) (Ax.zeros2 n) (Ax.zeros2 n)) ∧ (n + 1 = 0 → Ax.Al n 0 0 (Ax.zeros2 n) (Ax.zeros2 n))) := Lib.hid ⟨fun _ => Ax.Al.start n, fun e => absurd e (by omega)⟩
  have hp0 : ((n + 1 : Nat) : Int) - 1 = (n : Int) := by omega
  have Hp0 := Lib.hid hp0
  clear o1 o2 hb2 hb3 hp0 HLg HTb
  go_wp2_with fail
  go_loopw [9] (fun p wr => AlO w1.heap.size g1 g2 n vs1 vs2 w1 p wr) (fun p _ => (intOf p + 1).toNat)
  case atStart => exact (show AlO _ _ _ _ _ _ _ _ _ from ⟨n + 1, _, _, Nat.le_refl _, by rw [Hp0.out], HA0, hT, hb4⟩)
  case round =>
    clear hT HA0 hb4 Hp0
    obtain ⟨i1, R, K, hi1, rfl, HAl, hT, hbr⟩ := hrel
    by_cases hi0 : 0 < i1
    · obtain ⟨i, rfl⟩ : ∃ i, i1 = i + 1 := ⟨i1 - 1, by omega⟩
      have hiI : ((i + 1 : Nat) : Int) - 1 = (i : Int) := by omega
      simp only [hiI]
      have HAl0 : Hid (Ax.Al n i (n + 1) R K) := Lib.hid (HAl.out.1 (by omega))
      have hp0 : ((n + 1 : Nat) : Int) - 1 = (n : Int) := by omega
      have Hp0 := Lib.hid hp0
      clear hi0 hiI HAl hp0
      go_wp2_with fail
      go_loopw [10] (fun p wr => AlI w1.heap.size g1 g2 n i vs1 vs2 w1 p wr) (fun p _ => (intOf p + 1).toNat)
      case atStart => exact (show AlI _ _ _ _ _ _ _ _ _ _ from ⟨n + 1, R, K, Nat.le_refl _, by rw [Hp0.out], HAl0, hT, hbr⟩)
      case round =>
        clear hT HAl0 hbr Hp0
        obtain ⟨j1, R, K, hj1, rfl, HAl, hT, hbr⟩ := hrel
        by_cases hj0 : 0 < j1
        · obtain ⟨j, rfl⟩ : ∃ j, j1 = j + 1 := ⟨j1 - 1, by omega⟩
          have hjJ : ((j + 1 : Nat) : Int) - 1 = (j : Int) := by omega
          simp only [hjJ]
          clear hj0 hjJ
          by_cases hcor : i = n ∧ j = n
          · obtain ⟨rfl, rfl⟩ := hcor
            have HAl2 := Lib.hid HAl.out.corner
            go_wp2_with fail
            go_roundw
            case rel => exact (show AlI _ _ _ _ _ _ _ _ _ _ from ⟨j, R, K, by omega, by go_num, HAl2, hT, hbr⟩)
            case measure => simp [intOf] <;> omega
          · have hin : i ≤ n := by omega
            have hjn : j ≤ n := by omega
            have hnc : i < n ∨ j < n := by omega
            obtain ⟨b1, cp1, k1, k3, k4, k5, k6⟩ := row_of hT.a (i := i) (by omega) (HAl.out.tr.row i hin)
            have hT2 := hT.setIn (j := j) (x := Ax.mx) (by decide) (by omega) k3
            rw [Ax.mx_eq] at hT2
            have hT3 : AT (wr.setCell ⟨b1, j, none⟩ (.int .i64 9223372036854775807)) w1.heap.size g1 g2 (n + 1) (Ax.put2 R i j Ax.mx) (Ax.put2 K i j (Ax.at2 K i j)) vs1 vs2 := by
              rw [Ax.put2_self HAl.out.tk hin hjn]; exact hT2
            have hE0 : Hid (Ax.Ed n i j 0 Ax.mx (Ax.at2 K i j)) := Lib.hid (Ax.Ed.start n i j _)
            have k4j := k4 j (by omega)
            have k5j := k5 j
            have hbr2 := hbr.setCell (p := ⟨b1, j, none⟩) k6 (.int .i64 9223372036854775807)
            obtain ⟨zz, hzz⟩ : ∃ zz, Ax.at2 R i j = zz := ⟨_, rfl⟩
            rw [hzz] at k4j
            clear k4 k5 k3 hT hT2 hbr hzz
            have hcases : i ≠ n ∨ (i = n ∧ j ≠ n) := by omega
            have HAl1 := Lib.hid HAl.out
            have hHcor := Lib.hid hcor
            clear hcor
            rcases hcases with hc | ⟨hc1, hc⟩
            all_goals
              have hcb : (((i : Int) == (n : Int)) = false ∧ (i == n) = false) ∨ (((i : Int) == (n : Int)) = true ∧ ((j : Int) == (n : Int)) = false ∧ (j == n) = false) := by
                simp
                omega
              first
                | (have q1 : ((i : Int) == (n : Int)) = false := by simp; omega)
                | (have q1 : ((i : Int) == (n : Int)) = true := by simp; omega
                   have q2 : ((j : Int) == (n : Int)) = false := by simp; omega)
              first
                | (have q3 : (i == n) = false := by simp; omega)
                | (have q3 : (i == n) = true := by simp; omega
                   have q4 : (j == n) = false := by simp; omega)
              have Hc := Lib.hid hc
              clear hc hcb
              try (have Hc1 := Lib.hid hc1; clear hc1)
              go_wp2_with fail
              go_loopw [57] (fun p wr => AlE w1.heap.size g1 g2 n i j R K vs1 vs2 w1 p wr) (fun p _ => 5 - (intOf p).toNat)
              case atStart => exact (show AlE _ _ _ _ _ _ _ _ _ _ _ _ _ from ⟨0, Ax.mx, Ax.at2 K i j, by omega, rfl, hE0, hT3, hbr2⟩)
              case round =>
                clear hT3 hE0 hbr2 k1 k4j k5j
                obtain ⟨e, v, k, he, rfl, HEd, hT, hbr⟩ := hrel
                by_cases hlt : e < 5
                · have HS := Lib.hid (rstep_c A n c i j e L wr hn (Hh.out.below hbr) hin hjn hlt)
                  have HC := Lib.hid (fun W => rcost_c e W hlt)
                  have hlt' : (e : Int) < 5 := by omega
                  go_wp2_with fail
                  refine HS.out.mono ?_
                  rintro r w5 ⟨x, y, ok, rfl, hS, qd, rfl⟩
                  have hT6 : AT (wr.drewN qd) w1.heap.size g1 g2 (n + 1) (Ax.put2 R i j v) (Ax.put2 K i j k) vs1 vs2 := hT.drewN qd
                  have hbr6 : Below w1.heap.size w1 (wr.drewN qd) := below_drewN hbr qd
                  clear hT hbr HS
                  generalize wr.drewN qd = w6 at hT6 hbr6 ⊢
                  cases ok
                  · have HEd2 := Lib.hid (HEd.out.no hS hin hnc)
                    clear hS
                    go_wp2_with fail
                    go_roundw
                    case rel => exact (show AlE _ _ _ _ _ _ _ _ _ _ _ _ _ from ⟨e + 1, v, k, by omega, by go_num, HEd2, hT6, hbr6⟩)
                    case measure => simp [intOf]; omega
                  · obtain ⟨hx, hy, hix, hjy, hne⟩ := hS.le rfl
                    have hbd := HAl1.out.cell hS
                    obtain ⟨bx, cpx, r1, r3, r4, _, _⟩ := row_of hT6.a (i := x) (by omega) ((HAl1.out.tr.put hin).row x hx)
                    obtain ⟨bi, cpi, s1, s3, s4, s5, s6⟩ := row_of hT6.a (i := i) (by omega) ((HAl1.out.tr.put hin).row i hin)
                    obtain ⟨bk, cpk, t1, t3, t4, t5, t6⟩ := row_of hT6.b (i := i) (by omega) ((HAl1.out.tk.put hin).row i hin)
                    have r4y := r4 y (by omega)
                    rw [Ax.at2_other HAl1.out.tr hin (by omega)] at r4y
                    have s4j := s4 j (by omega)
                    rw [Ax.at2_same HAl1.out.tr hin hjn] at s4j
                    have t4j := t4 j (by omega)
                    rw [Ax.at2_same HAl1.out.tk hin hjn] at t4j
                    have s5j := s5 j
                    have t5j := t5 j
                    have hce := Ax.costN_le e
                    have HTk := Lib.hid (fun h => HEd.out.take HAl1.out hS hin hjn hnc h)
                    have HLv := Lib.hid (fun h => HEd.out.leave HAl1.out hS hin hjn hnc h)
                    obtain ⟨ra, hra⟩ : ∃ ra, Ax.at2 R x y = ra := ⟨_, rfl⟩
                    obtain ⟨ce, hcE⟩ : ∃ ce, Ax.costN e = ce := ⟨_, rfl⟩
                    rw [hra] at r4y hbd
                    rw [hcE] at hce HC
                    rw [hra, hcE] at HTk HLv
                    have hbd2 : ra ≤ 1000 := by omega
                    have hw1 : IntKind.i64.wrap ((ce : Int) + (ra : Int)) = ((ce + ra : Nat) : Int) := by rw [show (ce : Int) + (ra : Int) = ((ce + ra : Nat) : Int) by omega]; exact IntWalk.i64_in _ ⟨by omega, by omega⟩
                    have hw2 : (ce : Int) + (ra : Int) = ((ce + ra : Nat) : Int) := by omega
                    obtain ⟨su, hsu⟩ : ∃ su, ce + ra = su := ⟨_, rfl⟩
                    rw [hsu] at hw1 hw2 HTk HLv
                    have hx1 : x < n + 1 := by omega
                    have hy1 : y < n + 1 := by omega
                    have hi1' : i < n + 1 := by omega
                    have hj1' : j < n + 1 := by omega
                    have hx1' : (x : Int) < (n : Int) + 1 := by omega
                    have hy1' : (y : Int) < (n : Int) + 1 := by omega
                    clear hra hcE hsu hbd r4 s4 t4 s5 t5 r3 hne hS
                    by_cases hsv : su < v
                    · have HEd2 := Lib.hid (HTk.out hsv)
                      have hsvI : (su : Int) < (v : Int) := by omega
                      have u3 : vs1.getD i nilS = .slice (some ⟨bi, 0, none⟩) (n + 1) cpi := by rw [s3]; congr 1; exact (HAl1.out.tr.put hin).row i hin
                      have v3 : vs2.getD i nilS = .slice (some ⟨bk, 0, none⟩) (n + 1) cpk := by rw [t3]; congr 1; exact (HAl1.out.tk.put hin).row i hin
                      have hA1 : AT (w6.setCell ⟨bi, j, none⟩ (.int .i64 (su : Int))) w1.heap.size g1 g2 (n + 1) (Ax.put2 R i j su) (Ax.put2 K i j k) vs1 vs2 := by
                        rw [← Ax.put2_put2 (v := v) (u := su) HAl1.out.tr hin]
                        exact hT6.setIn (j := j) (x := su) (by decide) hi1' s3
                      have hA2 : AT (w6.setCell ⟨bk, j, none⟩ (.int .i64 (e : Int))) w1.heap.size g1 g2 (n + 1) (Ax.put2 R i j v) (Ax.put2 K i j e) vs1 vs2 := by
                        rw [← Ax.put2_put2 (v := k) (u := e) HAl1.out.tk hin]
                        exact (hT6.symm.setIn (j := j) (x := e) (by decide) hi1' t3).symm
                      have hA12 : AT ((w6.setCell ⟨bi, j, none⟩ (.int .i64 (su : Int))).setCell ⟨bk, j, none⟩ (.int .i64 (e : Int))) w1.heap.size g1 g2 (n + 1) (Ax.put2 R i j su) (Ax.put2 K i j e) vs1 vs2 := by
                        rw [← Ax.put2_put2 (v := k) (u := e) HAl1.out.tk hin]
                        exact (hA1.symm.setIn (j := j) (x := e) (by decide) hi1' t3).symm
                      have hA21 : AT ((w6.setCell ⟨bk, j, none⟩ (.int .i64 (e : Int))).setCell ⟨bi, j, none⟩ (.int .i64 (su : Int))) w1.heap.size g1 g2 (n + 1) (Ax.put2 R i j su) (Ax.put2 K i j e) vs1 vs2 := by
                        rw [← Ax.put2_put2 (v := v) (u := su) HAl1.out.tr hin]
                        exact hA2.setIn (j := j) (x := su) (by decide) hi1' s3
                      obtain ⟨x1, x2, x3⟩ := row_at hA1.a hi1' ((HAl1.out.tr.put hin).row i hin) u3
                      obtain ⟨x4, x5, x6⟩ := row_at hA1.b hi1' ((HAl1.out.tk.put hin).row i hin) v3
                      obtain ⟨y1, y2, y3⟩ := row_at hA2.a hi1' ((HAl1.out.tr.put hin).row i hin) u3
                      obtain ⟨y4, y5, y6⟩ := row_at hA2.b hi1' ((HAl1.out.tk.put hin).row i hin) v3
                      have x5j := x5 j hj1'
                      have x6j := x6 j
                      have y2j := y2 j hj1'
                      have y3j := y3 j
                      have hb12 := (hbr6.setCell (p := ⟨bi, j, none⟩) s6 (.int .i64 (su : Int))).setCell (p := ⟨bk, j, none⟩) t6 (.int .i64 (e : Int))
                      have hb21 := (hbr6.setCell (p := ⟨bk, j, none⟩) t6 (.int .i64 (e : Int))).setCell (p := ⟨bi, j, none⟩) s6 (.int .i64 (su : Int))
                      generalize Ax.at2 (Ax.put2 K i j k) i j = zk at x5j
                      generalize Ax.at2 (Ax.put2 R i j v) i j = zr at y2j
                      have xq1 : ∀ q, ((w6.drewN q).setCell ⟨bi, j, none⟩ (.int .i64 (su : Int))).cell? ⟨bk, j, none⟩ = some (.int .i64 (zk : Int)) := fun q => x5j
                      have xq2 : ∀ q, ((w6.drewN q).setCell ⟨bi, j, none⟩ (.int .i64 (su : Int))).frozen? ⟨bk, j, none⟩ = false := fun q => x6j
                      have xq3 : ∀ q, ((w6.drewN q).setCell ⟨bk, j, none⟩ (.int .i64 (e : Int))).cell? ⟨bi, j, none⟩ = some (.int .i64 (zr : Int)) := fun q => y2j
                      have xq4 : ∀ q, ((w6.drewN q).setCell ⟨bk, j, none⟩ (.int .i64 (e : Int))).frozen? ⟨bi, j, none⟩ = false := fun q => y3j
                      have xq5 : ∀ q, ((w6.drewN q).setCell ⟨bi, j, none⟩ (.int .i64 (su : Int))).cell? ⟨g1, i, none⟩ = some (.slice (some ⟨bi, 0, none⟩) (n + 1) cpi) := fun q => x1
                      have xq6 : ∀ q, ((w6.drewN q).setCell ⟨bi, j, none⟩ (.int .i64 (su : Int))).cell? ⟨g2, i, none⟩ = some (.slice (some ⟨bk, 0, none⟩) (n + 1) cpk) := fun q => x4
                      have xq7 : ∀ q, ((w6.drewN q).setCell ⟨bk, j, none⟩ (.int .i64 (e : Int))).cell? ⟨g1, i, none⟩ = some (.slice (some ⟨bi, 0, none⟩) (n + 1) cpi) := fun q => y1
                      have xq8 : ∀ q, ((w6.drewN q).setCell ⟨bk, j, none⟩ (.int .i64 (e : Int))).cell? ⟨g2, i, none⟩ = some (.slice (some ⟨bk, 0, none⟩) (n + 1) cpk) := fun q => y4
                      have hi2' : (i : Int) < (n : Int) + 1 := by omega
                      have hj2' : (j : Int) < (n : Int) + 1 := by omega
                      clear x1 x4 x5j x6j y1 y4 y2j y3j
                      have HA12 := Lib.hid (And.intro hA12 hb12)
                      have HA21 := Lib.hid (And.intro hA21 hb21)
                      clear hA1 hA2 hA12 hA21 hb12 hb21 x2 x3 x5 x6 y2 y3 y5 y6 hsv HTk HLv s3 t3 u3 v3 hT6 hbr6
                      go_wp2_with fail
                      go_quiet (first | (go_at_call 35; exact Calls.quiet_of_same (HC.out _)))
                      go_wp2_with fail
                      go_region
                      all_goals
                        go_wp2_with fail
                        go_roundw
                        case rel => first
                          | exact (show AlE _ _ _ _ _ _ _ _ _ _ _ _ _ from ⟨e + 1, su, e, by omega, by go_num, HEd2, (HA12.out.1.drewN _).drewN 1, below_drewN (below_drewN HA12.out.2 _) 1⟩)
                          | exact (show AlE _ _ _ _ _ _ _ _ _ _ _ _ _ from ⟨e + 1, su, e, by omega, by go_num, HEd2, (HA21.out.1.drewN _).drewN 1, below_drewN (below_drewN HA21.out.2 _) 1⟩)
                        case measure => simp [intOf]; omega
                    · have HEd2 := Lib.hid (HLv.out (by omega))
                      have hsvI : ¬ ((su : Int) < (v : Int)) := by omega
                      clear HTk HLv s3 t3
                      go_wp2_with fail
                      go_quiet (first | (go_at_call 35; exact Calls.quiet_of_same (HC.out _)))
                      go_wp2_with fail
                      go_roundw
                      case rel => exact (show AlE _ _ _ _ _ _ _ _ _ _ _ _ _ from ⟨e + 1, v, k, by omega, by go_num, HEd2, hT6.drewN _, below_drewN hbr6 _⟩)
                      case measure => simp [intOf]; omega
                · obtain rfl : e = 5 := by omega
                  have HAl2 := Lib.hid (HAl1.out.next HEd.out hin hjn hnc)
                  go_wp2_with fail
                  go_roundw
                  case rel => exact (show AlI _ _ _ _ _ _ _ _ _ _ from ⟨j, _, _, by omega, by go_num, HAl2, hT, hbr⟩)
                  case measure => simp [intOf] <;> omega
        · obtain rfl : j1 = 0 := by omega
          have HAl2 : Hid ((0 < i → Ax.Al n (i - 1) (n + 1) R K) ∧ (i = 0 → Ax.Al n 0 0 R K)) := Lib.hid ⟨fun h => by
            have := HAl.out
            rw [show i = (i - 1) + 1 by omega] at this
            exact this.up, fun h => by subst h; exact HAl.out⟩
          have hz : ((0 : Nat) : Int) - 1 = -1 := rfl
          simp only [hz]
          clear hz
          go_wp2_with fail
          go_roundw
          case rel => exact (show AlO _ _ _ _ _ _ _ _ _ from ⟨i, R, K, by omega, by go_num, HAl2, hT, hbr⟩)
          case measure => simp [intOf] <;> omega
    · obtain rfl : i1 = 0 := by omega
      have hAl := HAl.out.2 rfl
      have HC0 : Hid (∀ x, x < n → Ax.at2 K x x = 0) := Lib.hid fun x hx => hAl.ch x hx (by omega)
      have hR0 := hAl.di 0 (Nat.zero_le _) (by omega)
      have HTK := Lib.hid hAl.tk
      have HTR := Lib.hid hAl.tr
      obtain ⟨b0, cp0, m1, _, m4, _, _⟩ := row_of hT.a (i := 0) (by omega) (HTR.out.row 0 (Nat.zero_le _))
      have m40 := m4 0 (by omega)
      rw [hR0] at m40
      obtain ⟨w4, hw4⟩ : ∃ w4, w4 = wr := ⟨_, rfl⟩
      subst hw4
      have hz : ((0 : Nat) : Int) - 1 = -1 := rfl
      simp only [hz]
      clear hz hAl hR0 m4
      go_wp2_with fail
      go_loopw [16, 17, 18] (fun v p q wz => AlF w4.heap.size n w4 v p q wz) (fun _ p _ _ => n - (intOf p).toNat)
      case atStart => exact (show AlF _ _ _ _ _ _ _ from ⟨0, Nat.zero_le _, rfl, rfl, World.ownsRow_nil _ _ _ _, Below.refl _ _⟩)
      case round =>
        obtain ⟨x, hx, rfl, rfl, own, hb5⟩ := hrel
        obtain ⟨Av, cv, rfl, _, _⟩ := own_form own
        by_cases hlt : x < n
        · obtain ⟨bk, cpk, t1, _, t4, _, _⟩ := row_of hT.b (i := x) (by omega) (HTK.out.row x hx)
          have t4x := t4 x (by omega)
          rw [HC0.out x hlt] at t4x
          have t1' := keep_cell hb5 t1
          have t4' := keep_cell hb5 t4x
          have hl63 : x + 1 ≤ maxLen := by unfold maxLen; omega
          have hl8 : (x + 1) * 8 ≤ 140737488355328 := by omega
          have Hbr := Lib.hid hbr
          have hx1 : x < n + 1 := by omega
          have hx1' : (x : Int) < (n : Int) + 1 := by omega
          clear t1 t4x t4
          go_wp2_with (at_builtin
                       go_must (
                       refine wpList_push sl_int rfl (.tmp 123) (.tmp 125) rfl w4.heap.size _ _ _ rfl own 1 1 rfl rfl rfl hl63 hl8 hb5.size ?_
                       intro v6 w6 own6 hgr6
                       have hb6 := hb5.trans (hgr6.below (own_ge own) hb5.size)))
          refine (rstep0_c A n c x x L w6 hn (Hh.out.below (below_step Hbr.out hb6)) (by omega) (by omega)).mono ?_
          rintro r w7 ⟨x', y', ok, rfl, hS, qd, rfl⟩
          obtain ⟨_, rfl, rfl⟩ := hS.keep rfl rfl hlt
          have hb7 := below_drewN hb6 qd
          have own7 : w6.ownsRow w4.heap.size 3 1 v6 (x + 1) (ints64 (List.replicate (x + 1) 0)) := by rw [List.replicate_succ']; simpa [ints64] using own6
          have Own7 := Lib.hid own7
          clear hS own7
          go_wp2_with fail
          go_roundw
          case rel => exact (show AlF _ _ _ _ _ _ _ from ⟨x + 1, by omega, by go_num, by go_num, Own7.out, hb7⟩)
          case measure => simp [intOf]; omega
        · obtain rfl : x = n := by omega
          have m1' := keep_cell hb5 m1
          have m40' := keep_cell hb5 m40
          have hb6 := hbr.trans (hb5.mono hbr.size)
          have own2 := own_more own hbr.size
          have HE : Hid (∀ q, AlR x w1 (.returned (.tuple #[.slice Av x cv, .int .i64 0, .int .i64 0])) (wr.drewN q)) := Lib.hid fun q => ⟨_, rfl, own2, below_drewN hb6 q⟩
          clear own own2 m1 m40
          go_wp2_with fail
          go_quiet (fail)
          go_wp2_with fail
          go_ret3
          exact HE.out _
end Go.Proofs.YtocohkgdkebmdaaGreat
