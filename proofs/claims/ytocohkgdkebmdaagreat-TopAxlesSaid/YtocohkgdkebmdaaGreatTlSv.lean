/- The walk of leastcode.solve. -/
import Derived.Test.YtocohkgdkebmdaaGreatTlN
import Derived.Test.YtocohkgdkebmdaaGreatTlO
namespace Go.Proofs.YtocohkgdkebmdaaGreat
open Go.RowKit
/-- The sort of up to twelve items. -/
theorem sortN_c (jb g : Nat) (A : Option Addr) (n c B : Nat) (l : List IT) (w : World) (hn : n ≤ 12) (hb : ∀ x ∈ l, x.bl ≤ 31) (hjc : w.cell? ⟨jb, 0, none⟩ = some (.slice A n c)) (hjg : jb ≠ g) (hjs : jb < w.heap.size)
    (h : IR4 w A n l) (hA : ∀ ad, A = some ad → 0 < n → ad.block ≠ g) (own : w.ownsRow B 3 1 (.slice (some ⟨g, 0, none⟩) n n) n (ints64 (List.range n))) :
    Calls Tryz.prog 99 #[.slice (some ⟨g, 0, none⟩) n n, .func (.func 100) #[] #[.pointer (some ⟨jb, 0, none⟩)]] w fun e w' => e = .returned (.tuple #[]) ∧
      ∃ o : List Nat, Tl.Ord l o ∧ w'.ownsRow B 3 1 (.slice (some ⟨g, 0, none⟩) n n) n (ints64 o) ∧ w.grownBy w' (some g) := by
  rcases Nat.eq_zero_or_pos n with h0 | h0
  · subst h0
    refine (sort0_c _ _ _ _).mono ?_
    rintro e w' ⟨rfl, rfl⟩
    have hl : l = [] := List.eq_nil_of_length_eq_zero h.len
    subst hl
    exact ⟨rfl, [], ⟨List.Perm.refl _, List.Pairwise.nil⟩, own, World.grownBy.refl w' _⟩
  · exact sort_c jb g A n c B l w h0 hn hb hjc hjg hjs h (fun ad e => hA ad e h0) own
namespace Tl
theorem relRow_at (l : List IT) (n x y : Nat) (hy : y < n) : ((relRow l n x).map fun (z : Nat) => (z : Int)).getD y 0 = ((rel l x y : Nat) : Int) := by
  unfold relRow
  rw [List.getD_eq_getElem?_getD, List.getElem?_map, List.getElem?_map, List.getElem?_range hy]
  rfl
theorem rel_le (l : List IT) (x y : Nat) : rel l x y ≤ 2 := by unfold rel; split; omega; split <;> omega
theorem baseTo_le {l : List IT} {K : List Nat} {y : Nat} (hK : ∀ z, kAt K z < 4096) : ∀ x, baseTo l K y x ≤ 4096
  | 0 => Nat.zero_le _
  | x + 1 => by
    unfold baseTo
    have ih := baseTo_le (l := l) (y := y) hK x
    have h1 := hK x
    have h2 := rel_le l x y
    split
    · rw [Nat.max_le]; omega
    · exact ih
theorem solveGo_cons (l : List IT) (w y : Nat) (r b K : List Nat) : solveGo l w (y :: r) b K = match next (base l K y) (it l y).rd w with
    | none => none
    | some k => solveGo l w r (b.set y (base l K y)) (K.set y k) := rfl
end Tl
/-- What solve leaves. -/
def SvR (l : List IT) (k n : Nat) (w : World) (e : Ending) (w' : World) : Prop :=
  ∃ o : List Nat, Tl.Ord l o ∧ Below w.heap.size w w' ∧
      ((Tl.solve l k o = none ∧ e = .returned (.tuple #[nilS, nilS, .int .i64 15])) ∨
       ∃ (b K : List Nat) (g1 g2 : Nat), Tl.solve l k o = some (b, K) ∧ e = .returned (.tuple #[.slice (some ⟨g1, 0, none⟩) n n, .slice (some ⟨g2, 0, none⟩) n n, .int .i64 0]) ∧ g1 ≠ g2 ∧
         w'.ownsRow w.heap.size 3 1 (.slice (some ⟨g1, 0, none⟩) n n) n (ints64 b) ∧ w'.ownsRow w.heap.size 3 1 (.slice (some ⟨g2, 0, none⟩) n n) n (ints64 K))
/-- The loop over the order. -/
def SvB (b g1 g2 n k : Nat) (l : List IT) (o : List Nat) (w : World) (v1 v2 v3 p : Value) (wr : World) : Prop :=
  v1 = .slice (some ⟨g1, 0, none⟩) n n ∧ v2 = .slice (some ⟨g2, 0, none⟩) n n ∧ v3 = .int .i64 0 ∧
  ∃ (i : Nat) (bs K : List Nat), i ≤ n ∧ p = .int .i64 i ∧ wr.ownsRow b 3 1 (.slice (some ⟨g1, 0, none⟩) n n) n (ints64 bs) ∧ wr.ownsRow b 3 1 (.slice (some ⟨g2, 0, none⟩) n n) n (ints64 K) ∧ Below w.heap.size w wr ∧
    Hid (Tl.solve l k o = Tl.solveGo l k (o.drop i) bs K) ∧ Hid (∀ z ∈ o.drop i, Tl.kAt bs z = 0) ∧ Hid (∀ z, Tl.kAt K z < 4096)
/-- The loop over the items. -/
def SvC (b g1 n y : Nat) (l : List IT) (bs K : List Nat) (w : World) (p : Value) (wr : World) : Prop :=
  ∃ x : Nat, x ≤ n ∧ p = .int .i64 x ∧ wr.ownsRow b 3 1 (.slice (some ⟨g1, 0, none⟩) n n) n (ints64 (bs.set y (Tl.baseTo l K y x))) ∧ Below w.heap.size w wr
/-- The first loop of solve. -/
def SvA (W0 : World) (b n : Nat) (p : Value) (wr : World) : Prop :=
  ∃ i : Nat, i ≤ n ∧ p = .int .i64 i ∧ wr.ownsRow b 3 1 (.slice (some ⟨b, 0, none⟩) n n) n (ints64 (Tl.part (fun y => y) n i)) ∧ Below b W0 wr
set_option maxRecDepth 100000 in
set_option maxHeartbeats 4000000 in
theorem solve_c (A : Option Addr) (n c k : Nat) (l : List IT) (A2 : Option Addr) (c2 : Nat) (L : List (List Nat)) (vs : List Value) (w : World) (hj : Tl.JobOk l k) (hn : n ≤ 12) (h : IR4 w A n l) (hL : LLR w A2 n L vs) (hLr : ∀ i, i < n → L.getD i [] = Tl.relRow l n i) :
    Calls Tryz.prog 86 #[jobV A n c k, .slice A2 n c2] w (SvR l k n w) := by
  have hl := h.len
  unfold jobV
  go_enter Tryz.func86, Tryz.ntmps86
  go_wp2_with (at_make; refine wpList_mkn mk_intR rfl rfl _ _ rfl (w.heap.size + 1) _ _ _ _ n rfl rfl rfl rfl (by omega) (by simp only [maxLen]; omega) (by simp) ?_; intro w1 own1 hb1)
  have hc0 : (w.alloc (Obj.cells #[Value.slice A n c, Value.int IntKind.i64 k] 57)).cell? ⟨w.heap.size, 0, none⟩ = some (.slice A n c) := by go_simp
  have hc1 : (w.alloc (Obj.cells #[Value.slice A n c, Value.int IntKind.i64 k] 57)).cell? ⟨w.heap.size, 1, none⟩ = some (.int .i64 k) := by go_simp
  have hbw := (Below.refl w.heap.size w).alloc (Nat.le_refl _) (Obj.cells #[Value.slice A n c, Value.int IntKind.i64 k] 57)
  have hsz : (w.alloc (Obj.cells #[Value.slice A n c, Value.int IntKind.i64 k] 57)).heap.size = w.heap.size + 1 := by simp
  have h0 := h.below hbw
  have hL0 := hL.below hbw
  rw [hsz] at own1
  go_wp2_with fail
  rw [hsz] at hb1
  generalize w.alloc (Obj.cells #[Value.slice A n c, Value.int IntKind.i64 k] 57) = W0 at *
  obtain ⟨b, hb⟩ : ∃ b, b = w.heap.size + 1 := ⟨_, rfl⟩
  rw [← hb] at own1 hb1 hsz ⊢
  have hbl : w.heap.size < b := by omega
  have hbu : b ≤ w.heap.size + 1 := by omega
  clear hb
  rw [← ints64_zeros, ← Tl.part_zero (fun y => y)] at own1
  go_loopw [21] (fun p wr => SvA W0 b n p wr) (fun p _ => n - (intOf p).toNat)
  case atStart => exact (show SvA _ _ _ _ _ from ⟨0, by omega, rfl, own1, hb1⟩)
  case round =>
    obtain ⟨i, hi, rfl, hown, hbr⟩ := hrel
    by_cases hlt : i < n
    · have hci := own64_cell hown hlt
      have hfi := hown.frozenAt i
      have hown2 := own64_set hown (i := i) i
      have hps : (Tl.part (fun y => y) n i).set i i = Tl.part (fun y => y) n (i + 1) := Tl.part_set (fun y => y) n i
      rw [hps] at hown2
      have hb2 := hbr.setCell (p := ⟨b, i, none⟩) (Nat.le_refl _) (.int .i64 (i : Int))
      generalize (Tl.part (fun y => y) n i).getD i 0 = z at hci
      clear hown hbr own1 hb1 hps
      go_wp2_with fail
      go_roundw
      case rel => exact (show SvA _ _ _ _ _ from ⟨i + 1, by omega, by go_num, hown2, hb2⟩)
      case measure => simp [intOf]; omega
    · obtain rfl : i = n := by omega
      rw [Tl.part_full, List.map_id'] at hown
      clear own1 hb1
      have hbr0 : Below w.heap.size w wr := hbw.trans (hbr.mono (by omega))
      have hjc := hbr.cell (p := ⟨w.heap.size, 0, none⟩) (by show w.heap.size < b; omega)
      rw [hc0] at hjc
      have hkc := hbr.cell (p := ⟨w.heap.size, 1, none⟩) (by show w.heap.size < b; omega)
      rw [hc1] at hkc
      have hbr' := hbr
      rw [← hsz] at hbr'
      have h1 := h0.below hbr'
      have hL1 := hL0.below hbr'
      have hjs := cell_lt hjc
      have HSo := Lib.hid (sortN_c w.heap.size b A i c b l wr hn (fun x hx => (hj.its x hx).2.1) hjc (by omega) hjs h1 (fun ad e h0' => by
        obtain ⟨ad', e', hb', _⟩ := h.2 h0'
        obtain rfl := Option.some.inj (e.symm.trans e')
        omega) hown)
      have hwt := hj.wt
      have Hj := Lib.hid hj
      clear hbr hbr' hown h0 hL0 hbw hj h1 hL1
      go_wp2_with fail
      refine HSo.out.mono ?_
      rintro e w2 ⟨rfl, o, hord, own2, hg2⟩
      have hbr2 : Below w.heap.size w w2 := hbr0.grown hg2 hbr0.size (fun g e => by cases e; omega)
      replace hjc := hg2.cell hjc (by simp; omega)
      replace hkc := hg2.cell hkc (by simp; omega)
      have h2 := h.below hbr2
      have hL2 := hL.below hbr2
      have hbs : w.heap.size ≤ w2.heap.size := hbr2.size
      clear hg2 hbr0 HSo h hL
      go_upto_region 9 with (at_make; refine wpList_mkn mk_intR rfl rfl _ _ rfl w.heap.size _ _ _ _ i rfl rfl rfl rfl (by omega) (by simp only [maxLen]; omega) hbs ?_; intro w3 own3 hb3)
      have hbs3 : w.heap.size ≤ w3.heap.size := Nat.le_trans hbs hb3.size
      have hg1 : w2.heap.size < w3.heap.size := (own3.lt w2.heap.size rfl).2
      go_wp2_with (at_make; refine wpList_mkn mk_intR rfl rfl _ _ rfl w.heap.size _ _ _ _ i rfl rfl rfl rfl (by omega) (by simp only [maxLen]; omega) hbs3 ?_; intro w4 own4 hb4)
      have hb24 : Below w2.heap.size w2 w4 := hb3.trans (hb4.mono hb3.size)
      replace own3 := own_below own3 hb4
      obtain ⟨g1, hg1E⟩ : ∃ g1, w2.heap.size = g1 := ⟨_, rfl⟩
      obtain ⟨g2, hg2E⟩ : ∃ g2, w3.heap.size = g2 := ⟨_, rfl⟩
      simp only [hg1E, hg2E]
      rw [hg1E] at own3 hg1
      rw [hg2E] at own4 hg1
      rw [← ints64_zeros] at own3 own4
      clear hb3 hb4 hg2E
      have hbb : b < g1 := by rw [← hg1E]; exact (own2.lt b rfl).2
      have hperm := hord.perm
      have hlo : o.length = i := by have := hperm.length_eq; rw [hl] at this; simpa using this
      have hnd : o.Nodup := hperm.nodup_iff.2 List.nodup_range
      have hmem : ∀ z ∈ o, z < i := fun z hz => by have := (hperm.mem_iff (a := z)).1 hz; rw [hl] at this; simpa using this
      have Hnd := Lib.hid hnd
      have Hmem := Lib.hid hmem
      have Hord := Lib.hid hord
      have hz0 : Hid (∀ z ∈ o.drop 0, Tl.kAt (List.replicate i 0) z = 0) := Lib.hid fun z _ => Tl.kAt_zeros i z
      have hz1 : Hid (∀ z, Tl.kAt (List.replicate i 0) z < 4096) := Lib.hid fun z => by have := Tl.kAt_zeros i z; unfold Tl.zeros at this; omega
      have hz2 : Hid (Tl.solve l k o = Tl.solveGo l k (o.drop 0) (List.replicate i 0) (List.replicate i 0)) := Lib.hid (by unfold Tl.solve Tl.zeros; rw [hl]; rfl)
      clear hnd hmem hord hperm
      go_loopw [4, 5, 6, 40] (fun v1 v2 v3 p wr => SvB w.heap.size g1 g2 i k l o w2 v1 v2 v3 p wr) (fun _ _ _ p _ => i - (intOf p).toNat)
      case atStart => exact (show SvB _ _ _ _ _ _ _ _ _ _ _ _ _ from ⟨rfl, rfl, rfl, 0, _, _, by omega, rfl, own3, own4, hb24, hz2, hz0, hz1⟩)
      case round =>
        clear own3 own4 hb24 hz0 hz1 hz2
        obtain ⟨rfl, rfl, rfl, m, bs, K, hm, rfl, own3, own4, hbr3, Hs, Hz, HK⟩ := hrel
        by_cases hlt : m < i
        · obtain ⟨y, hy⟩ : ∃ y, o.getD m 0 = y := ⟨_, rfl⟩
          have hdr : o.drop m = y :: o.drop (m + 1) := by
            rw [List.drop_eq_getElem_cons (by omega), ← hy, List.getD_eq_getElem?_getD, List.getElem?_eq_getElem (by omega)]; rfl
          have hym : y ∈ o := by rw [← hy, List.getD_eq_getElem?_getD, List.getElem?_eq_getElem (by omega)]; exact List.getElem_mem _
          have hyi := Hmem.out y hym
          have hnin : y ∉ o.drop (m + 1) := by
            have h5 : (o.drop m).Nodup := Hnd.out.sublist (List.drop_sublist _ _)
            rw [hdr] at h5
            exact (List.nodup_cons.1 h5).1
          have hby : Tl.kAt bs y = 0 := Hz.out y (by rw [hdr]; exact List.mem_cons_self ..)
          have hbl1 : bs.length = i := own64_len own3
          have hKl1 : K.length = i := own64_len own4
          have hset0 : bs.set y (Tl.baseTo l K y 0) = bs := by
            show bs.set y 0 = bs
            rw [← hby]
            unfold Tl.kAt
            rw [List.getD_eq_getElem?_getD, List.getElem?_eq_getElem (by omega)]
            exact List.set_getElem_self _
          have Hs2 : Hid (Tl.solve l k o = match Tl.next (Tl.base l K y) (Tl.it l y).rd k with
              | none => none
              | some q => Tl.solveGo l k (o.drop (m + 1)) (bs.set y (Tl.base l K y)) (K.set y q)) := Lib.hid (by rw [Hs.out, hdr, Tl.solveGo_cons])
          have Hz2 : Hid (∀ v, ∀ z ∈ o.drop (m + 1), Tl.kAt (bs.set y v) z = 0) := Lib.hid fun v z hz => by
            have hne : y ≠ z := fun e => hnin (by rw [e]; exact hz)
            rw [Tl.kAt_set_other hne]
            exact Hz.out z (by rw [hdr]; exact List.mem_cons_of_mem _ hz)
          have hoc := (own64_cell (own_below own2 (by rw [hg1E]; rw [hg1E] at hbr3; exact hbr3)) (i := m) (by omega) : wr.cell? ⟨b, m, none⟩ = _)
          rw [hy] at hoc
          have hjc3 := hbr3.cell (p := ⟨w.heap.size, 0, none⟩) (by show w.heap.size < w2.heap.size; omega)
          rw [hjc] at hjc3
          rw [← hset0] at own3
          clear hdr hym hnin hby hset0 Hs Hz hy
          go_wp2_with fail
          go_loopw [47] (fun p wr => SvC w.heap.size g1 i y l bs K w2 p wr ∧ wr.ownsRow w.heap.size 3 1 (.slice (some ⟨g2, 0, none⟩) i i) i (ints64 K)) (fun p _ => i - (intOf p).toNat)
          case atStart => exact ⟨(show SvC _ _ _ _ _ _ _ _ _ _ from ⟨0, by omega, rfl, own3, hbr3⟩), own4⟩
          case round =>
            clear own3 own4 hbr3 hoc hjc3
            obtain ⟨⟨x, hx, rfl, own3, hbr3⟩, own4⟩ := hrel
            by_cases hlx : x < i
            · obtain ⟨a2, Ai, ci, rfl, _, k1, hir⟩ := hL2.at_ hlx
              rw [hLr x hlx] at k1 hir
              have hrl : (Tl.relRow l i x).length = i := by simp [Tl.relRow]
              rw [hrl] at k1 hir
              obtain ⟨ai, rfl, _, k2⟩ := hir.at_ hyi
              rw [Tl.relRow_at l i x y hyi] at k2
              replace k1 := keep_cell hbr3 k1
              replace k2 := keep_cell hbr3 k2
              have hsuc : Tl.baseTo l K y (x + 1) = if 0 < Tl.rel l x y then max (Tl.baseTo l K y x) (Tl.kAt K x + Tl.rel l x y - 1) else Tl.baseTo l K y x := rfl
              have hr2 := Tl.rel_le l x y
              obtain ⟨r, hr⟩ : ∃ r, Tl.rel l x y = r := ⟨_, rfl⟩
              rw [hr] at k2 hsuc hr2
              by_cases hr0 : 0 < r
              · rw [if_pos hr0] at hsuc
                have hb4 := Tl.baseTo_le (l := l) (y := y) HK.out x
                have hkx := HK.out x
                have co := own64_cell own3 (i := y) hyi
                have zo := own3.frozenAt y
                have ck := own64_cell own4 (i := x) hlx
                rw [getD_set_same (by omega)] at co
                have own5 := own64_set own3 (i := y) (Tl.baseTo l K y (x + 1))
                rw [List.set_set] at own5
                have own6 := own_set_other (j := y) own4 (show (Value.slice (some ⟨g2, 0, none⟩) i i).ownBlock ≠ some g1 from by simp [Value.ownBlock]; omega) (.int .i64 (Tl.baseTo l K y (x + 1) : Nat))
                have hbr5 := hbr3.setCell (p := ⟨g1, y, none⟩) (show w2.heap.size ≤ g1 by omega) (.int .i64 (Tl.baseTo l K y (x + 1) : Nat))
                have ck' : wr.cell? ⟨g2, x, none⟩ = some (.int .i64 (Tl.kAt K x : Nat)) := ck
                obtain ⟨kx, hkxE⟩ : ∃ kx, Tl.kAt K x = kx := ⟨_, rfl⟩
                obtain ⟨bx, hbxE⟩ : ∃ bx, Tl.baseTo l K y x = bx := ⟨_, rfl⟩
                obtain ⟨nb, hnbE⟩ : ∃ nb, Tl.baseTo l K y (x + 1) = nb := ⟨_, rfl⟩
                rw [hkxE] at hkx ck' hsuc
                rw [hbxE] at hb4 co hsuc
                rw [hnbE] at own5 own6 hbr5 hsuc
                have hw1 : IntKind.i64.wrap ((kx : Int) + (r : Int)) = (kx : Int) + (r : Int) := IntWalk.i64_in _ ⟨by omega, by omega⟩
                have hw2 : IntKind.i64.wrap ((kx : Int) + (r : Int) - 1) = (kx : Int) + (r : Int) - 1 := IntWalk.i64_in _ ⟨by omega, by omega⟩
                have hmx : max (bx : Int) ((kx : Int) + (r : Int) - 1) = (nb : Int) := by omega
                have Hnb := Lib.hid hnbE
                have hr0' : (0 : Int) < (r : Int) := by omega
                clear ck own3 own4 hkxE hbxE hnbE hsuc hr hir
                go_wp2_with fail
                go_region
                all_goals
                  go_wp2_with fail
                  go_roundw
                  case rel => exact ⟨(show SvC _ _ _ _ _ _ _ _ _ _ from ⟨x + 1, by omega, by go_num, by rw [Hnb.out]; exact own5, below_drewN hbr5 1⟩), own6⟩
                  case measure => simp [intOf]; omega
              · rw [if_neg hr0] at hsuc
                obtain rfl : r = 0 := by omega
                rw [← hsuc] at own3
                clear hsuc hr hir hr0
                go_wp2_with fail
                go_roundw
                case rel => exact ⟨(show SvC _ _ _ _ _ _ _ _ _ _ from ⟨x + 1, by omega, by go_num, own3, hbr3⟩), own4⟩
                case measure => simp [intOf]; omega
            · obtain rfl : x = i := by omega
              obtain ⟨ai, p0, rfl, _, hp0, _, _, c3, _⟩ := h2.at_ hyi
              rw [← (itm_at hp0).1] at c3
              clear hp0
              replace c3 := keep_cell hbr3 c3
              have hkc3 := hbr3.cell (p := ⟨w.heap.size, 1, none⟩) (by show w.heap.size < w2.heap.size; omega)
              rw [hkc] at hkc3
              have hjc3 := hbr3.cell (p := ⟨w.heap.size, 0, none⟩) (by show w.heap.size < w2.heap.size; omega)
              rw [hjc] at hjc3
              have hbase : Tl.baseTo l K y x = Tl.base l K y := by unfold Tl.base; rw [hl]
              have hb4 := Tl.baseTo_le (l := l) (y := y) HK.out x
              rw [hbase] at own3 hb4
              have co := own64_cell own3 (i := y) hyi
              rw [getD_set_same (by omega)] at co
              have hrd : (Tl.it l y).rd ≤ 12 := (Hj.out.its _ (Tl.it_mem (by omega))).2.2.1
              obtain ⟨bv, hbv⟩ : ∃ bv, Tl.base l K y = bv := ⟨_, rfl⟩
              obtain ⟨rd, hrdE⟩ : ∃ rd, (Tl.it l y).rd = rd := ⟨_, rfl⟩
              have Hs3 := Hs2.out
              rw [hbv] at co own3 hb4 Hs3
              rw [hrdE] at c3 hrd Hs3
              have HN := Lib.hid (cnext_q bv rd k (by omega) hrd hwt)
              have co2 := fun q : Nat => own64_cell own4 (i := y) hyi
              cases hnx : Tl.next bv rd k with
              | none =>
                rw [hnx] at Hs3
                have hnv := Tl.next_none hnx
                rw [hnv.1, hnv.2] at HN
                have hE : ∀ q, SvR l k x w (.returned (.tuple #[.slice none 0 0, .slice none 0 0, .int .i64 15])) (wr.drewN q) := fun q => ⟨o, Hord.out, below_drewN (hbr2.trans (hbr3.mono hbs)) q, .inl ⟨Hs3, rfl⟩⟩
                have HE := Lib.hid hE
                clear Hs3 Hs2 Hz2 hnx hnv hE own3 own4 hbase hbv hrdE
                go_wp2_with fail
                go_quiet (first | (go_at_call 101; exact Calls.quiet_of (HN.out _)))
                go_wp2_with fail
                go_ret3
                exact HE.out _
              | some q =>
                rw [hnx] at Hs3
                have hnv := Tl.next_some hnx
                rw [hnv.1, hnv.2] at HN
                have hq4 := (Tl.next_spec hnx).2.1
                have cl := own64_cell own4 (i := y) hyi
                have zl := own4.frozenAt y
                have own4' := own64_set own4 (i := y) q
                have own3' := own_set_other (j := y) own3 (show (Value.slice (some ⟨g1, 0, none⟩) x x).ownBlock ≠ some g2 from by simp [Value.ownBlock]; omega) (.int .i64 (q : Int))
                have hbr5 := hbr3.setCell (p := ⟨g2, y, none⟩) (show w2.heap.size ≤ g2 by omega) (.int .i64 (q : Int))
                have HK2 : Hid (∀ z, Tl.kAt (K.set y q) z < 4096) := Lib.hid fun z => by
                  by_cases e : y = z
                  · subst e
                    rw [Tl.kAt_set_same (by omega)]
                    exact hq4
                  · rw [Tl.kAt_set_other e]
                    exact HK.out z
                have Hs4 : Hid (Tl.solve l k o = Tl.solveGo l k (o.drop (m + 1)) (bs.set y bv) (K.set y q)) := Lib.hid Hs3
                have Hz3 := Lib.hid (Hz2.out bv)
                obtain ⟨lv, hlv⟩ : ∃ lv, K.getD y 0 = lv := ⟨_, rfl⟩
                rw [hlv] at cl
                clear Hs3 Hs2 Hz2 hnx hnv own3 own4 hbase hbv hrdE hlv hq4 HK
                go_wp2_with fail
                go_quiet (first | (go_at_call 101; exact Calls.quiet_of (HN.out _)))
                go_wp2_with fail
                go_roundw
                case rel => exact (show SvB _ _ _ _ _ _ _ _ _ _ _ _ _ from ⟨rfl, rfl, rfl, m + 1, _, _, by omega, by go_num, own3', own4', below_drewN hbr5 _, Hs4, Hz3, HK2⟩)
                case measure => simp [intOf]; omega
        · obtain rfl : m = i := by omega
          have hfin : Tl.solve l k o = some (bs, K) := by rw [Hs.out, List.drop_eq_nil_of_le (by omega)]; rfl
          have hE : SvR l k m w (.returned (.tuple #[.slice (some ⟨g1, 0, none⟩) m m, .slice (some ⟨g2, 0, none⟩) m m, .int .i64 0])) wr := ⟨o, Hord.out, hbr2.trans (hbr3.mono hbs), .inr ⟨bs, K, g1, g2, hfin, rfl, by omega, own3, own4⟩⟩
          clear Hs Hz HK own3 own4 hfin
          go_wp2_with fail
          go_ret3
          exact hE
end Go.Proofs.YtocohkgdkebmdaaGreat
