/- code.Next once more: it only draws. -/
import Derived.Test.YtocohkgdkebmdaaGreatTlM5
import Derived.Test.YtocohkgdkebmdaaGreatTlO
import Derived.Shelf.SlSortCmp.Small
import Derived.Shelf.SlicesG.Cmp
import Derived.Shelf.Small.Bits
import Derived.Shelf.Lay
import Derived.Ground.SlsfProg
import Derived.Ground.NamesProg
import Derived.Sort.OwnSortedInts
import Derived.Shelf.SlSortCmp.NoneTotal
import Derived.Test.YtocohkgdkebmdaaGreatTlW3
namespace Go.Proofs.YtocohkgdkebmdaaGreat
open Go.RowKit
namespace Tl
end Tl
theorem getD_mem0 {l : List Nat} {i : Nat} (h : i < l.length) : l.getD i 0 ∈ l := by
  rw [List.getD_eq_getElem?_getD, List.getElem?_eq_getElem h]
  exact List.getElem_mem _
theorem mk_bools : Tryz.prog.underlying 138 = some (.slice 4) ∧ ∃ i, Tryz.prog.info? 4 = some i ∧ i.zero = some (.bool false) ∧ i.size = 1 ∧ i.bytes = 1 := by
  obtain ⟨i, h1, h2, h3, h4⟩ := info_parts (show (Tryz.prog.info? 4).map (fun i => (i.zero, i.size, i.bytes)) = some (some (.bool false), 1, 1) by kernel_rfl)
  exact ⟨Tryz.underlying138, i, h1, h2, h3, h4⟩
end Go.Proofs.YtocohkgdkebmdaaGreat
namespace Go.Proofs.YtocohkgdkebmdaaGreat
open Go.Proofs Go.Shelf Go.RowKit Go.Lib Go.Sort
shelf_lay_g SlLaysF.n6 Slsf 6 at Tryz 99 as Tryz.sortInt
shelf_lay Lays.n125 Nm 125 at Tryz as Tryz.bitsLen
theorem sort_hlen (n : Nat) (W : World) (h : n ≤ 12) : Calls Tryz.prog 97 #[.int .u64 n] W fun e w' => (∃ l : Int, e = .returned (.int .i64 l)) ∧ w' = W :=
  (Any.bits_Len Tryz.bitsLen n W (by omega) (by omega)).mono fun _ _ ⟨he, hw⟩ => ⟨⟨_, he⟩, hw⟩
set_option maxRecDepth 100000 in
set_option maxHeartbeats 2000000 in
theorem solve1_c (jb : Nat) (A : Option Addr) (n c : Nat) (l : List IT) (W : World) (hb : ∀ x ∈ l, x.bl ≤ 31) (hjc : W.cell? ⟨jb, 0, none⟩ = some (.slice A n c)) (h : IR4 W A n l) (x y : Nat) (hx : x < n) (hy : y < n) :
    Calls Tryz.prog 100 #[.int .i64 x, .int .i64 y, .pointer (some ⟨jb, 0, none⟩)] W fun e w' => e = .returned (.int .i64 (((Tl.it l x).bl : Int) - (Tl.it l y).bl)) ∧ ∃ q, w' = W.drewN q := by
  obtain ⟨ad, ⟨pa, pb, pc, pd⟩, rfl, hba, hpx, c1, c2, c3, c4⟩ := h.at_ hx
  obtain ⟨ad', ⟨qa, qb, qc, qd⟩, hea, _, hqy, f1, f2, f3, f4⟩ := h.at_ hy
  obtain rfl := Option.some.inj hea
  have b1 := hb _ (itm_at hpx).2
  have b2 := hb _ (itm_at hqy).2
  rw [(itm_at hpx).1, (itm_at hqy).1]
  simp only at c1 c2 c3 c4 f1 f2 f3 f4 b1 b2 ⊢
  have hw1 : IntKind.i64.wrap ((pb : Int) - (qb : Int)) = (pb : Int) - (qb : Int) := IntWalk.i64_in _ ⟨by omega, by omega⟩
  clear hpx hqy hea h hb
  go_enter Tryz.func100, Tryz.ntmps100
  go_wp2_with fail
  go_quiet (fail)
  go_wp2_with fail
  go_ret
  exact ⟨rfl, _, rfl⟩
end Go.Proofs.YtocohkgdkebmdaaGreat
namespace Go.Proofs.YtocohkgdkebmdaaGreat
open Go.Proofs Go.Shelf Go.RowKit Go.Lib Go.Sort
section
variable {α : Type} [Inhabited α] {enc : α → Value}
theorem heap_sortedE {w : World} {g n : Nat} {cur : Array Value} {e : TypeId} {fr : Nat × Nat} (d : Array α) (hb : w.heap[g]? = some (.cells cur e fr)) :
    ((Sort.putRow enc w g 0 d).drewN n).heap[g]? = some (.cells (Sort.putCells enc 0 d cur) e fr) := by
  show (Sort.putRow enc w g 0 d).heap[g]? = _
  simp [Sort.putRow, mapBlock, Array.getElem?_modify, hb, onCells]
theorem grownBy_sortedE {w : World} {g n : Nat} (d : Array α) : w.grownBy ((Sort.putRow enc w g 0 d).drewN n) (some g) := by
  refine ⟨rfl, rfl, rfl, by show _ ≤ (Sort.putRow enc w g 0 d).heap.size; simp, fun k hk hne => ?_⟩
  have : g ≠ k := fun e => hne (by rw [e])
  show (Sort.putRow enc w g 0 d).heap[k]? = _
  simp [Sort.putRow, mapBlock, Array.getElem?_modify, this]
theorem take_putCellsE (cur : Array Value) (d : Array α) (h : d.size ≤ cur.size) : (Sort.putCells enc 0 d cur).toList.take d.size = d.toList.map enc := by
  apply List.ext_getElem?
  intro j
  by_cases hj : j < d.size
  · rw [List.getElem?_take_of_lt hj, Array.getElem?_toList]
    simp [Sort.putCells, hj, show j < cur.size by omega]
  · rw [List.getElem?_take_eq_none (by omega), List.getElem?_eq_none (by simp; omega)]
theorem own_sortedE {w : World} {B g cap n m : Nat} {e : TypeId} {xs : List Value} (h : w.ownsRow B e 1 (.slice (some ⟨g, 0, none⟩) m cap) m xs) (d : Array α) (hd : d.size = m) :
    ((Sort.putRow enc w g 0 d).drewN n).ownsRow B e 1 (.slice (some ⟨g, 0, none⟩) m cap) m (d.toList.map enc) := by
  rcases h.2 with ⟨h0, _⟩ | ⟨g', cap', cur, hv, hB, hb, h1, h2, h3, h4⟩
  · cases h0
  · cases hv
    exact ⟨by simp [hd], .inr ⟨_, _, _, rfl, hB, heap_sortedE d hb, h1, h2, by simp [Sort.putCells, h3], by rw [Nat.mul_one, ← hd]; exact take_putCellsE cur d (by omega)⟩⟩
end
end Go.Proofs.YtocohkgdkebmdaaGreat
namespace Go.Proofs.YtocohkgdkebmdaaGreat
open Go.RowKit
def encF (n : Nat) (x : Fin n) : Value := .int .i64 (x.val : Int)
def cfF (l : List IT) (n : Nat) (x y : Fin n) : Int := ((Tl.it l x.val).bl : Int) - (Tl.it l y.val).bl
theorem swoF (l : List IT) (n : Nat) : Go.Sort.SWO (Go.Proofs.ltOf (cfF l n)) := by
  constructor
  · intro x
    unfold Go.Proofs.ltOf cfF
    simp
  · intro x y z h1 h2
    unfold Go.Proofs.ltOf cfF at h1 h2 ⊢
    rw [decide_eq_true_eq] at h1 h2 ⊢
    omega
  · intro x y z h1 h2
    unfold Go.Proofs.ltOf cfF at h1 h2 ⊢
    rw [decide_eq_false_iff_not] at h1 h2 ⊢
    omega
theorem sw_other {α : Type} [Inhabited α] (enc : α → Value) (W : World) (g n : Nat) (dk : Array α) (os : Array Obj) (a : Addr) (h1 : a.block ≠ g) (h2 : a.block < W.heap.size) : (Go.Proofs.sortWorld enc W g 0 n dk os).cell? a = W.cell? a := by
  unfold Go.Proofs.sortWorld
  rw [Go.Sort.cell?_grow _ _ _ (by rw [Go.Sort.size_putRow]; exact h2), Go.Sort.cell?_putRow_other enc _ g 0 dk a (Or.inl h1)]
  rfl
theorem cmpF (jb g : Nat) (A : Option Addr) (n c : Nat) [Inhabited (Fin n)] (l : List IT) (w : World) (hb : ∀ x ∈ l, x.bl ≤ 31) (hjc : w.cell? ⟨jb, 0, none⟩ = some (.slice A n c)) (hjg : jb ≠ g) (hjs : jb < w.heap.size) (h : IR4 w A n l)
    (hA : ∀ ad, A = some ad → ad.block ≠ g) (size : Nat) :
    Go.Proofs.CmpReads Tryz.prog 100 #[.pointer (some ⟨jb, 0, none⟩)] (encF n) (cfF l n) g 0 size w := by
  intro m os dk hs x y
  refine (solve1_c jb A n c l _ hb ?_ ?_ x.val y.val x.isLt y.isLt)
  · rw [sw_other _ _ _ _ _ _ _ hjg hjs]; exact hjc
  · refine ⟨h.1, fun hn => ?_⟩
    obtain ⟨ad, e, hb2, hc⟩ := h.2 hn
    refine ⟨ad, e, ?_, fun j u hu => ?_⟩
    · have : w.heap.size ≤ (Go.Proofs.sortWorld (encF n) w g 0 m dk os).heap.size := by
        unfold Go.Proofs.sortWorld
        simp [Go.Sort.size_grow]
      omega
    · rw [sw_other _ _ _ _ _ _ _ (by rw [block_of_add]; exact hA ad e) (by rw [block_of_add]; exact hb2)]
      exact hc j u hu
theorem finRange_enc (n : Nat) : (List.finRange n).map (encF n) = ints64 (List.range n) := by
  refine List.ext_getElem (by simp [ints64]) fun i h1 h2 => ?_
  simp [ints64, encF]
theorem sort_c (jb g : Nat) (A : Option Addr) (n c B : Nat) (l : List IT) (w : World) (hn0 : 0 < n) (hn : n ≤ 12) (hb : ∀ x ∈ l, x.bl ≤ 31) (hjc : w.cell? ⟨jb, 0, none⟩ = some (.slice A n c)) (hjg : jb ≠ g) (hjs : jb < w.heap.size)
    (h : IR4 w A n l) (hA : ∀ ad, A = some ad → ad.block ≠ g) (own : w.ownsRow B 3 1 (.slice (some ⟨g, 0, none⟩) n n) n (ints64 (List.range n))) :
    Calls Tryz.prog 99 #[.slice (some ⟨g, 0, none⟩) n n, .func (.func 100) #[] #[.pointer (some ⟨jb, 0, none⟩)]] w fun e w' => e = .returned (.tuple #[]) ∧
      ∃ o : List Nat, Tl.Ord l o ∧ w'.ownsRow B 3 1 (.slice (some ⟨g, 0, none⟩) n n) n (ints64 o) ∧ w.grownBy w' (some g) := by
  haveI : Inhabited (Fin n) := ⟨⟨0, hn0⟩⟩
  have hH : Go.Sort.Holds (encF n) w g 0 (List.finRange n).toArray := by
    intro j hj
    have hj' : j < n := by simpa using hj
    refine ⟨?_, by rw [Nat.zero_add]; exact own.frozenAt j⟩
    rw [Nat.zero_add, own.cellAt j (by omega), ← finRange_enc]
    simp [hj']
  have eg : ∀ args w, (callFunc 100 args).run Tryz.prog w = .ok (.enter 100 args) w := enters_of Tryz.func100 (by kernel_rfl) rfl
  have hc := Go.Proofs.Any.slices_SortFunc_small_sorted Tryz.sortInt (encF n) (fun _ => rfl) (cfF l n) (swoF l n) 100 #[.pointer (some ⟨jb, 0, none⟩)] g 0 n (List.finRange n).toArray w eg
    (cmpF jb g A n c l w hb hjc hjg hjs h hA _) hH (by simpa using hn) sort_hlen
  simp only [List.size_toArray, List.length_finRange] at hc
  refine hc.mono ?_
  rintro e w' ⟨rfl, d', q, hp, hs, rfl⟩
  refine ⟨rfl, d'.toList.map Fin.val, ?_, ?_, grownBy_sortedE d'⟩
  · have hl := h.len
    have hsz : d'.size = n := by simpa using hp.1
    constructor
    · have hpp := hp.2.2
      have e1 : d'.extract 0 n = d' := by
        have := Array.extract_size (xs := d')
        rwa [hsz] at this
      rw [e1] at hpp
      have e2 : ((List.finRange n).toArray.extract 0 n) = (List.finRange n).toArray := by
        have := Array.extract_size (xs := (List.finRange n).toArray)
        rwa [List.size_toArray, List.length_finRange] at this
      rw [e2] at hpp
      have := hpp.map Fin.val
      have e3 : (List.finRange n).map Fin.val = List.range n := List.ext_getElem (by simp) fun i h1 h2 => by simp
      rw [show (List.finRange n).toArray.toList = List.finRange n from rfl, e3] at this
      rw [hl]
      exact this
    · rw [List.pairwise_map, List.pairwise_iff_getElem]
      intro i j hi hj hij
      have hj' : j < n := by rw [← hsz]; simpa using hj
      have h1 := hs i j (Nat.zero_le _) hij hj'
      unfold Go.Proofs.ltOf cfF at h1
      rw [decide_eq_false_iff_not, getElem!_pos d' j (by omega), getElem!_pos d' i (by omega)] at h1
      simp only [Array.getElem_toList]
      omega
  · have hsz : d'.size = n := by simpa using hp.1
    have := own_sortedE (enc := encF n) (n := q) own d' hsz
    have e : ints64 (d'.toList.map Fin.val) = d'.toList.map (encF n) := by simp [ints64, encF]
    rw [e]
    exact this
end Go.Proofs.YtocohkgdkebmdaaGreat
namespace Go.Proofs.YtocohkgdkebmdaaGreat
open Go.RowKit
shelf_lay_g SlLaysF0.n6 Slsf 6 at Tryz 99 as Tryz.sortInt0
theorem sort0_c (p : Option Addr) (cap : Nat) (fv : Value) (w : World) : Calls Tryz.prog 99 #[.slice p 0 cap, fv] w fun e w' => e = .returned (.tuple #[]) ∧ w' = w :=
  Go.Proofs.AnyF.slices_SortFunc_none Tryz.sortInt0 p cap fv w
end Go.Proofs.YtocohkgdkebmdaaGreat
namespace Go.Proofs.YtocohkgdkebmdaaGreat
open Go.RowKit
attribute [local irreducible] Tl.pop Tl.low Tl.next Tl.bump Tl.real0 Tl.mis
set_option maxRecDepth 100000 in
set_option maxHeartbeats 1000000 in
theorem cnext_q (a r k : Nat) (ha : a < 65536) (hr : r ≤ 12) (hk : k ≤ 12) (w : World) :
    Calls Tryz.prog 101 #[.int .i64 a, .int .i64 r, .int .i64 k] w fun e w' => e = .returned (.tuple #[.int .i64 (Tl.nextV a r k : Nat), .int .i64 (Tl.nextE a r k)]) ∧ ∃ q, w' = w.drewN q := by
  have e0 : decide ((0 : Int) ≤ (r : Int) ∧ (r : Int) ≤ 12) = true := by simp; omega
  have H := Lib.hid (form_c r k hk)
  rw [e0] at H
  have HM := Lib.hid (missed_c r hr)
  clear e0
  by_cases hbig : 4096 ≤ a
  · have hN : Tl.next a r k = none := by unfold Tl.next; rw [if_pos hbig]
    have HN := Lib.hid (Tl.next_none hN)
    clear hN
    go_enter Tryz.func101, Tryz.ntmps101
    go_wp2_with (go_at_call 79; with_reducible refine (H.out _).mono ?_; rintro e w1 ⟨rfl, rfl⟩)
    go_ret2
    exact ⟨ret2v (by rw [HN.out.1]; rfl) (by rw [HN.out.2]), ⟨0, rfl⟩⟩
  · obtain ⟨hx0, hxr, hw1⟩ := real0_at (a := a) (r := r) (by omega) hr
    have Hw := Lib.hid hw1
    have Hx := Lib.hid hxr
    clear hxr hw1
    have h0 : decide (Tl.mis r < a) = true ∨ decide (Tl.mis r < a) = false := by cases decide (Tl.mis r < a) <;> simp
    rcases h0 with h0 | h0
    all_goals
      have hlow := h0
      simp only [decide_eq_true_eq, decide_eq_false_iff_not, Nat.not_lt] at hlow
      go_enter Tryz.func101, Tryz.ntmps101
      go_wp2_with (first
        | (go_at_call 79; with_reducible refine (H.out _).mono ?_; rintro e w1 ⟨rfl, rfl⟩)
        | (go_at_call 81; with_reducible refine (HM.out _).mono ?_; rintro e w1 ⟨rfl, rfl⟩))
      go_loop [6, 7, 8] (fun p q t => ∃ x f : Nat, x < 4096 ∧ 4097 ≤ f + x ∧ p = .int .i64 0 ∧ q = .int .i64 0 ∧ t = .int .i64 x ∧ Hid (bumpAll k (Tl.real0 a r) = Tl.bump k f x)) (fun _ _ t => 4096 - (intOf t).toNat)
      case atStart =>
        refine ⟨Tl.real0 a r, 4097, hx0, by omega, rfl, rfl, ?_, Lib.hid (bumpAll_eq _ _)⟩
        first
          | exact vint (Hw.out hlow)
          | exact vint (Hx.out hlow)
      case round =>
        obtain ⟨x, f, hx, hf, rfl, rfl, rfl, hb⟩ := hrel
        obtain ⟨g, rfl⟩ : ∃ g, f = g + 1 := ⟨f - 1, by omega⟩
        have hp := Tl.pop_le64 x
        have HO := Lib.hid (cones_c x (by omega))
        by_cases hpk : Tl.pop x ≤ k
        · have hd1 : decide (k < Tl.pop x) = false := decide_eq_false (by omega)
          have hb2 : bumpAll k (Tl.real0 a r) = some x := by rw [hb.out, Tl.bump, if_pos hpk]
          have HN := Lib.hid (next_hit (by omega) hb2)
          obtain ⟨hv1, hv2⟩ := code_at hx hr
          have Hv := Lib.hid hv2
          have hv3 : 0 ≤ (r : Int) := by omega
          clear hpk hb2 hb hv2
          go_wp2_with (go_at_call 82; with_reducible refine (HO.out _).mono ?_; rintro e w1 ⟨rfl, rfl⟩)
          go_quiet (first | (go_at_call 81; exact Calls.quiet_of_same (HM.out _)))
          have hsl : wrap64 ((x : Int) * 2 ^ r) = ((x * 2 ^ r : Nat) : Int) := by rw [← hv1, IntWalk.i64_left]
          clear hv1
          go_wp2_with fail
          · have hlt : decide (bits .or .i64 ((x : Int) * 2 ^ r) (Tl.mis r : Nat) < 4096) = true := by first | assumption | (simp; assumption)
            have Hv' := code_at2 hx hr
            rw [Hv', decide_eq_true_eq] at hlt
            have HN2 := HN.out
            rw [if_pos (by omega)] at HN2
            have HN3 := Tl.next_some HN2
            go_ret2
            exact ⟨ret2v (by rw [HN3.1, Hv']) (by rw [HN3.2]), ⟨_, rfl⟩⟩
          · have hlt : decide (bits .or .i64 ((x : Int) * 2 ^ r) (Tl.mis r : Nat) < 4096) = false := by first | assumption | (simp; assumption)
            have Hv' := code_at2 hx hr
            rw [Hv', decide_eq_false_iff_not] at hlt
            have HN2 := HN.out
            rw [if_neg (by omega)] at HN2
            have HN3 := Tl.next_none HN2
            go_ret2
            exact ⟨ret2v (by rw [HN3.1]; rfl) (by rw [HN3.2]), ⟨_, rfl⟩⟩
        · have hd1 : decide (k < Tl.pop x) = true := decide_eq_true (by omega)
          have hxp : 0 < x := by
            rcases Nat.eq_zero_or_pos x with e | e
            · subst e; rw [Tl.pop_zero] at hpk; omega
            · exact e
          obtain ⟨hl1, hl2, hl3⟩ := low_at hx hxp
          have Hl := Lib.hid hl1
          have hsum : wrap64 ((x : Int) + bits .and .i64 (x : Int) (-(x : Int))) = ((x + Tl.low x : Nat) : Int) := by
            rw [hl1]
            exact IntWalk.wrap64_in _ ⟨by omega, by omega⟩
          clear hl1
          have Hs := Lib.hid hsum
          have Hpk := Lib.hid hpk
          have Hb := Lib.hid hb.out
          clear hb hsum Hl hpk
          go_wp2_with (go_at_call 82; with_reducible refine (HO.out _).mono ?_; rintro e w1 ⟨rfl, rfl⟩)
          · have hov : decide (4096 ≤ wrap64 ((x : Int) + bits .and .i64 (x : Int) (-(x : Int)))) = true := by first | assumption | (simp; assumption)
            rw [Hs.out, decide_eq_true_eq] at hov
            have hN : Tl.next a r k = none := next_over (by omega) (by rw [Hb.out, Tl.bump, if_neg Hpk.out, if_pos (by omega)])
            have HN := Tl.next_none hN
            go_ret2
            exact ⟨ret2v (by rw [HN.1]; rfl) (by rw [HN.2]), ⟨0, rfl⟩⟩
          · have hov : decide (4096 ≤ wrap64 ((x : Int) + bits .and .i64 (x : Int) (-(x : Int)))) = false := by first | assumption | (simp; assumption)
            rw [Hs.out, decide_eq_false_iff_not] at hov
            have hb2 : bumpAll k (Tl.real0 a r) = Tl.bump k g (x + Tl.low x) := by rw [Hb.out, Tl.bump, if_neg Hpk.out, if_neg (by omega)]
            have Hb2 := Lib.hid hb2
            have hov2 : x + Tl.low x < 4096 := by omega
            clear hb2 Hb hov
            go_round
            case rel => exact ⟨x + Tl.low x, g, by omega, by omega, rfl, rfl, vint Hs.out, Hb2⟩
            case measure => rw [Hs.out]; simp [intOf]; omega
end Go.Proofs.YtocohkgdkebmdaaGreat
