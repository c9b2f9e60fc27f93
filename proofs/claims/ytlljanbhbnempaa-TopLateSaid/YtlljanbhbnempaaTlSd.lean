/- The walk of job.Sorted at trains that are what the job needs. -/
import Derived.Test.YtlljanbhbnempaaTlM5
namespace Go.Proofs.Ytlljanbhbnempaa
open Go.RowKit
namespace Tl
theorem filter_lt_succ (f : Nat → Nat) (o : List Nat) (m : Nat) : ((o.filter fun x => decide (f x < m)) ++ (o.filter fun x => decide (f x = m))).Perm (o.filter fun x => decide (f x < m + 1)) := by
  have h := List.filter_append_perm (fun x => decide (f x < m)) (o.filter fun x => decide (f x < m + 1))
  rw [List.filter_filter, List.filter_filter] at h
  have e1 : (o.filter fun a => decide (f a < m) && decide (f a < m + 1)) = o.filter fun x => decide (f x < m) := by
    refine List.filter_congr fun x _ => ?_
    by_cases h1 : f x < m
    · simp [h1]; omega
    · simp [h1]
  have e2 : (o.filter fun a => !decide (f a < m) && decide (f a < m + 1)) = o.filter fun x => decide (f x = m) := by
    refine List.filter_congr fun x _ => ?_
    by_cases h1 : f x = m
    · simp [h1]
    · by_cases h2 : f x < m
      · simp [h2, h1]
      · simp [h1, h2]; omega
  rw [e1, e2] at h
  exact h
theorem flat_filters (f : Nat → Nat) (o : List Nat) : ∀ m, ((List.range m).map fun j => o.filter fun x => decide (f x = j)).flatten.Perm (o.filter fun x => decide (f x < m))
  | 0 => by simp
  | m + 1 => by
    rw [List.range_succ, List.map_append, List.flatten_append]
    simp only [List.map_cons, List.map_nil, List.flatten_cons, List.flatten_nil, List.append_nil]
    exact ((flat_filters f o m).append_right _).trans (filter_lt_succ f o m)
theorem list_of_getD (T : List (List Nat)) : T = (List.range T.length).map fun j => T.getD j [] := by
  refine List.ext_getElem (by simp) fun i h1 h2 => ?_
  simp [List.getD_eq_getElem?_getD, h1]
theorem run_SortedT {l : List IT} {w S : Nat} {K : List Nat} (hs : Sol l w K) (hm : ∀ x y, x < y → y < l.length → (it l x).rd ≤ (it l y).rd) (ht : ∀ x, x < l.length → kAt K x < 2 ^ S) : SortedT l (run l K S).tn := by
  obtain ⟨h1, h2⟩ := run_sorted hs hm ht
  refine ⟨h1, h2, ?_⟩
  obtain ⟨hl, htn⟩ := run_trains (sol_fit hs hm ht) (fun x hx => sol_rd hs ht hx)
  rw [list_of_getD (run l K S).tn, hl]
  have e : ((List.range (nTn l)).map fun j => (run l K S).tn.getD j []) = (List.range (nTn l)).map fun j => (ord K l.length S).filter fun x => decide ((it l x).tr = j) := List.map_congr_left fun j _ => htn j
  rw [e]
  refine (flat_filters (fun x => (it l x).tr) (ord K l.length S) (nTn l)).trans ?_
  rw [List.filter_eq_self.2 ?_]
  · exact ord_perm K l.length S
  · intro x hx
    have hx2 : x < l.length := by simpa using (ord_perm K l.length S).mem_iff.1 hx
    exact decide_eq_true (tr_ok hx2)
/-- What has been seen ahead of a place. -/
def vis (T : List (List Nat)) (t i : Nat) : List Nat := (T.take t).flatten ++ (T.getD t []).take i
theorem vis_zero (T : List (List Nat)) : vis T 0 0 = [] := by simp [vis]
theorem vis_next (T : List (List Nat)) (t : Nat) (h : t < T.length) : vis T (t + 1) 0 = vis T t (T.getD t []).length := by
  unfold vis
  rw [List.take_length, List.take_zero, List.append_nil, List.take_add_one, List.getElem?_eq_getElem h, List.flatten_append, List.getD_eq_getElem?_getD, List.getElem?_eq_getElem h]
  simp
theorem vis_succ (T : List (List Nat)) (t i : Nat) (h : i < (T.getD t []).length) : vis T t (i + 1) = vis T t i ++ [(T.getD t []).getD i 0] := by
  unfold vis
  rw [List.take_add_one, List.getElem?_eq_getElem h, List.append_assoc]
  congr 2
  rw [List.getD_eq_getElem?_getD (l := T.getD t []), List.getElem?_eq_getElem h]
  rfl
theorem vis_sub (T : List (List Nat)) (t i : Nat) (h : t < T.length) : (vis T t i).Sublist T.flatten := by
  have e : T = T.take t ++ T.drop t := (List.take_append_drop t T).symm
  have e2 : T.drop t = T.getD t [] :: T.drop (t + 1) := by
    rw [List.drop_eq_getElem_cons h, List.getD_eq_getElem?_getD, List.getElem?_eq_getElem h]
    rfl
  unfold vis
  conv => rhs; rw [e, List.flatten_append, e2, List.flatten_cons]
  exact (List.Sublist.refl _).append ((List.take_sublist _ _).trans (List.sublist_append_left _ _))
theorem vis_all (T : List (List Nat)) : vis T T.length 0 = T.flatten := by simp [vis]
end Tl
theorem getD_mem0 {l : List Nat} {i : Nat} (h : i < l.length) : l.getD i 0 ∈ l := by
  rw [List.getD_eq_getElem?_getD, List.getElem?_eq_getElem h]
  exact List.getElem_mem _
theorem getD_cast (l : List Nat) (i : Nat) : (l.map fun (z : Nat) => (z : Int)).getD i 0 = ((l.getD i 0 : Nat) : Int) := by
  rw [List.getD_eq_getElem?_getD, List.getD_eq_getElem?_getD, List.getElem?_map]
  cases l[i]? <;> rfl
theorem mk_bools : Try.prog.underlying 67 = some (.slice 4) ∧ ∃ i, Try.prog.info? 4 = some i ∧ i.zero = some (.bool false) ∧ i.size = 1 ∧ i.bytes = 1 := by
  obtain ⟨i, h1, h2, h3, h4⟩ := info_parts (show (Try.prog.info? 4).map (fun i => (i.zero, i.size, i.bytes)) = some (some (.bool false), 1, 1) by kernel_rfl)
  exact ⟨Try.underlying67, i, h1, h2, h3, h4⟩
/-- What holds behind some places. -/
def SdI (B g n : Nat) (T : List (List Nat)) (t i : Nat) (w1 wr : World) : Prop :=
  Below w1.heap.size w1 wr ∧ ∃ sb : List Bool, wr.ownsRow B 4 1 (.slice (some ⟨g, 0, none⟩) n n) n (sb.map Value.bool) ∧ Hid (∀ x, x < n → sb.getD x false = decide (x ∈ Tl.vis T t i))
def SdA (B g n nT : Nat) (T : List (List Nat)) (w1 : World) (v4 v5 v8 p : Value) (wr : World) : Prop :=
  v4 = .bool false ∧ v5 = .int .i64 0 ∧ ∃ t : Nat, t ≤ nT ∧ p = .int .i64 t ∧ v8 = .int .i64 ((Tl.vis T t 0).length : Nat) ∧ SdI B g n T t 0 w1 wr
def SdB (B g n t m : Nat) (T : List (List Nat)) (w1 : World) (v4 v5 v8 p : Value) (wr : World) : Prop :=
  v4 = .bool false ∧ v5 = .int .i64 0 ∧ ∃ i : Nat, i ≤ m ∧ p = .int .i64 i ∧ v8 = .int .i64 ((Tl.vis T t i).length : Nat) ∧ SdI B g n T t i w1 wr
set_option maxRecDepth 100000 in
set_option maxHeartbeats 4000000 in
theorem sorted_c (A AT : Option Addr) (n c k nT cT : Nat) (l : List IT) (T : List (List Nat)) (vs : List Value) (w : World) (hj : Tl.JobOk l k) (h : IR4 w A n l) (hT : LLR w AT nT T vs) (hs : Tl.SortedT l T) (hnT : nT ≤ 1000000) :
    Calls Try.prog 9 #[jobV A n c k, .slice AT nT cT] w fun e w' => e = .returned (.tuple #[.bool true, .int .i64 0]) ∧ Below w.heap.size w w' := by
  have hl := h.len
  have hn := hj.len
  have hTl := hT.len
  obtain ⟨W0, hW0⟩ : ∃ W0, w.alloc (.cells #[.slice A n c, .int .i64 k] 27) = W0 := ⟨_, rfl⟩
  have hB1 : Blk W0 w.heap.size 27 #[.slice A n c, .int .i64 k] := by rw [← hW0]; exact Blk.new w _ _
  have hb0 : Below w.heap.size w W0 := by rw [← hW0]; exact (Below.refl _ _).alloc (Nat.le_refl _) _
  have hs0 := hb0.size
  have h0 := h.below hb0
  have hT0 := hT.below hb0
  have HV := Lib.hid (jvalid_c A n c k l W0 hj h0)
  have hnod : T.flatten.Nodup := hs.perm.nodup_iff.2 List.nodup_range
  have hflen : T.flatten.length = n := by have := hs.perm.length_eq; rw [List.length_range] at this; omega
  have Hmem := Lib.hid hs.mem
  have Hord := Lib.hid hs.ord
  have Hnod := Lib.hid hnod
  unfold jobV at HV ⊢
  obtain ⟨B, hB⟩ : ∃ B, w.heap.size = B := ⟨_, rfl⟩
  rw [hB] at hB1 hb0 hs0
  have j0 := hB1.cell 0
  have j1 := hB1.cell 1
  simp at j0 j1
  clear h hT hB1 hs hnod
  go_enter Try.func9, Try.ntmps9
  go_wp2_with fail
  clear hW0
  refine HV.out.mono ?_
  rintro e w1 ⟨rfl, hb1⟩
  replace j0 := keep_cell hb1 j0
  have h1 := h0.below hb1
  have hT1 := hT0.below hb1
  have hs1 : B ≤ w1.heap.size := Nat.le_trans hs0 hb1.size
  have hb2 : Below B w w1 := hb0.trans (hb1.mono hs0)
  clear HV hb0 hb1 h0 hT0 hs0 j1
  go_wp2_with (at_make; refine wpList_mkn mk_bools rfl rfl _ _ rfl B _ _ _ _ n rfl rfl rfl rfl (by omega) (by simp only [maxLen]; omega) hs1 ?_; intro w2 own2 hb3)
  have hg : w1.heap.size < w2.heap.size := (own2.lt w1.heap.size rfl).2
  have hi0 : SdI B w1.heap.size n T 0 0 w1 w2 := ⟨hb3, List.replicate n false, by rw [List.map_replicate]; exact own2, Lib.hid fun x hx => by
    rw [Tl.vis_zero, List.getD_eq_getElem?_getD, List.getElem?_replicate, if_pos hx]; rfl⟩
  clear own2 hb3
  obtain ⟨g, hgE⟩ : ∃ g, w1.heap.size = g := ⟨_, rfl⟩
  simp only [hgE]
  rw [hgE] at hi0
  go_loopw [4, 5, 8, 24] (fun v4 v5 v8 p wr => SdA B g n nT T w1 v4 v5 v8 p wr) (fun _ _ _ p _ => nT - (intOf p).toNat)
  case atStart => exact (show SdA _ _ _ _ _ _ _ _ _ _ _ from ⟨rfl, rfl, 0, by omega, rfl, by rw [Tl.vis_zero]; rfl, hi0⟩)
  case round =>
    clear hi0
    obtain ⟨rfl, rfl, t, ht, rfl, rfl, hi0⟩ := hrel
    by_cases hlt : t < nT
    · obtain ⟨aT, Ai, ci, rfl, _, k1, hir⟩ := hT1.at_ hlt
      have k1' := keep_cell hi0.1 k1
      obtain ⟨m, hm⟩ : ∃ m, (T.getD t []).length = m := ⟨_, rfl⟩
      have hir' := hir
      have hm96 : m ≤ 96 := by
        have h5 := (Tl.vis_sub T t m (by omega)).length_le
        unfold Tl.vis at h5
        rw [List.length_append, List.length_take, hm, Nat.min_self] at h5
        omega
      rw [hm] at k1' hir'
      go_wp2_with fail
      go_loopw [4, 5, 8, 31] (fun v4 v5 v8 p wr => SdB B g n t m T w1 v4 v5 v8 p wr) (fun _ _ _ p _ => m - (intOf p).toNat)
      case atStart => exact (show SdB _ _ _ _ _ _ _ _ _ _ _ _ from ⟨rfl, rfl, 0, by omega, rfl, rfl, hi0⟩)
      case round =>
        clear hi0 k1'
        obtain ⟨rfl, rfl, i, hi, rfl, rfl, hbr, sb, own, Hsb⟩ := hrel
        by_cases hlm : i < m
        · obtain ⟨x, hx⟩ : ∃ x, (T.getD t []).getD i 0 = x := ⟨_, rfl⟩
          have hxm : x ∈ T.getD t [] := by rw [← hx]; exact getD_mem0 (by omega)
          obtain ⟨hxl, hxt⟩ := Hmem.out t x hxm
          have hxn : x < n := by omega
          have hvs := Tl.vis_succ T t i (by omega)
          rw [hx] at hvs
          have hnv : x ∉ Tl.vis T t i := by
            have h5 : (Tl.vis T t (i + 1)).Nodup := Hnod.out.sublist (Tl.vis_sub T t (i + 1) (by omega))
            rw [hvs] at h5
            intro hc
            exact (List.nodup_append.1 h5).2.2 x hc x (List.mem_singleton.2 rfl) rfl
          have hvl : (Tl.vis T t i).length ≤ 96 := by have h5 := (Tl.vis_sub T t i (by omega)).length_le; omega
          have hsx : sb.getD x false = false := by rw [Hsb.out x hxn]; simpa using hnv
          have hsl : sb.length = n := by have := own.1; simpa using this
          have hcs : wr.cell? ⟨g, x, none⟩ = some (.bool false) := by
            rw [own.cellAt x (by omega), List.getElem?_map, List.getElem?_eq_getElem (by omega)]
            rw [List.getD_eq_getElem?_getD, List.getElem?_eq_getElem (by omega)] at hsx
            simp at hsx
            simp [hsx]
          have zcs := own.frozenAt x
          have own2 := (own.stored x (.bool true)).1
          rw [show (sb.map Value.bool).set x (.bool true) = (sb.set x true).map Value.bool by rw [List.map_set]] at own2
          have Hsb2 : Hid (∀ y, y < n → (sb.set x true).getD y false = decide (y ∈ Tl.vis T t (i + 1))) := Lib.hid fun y hy => by
            rw [hvs]
            by_cases e : x = y
            · subst e
              rw [getD_set_same (by omega)]
              simp
            · rw [getD_set_other e, Hsb.out y hy]
              have : ¬ y = x := fun e2 => e e2.symm
              simp [this]
          have hi2 : Hid (∀ q, SdI B g n T t (i + 1) w1 ((wr.drewN q).setCell ⟨g, x, none⟩ (.bool true))) := Lib.hid fun q => ⟨(below_drewN hbr q).setCell (p := ⟨g, x, none⟩) (show w1.heap.size ≤ g by omega) _, _, own2, Hsb2⟩
          have hvl2 : ((Tl.vis T t (i + 1)).length : Int) = ((Tl.vis T t i).length : Int) + 1 := by rw [hvs, List.length_append]; simp
          obtain ⟨vl, hvlE⟩ : ∃ vl, (Tl.vis T t i).length = vl := ⟨_, rfl⟩
          rw [hvlE] at hvl hvl2
          have Hvl2 := Lib.hid hvl2
          simp only [hvlE]
          obtain ⟨ae, rfl, _, ke⟩ := hir'.at_ hlm
          rw [getD_cast, hx] at ke
          replace ke := keep_cell hbr ke
          have j0' := keep_cell hbr j0
          obtain ⟨ai, rfl, d1, d2, _, _⟩ := items_at h1 (Nat.le_refl _) hxn
          replace d1 := keep_cell hbr d1
          replace d2 := keep_cell hbr d2
          rw [hxt] at d1
          have hsub : IntKind.i64.wrap ((n : Int) - 1) = (n : Int) - 1 := IntWalk.i64_in _ ⟨by omega, by omega⟩
          have HI : Hid (∀ W, Calls Try.prog 20 #[.int .i64 x, .int .i64 0, .int .i64 ((n : Int) - 1)] W fun e w' => e = .returned (.bool true) ∧ w' = W) := Lib.hid fun W => (jin_yes x 0 ((n : Int) - 1) W (by omega) (by omega)).mono fun _ _ h => ⟨h.1, h.2.symm⟩
          obtain ⟨bx, hbx⟩ : ∃ bx, (Tl.it l x).bl = bx := ⟨_, rfl⟩
          rw [hbx] at d2
          by_cases hi0 : i = 0
          · have hd0 : decide ((0 : Int) < (i : Int)) = false := decide_eq_false (by omega)
            have hd1 : decide (0 < i) = false := decide_eq_false (by omega)
            clear hx hxm hxl hxt hvs hnv hsx hsl Hsb own own2 Hsb2 hvl2 hvlE hbx k1 hir hir' hi0
            go_wp2_with fail
            go_quiet (first | (go_at_call 20; exact Calls.quiet_of_same (HI.out _)))
            go_wp2_with fail
            go_roundw
            case rel => exact (show SdB _ _ _ _ _ _ _ _ _ _ _ _ from ⟨rfl, rfl, i + 1, by omega, by go_num, by rw [Hvl2.out], hi2.out _⟩)
            case measure => simp [intOf]; omega
          · obtain ⟨j, hj2⟩ : ∃ j, i = j + 1 := ⟨i - 1, by omega⟩
            obtain ⟨y, hy⟩ : ∃ y, (T.getD t []).getD j 0 = y := ⟨_, rfl⟩
            obtain ⟨ae', hae, _, ke2⟩ := hir'.at_ (i := j) (by omega)
            obtain rfl := Option.some.inj hae
            rw [getD_cast, hy] at ke2
            replace ke2 := keep_cell hbr ke2
            have hyn : y < n := by have := (Hmem.out t y (by rw [← hy]; exact getD_mem0 (by omega))).1; omega
            obtain ⟨ai', hai, _, f2, _, _⟩ := items_at h1 (Nat.le_refl _) hyn
            obtain rfl := Option.some.inj hai
            replace f2 := keep_cell hbr f2
            have hle : (Tl.it l y).bl ≤ (Tl.it l x).bl := by
              have h5 := List.pairwise_iff_getElem.1 (Hord.out t) j i (by omega) (by omega) (by omega)
              rw [← hx, ← hy, List.getD_eq_getElem?_getD (l := T.getD t []), List.getD_eq_getElem?_getD (l := T.getD t []), List.getElem?_eq_getElem (by omega), List.getElem?_eq_getElem (by omega)]
              exact h5
            rw [hbx] at hle
            obtain ⟨by', hby⟩ : ∃ by', (Tl.it l y).bl = by' := ⟨_, rfl⟩
            rw [hby] at f2 hle
            have hd0 : decide ((0 : Int) < (i : Int)) = true := decide_eq_true (by omega)
            have hd1 : decide (0 < i) = true := decide_eq_true (by omega)
            have hjI : (i : Int) - 1 = (j : Int) := by omega
            have hjw : IntKind.i64.wrap (j : Int) = (j : Int) := IntWalk.i64_in _ ⟨by omega, by omega⟩
            have hjm : (j : Int) < (m : Int) := by omega
            have hlt1 : decide ((bx : Int) < (by' : Int)) = false := decide_eq_false (by omega)
            have hlt2 : decide (bx < by') = false := decide_eq_false (by omega)
            clear hx hxm hxl hxt hvs hnv hsx hsl Hsb own own2 Hsb2 hvl2 hvlE hbx k1 hir hir' hi0 hj2 hy hby hai hae hle
            go_wp2_with fail
            go_quiet (first | (go_at_call 20; exact Calls.quiet_of_same (HI.out _)))
            go_wp2_with fail
            go_roundw
            case rel => exact (show SdB _ _ _ _ _ _ _ _ _ _ _ _ from ⟨rfl, rfl, i + 1, by omega, by go_num, by rw [Hvl2.out], hi2.out _⟩)
            case measure => simp [intOf]; omega
        · obtain rfl : i = m := by omega
          have hnx := Tl.vis_next T t (by omega)
          rw [hm] at hnx
          have hi2 : SdI B g n T (t + 1) 0 w1 wr := ⟨hbr, sb, own, by rw [hnx]; exact Hsb⟩
          rw [← hnx]
          clear Hsb own hnx
          go_wp2_with fail
          go_roundw
          case rel => exact (show SdA _ _ _ _ _ _ _ _ _ _ _ from ⟨rfl, rfl, t + 1, by omega, by go_num, rfl, hi2⟩)
          case measure => simp [intOf]; omega
    · obtain rfl : t = nT := by omega
      have hall := Tl.vis_all T
      rw [hTl] at hall
      rw [hall, hflen]
      have j0' := keep_cell hi0.1 j0
      have hE : Below B w wr := hb2.trans (hi0.1.mono hs1)
      go_wp2_with fail
      go_ret2
      exact ⟨rfl, by rw [hB]; exact hE⟩
end Go.Proofs.Ytlljanbhbnempaa
