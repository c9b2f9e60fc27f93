/- The walk of humpgen's SpoilLayout. -/
import Derived.Test.YtmjdjcpmkdninaaDoorLyY
import Derived.Deep.CutBlock
namespace Go.Proofs.YtmjdjcpmkdninaaDoor
open Go.RowKit
theorem flat8_at_ (l : List LE) (i : Nat) (x : LE) (h : l[i]? = some x) : flat8 l = flat8 (l.take i) ++ cells8 x ++ flat8 (l.drop (i + 1)) := by
  obtain ⟨hi, hx⟩ := List.getElem?_eq_some_iff.1 h
  have e : l = l.take i ++ x :: l.drop (i + 1) := by rw [← hx, ← List.drop_eq_getElem_cons hi, List.take_append_drop]
  conv => lhs; rw [e]
  rw [flat8_append]
  show flat8 (l.take i) ++ (cells8 x ++ flat8 (l.drop (i + 1))) = _
  rw [List.append_assoc]
/-- One field of one element, stored. -/
theorem flat8_set (l : List LE) (i j : Nat) (x y : LE) (u : Value) (h : l[i]? = some x) (hj : j < 8) (hy : (cells8 x).set j u = cells8 y) : (flat8 l).set (i * 8 + j) u = flat8 (l.set i y) := by
  obtain ⟨hi, hx⟩ := List.getElem?_eq_some_iff.1 h
  have h2 : (l.set i y)[i]? = some y := by simp [hi]
  rw [flat8_at_ l i x h, flat8_at_ _ i y h2, ← hy]
  have hl : (flat8 (l.take i)).length = i * 8 := by rw [flat8_len, List.length_take, Nat.min_eq_left (by omega)]
  have h3 : (l.set i y).take i = l.take i := by rw [List.take_set_of_le (Nat.le_refl _)]
  have h4 : (l.set i y).drop (i + 1) = l.drop (i + 1) := by rw [List.drop_set_of_lt (by omega)]
  rw [h3, h4, List.append_assoc, List.append_assoc, List.set_append, if_neg (by omega), hl, show i * 8 + j - i * 8 = j by omega, List.set_append, if_pos (by simpa [cells8] using hj)]
theorem own_headS {w : World} {B e size n i cap : Nat} {A : Option Addr} {xs ys : List Value} (h : w.ownsRow B e size (.slice A n cap) n (xs ++ ys)) (hx : xs.length = i * size) (hi : i ≤ n) : w.ownsRow B e size (.slice A i cap) i xs := by
  refine ⟨hx, ?_⟩
  rcases h.2 with ⟨h0, hn⟩ | ⟨g, cap', cur, hv, hB, hb, hn, hm, hs, ht⟩
  · injection h0 with h1 h2 h3
    have : i = 0 := by omega
    subst this; subst h1; subst h3
    exact .inl ⟨rfl, rfl⟩
  · injection hv with h1 _ h2
    subst h1; subst h2
    refine .inr ⟨g, cap, cur, rfl, hB, hb, by omega, hm, hs, ?_⟩
    have := congrArg (List.take (i * size)) ht
    rw [List.take_take, Nat.min_eq_left (Nat.mul_le_mul_right _ hi), List.take_left' hx] at this
    exact this
theorem own_of_cellsS {w : World} {B e size g n cap : Nat} {cur : Array Value} {xs : List Value} (hB : B ≤ g) (hb : w.heap[g]? = some (.cells cur e (0, 0))) (hs : cur.size = cap * size) (hn : n ≤ cap) (hm : cap ≤ maxLen) (hl : xs.length = n * size) (hc : ∀ j, j < n * size → w.cell? ⟨g, j, none⟩ = xs[j]?) :
    w.ownsRow B e size (.slice (some ⟨g, 0, none⟩) n cap) n xs := by
  refine ⟨hl, .inr ⟨g, cap, cur, rfl, hB, hb, hn, hm, hs, ?_⟩⟩
  refine List.ext_getElem? fun j => ?_
  rw [List.getElem?_take]
  by_cases hj : j < n * size
  · rw [if_pos hj]
    have h1 := hc j hj
    rw [cell_of_row w g j cur e (0, 0) hb] at h1
    rw [← h1]
    simp
  · rw [if_neg hj, List.getElem?_eq_none (by omega)]
theorem flat8_takeN (l : List LE) (i : Nat) (h : i ≤ l.length) : (flat8 l).take (i * 8) = flat8 (l.take i) := by
  have e : flat8 l = flat8 (l.take i) ++ flat8 (l.drop i) := by rw [← flat8_append, List.take_append_drop]
  rw [e, List.take_left' (by rw [flat8_len, List.length_take, Nat.min_eq_left h])]
theorem flat8_dropN (l : List LE) (i : Nat) (h : i ≤ l.length) : (flat8 l).drop (i * 8) = flat8 (l.drop i) := by
  have e : flat8 l = flat8 (l.take i) ++ flat8 (l.drop i) := by rw [← flat8_append, List.take_append_drop]
  rw [e, List.drop_left' (by rw [flat8_len, List.length_take, Nat.min_eq_left h])]
theorem own_del8 {w : World} {B e g n cap i : Nat} {l : List LE} (h : w.ownsRow B e 8 (.slice (some ⟨g, 0, none⟩) n cap) n (flat8 l)) (hi : i < n) :
    (w.setCells g (i * 8) ((flat8 l).drop ((i + 1) * 8))).ownsRow B e 8 (.slice (some ⟨g, 0, none⟩) (i + (n - (i + 1))) cap) (i + (n - (i + 1))) (flat8 (l.take i ++ l.drop (i + 1))) := by
  have hl : l.length = n := own8_len h
  have hdl : ((flat8 l).drop ((i + 1) * 8)).length = (n - (i + 1)) * 8 := by rw [List.length_drop, flat8_len]; omega
  have hat := h.cellAt
  obtain ⟨g', cap', cur, hv, hB, hb, hn, hm, hs, ht⟩ : ∃ g' cap' cur, (Value.slice (some ⟨g, 0, none⟩) n cap) = .slice (some ⟨g', 0, none⟩) n cap' ∧ B ≤ g' ∧ w.heap[g']? = some (.cells cur e (0, 0)) ∧ n ≤ cap' ∧ cap' ≤ maxLen ∧ cur.size = cap' * 8 ∧ cur.toList.take (n * 8) = flat8 l := by
    rcases h.2 with ⟨h0, _⟩ | h0
    · cases h0
    · exact h0
  injection hv with h1 _ h2
  injection h1 with h1
  injection h1 with h1 _ _
  subst h1; subst h2
  obtain ⟨cur', hs', hb'⟩ := setCells_block ((flat8 l).drop ((i + 1) * 8)) w g (i * 8) cur e (0, 0) hb
  refine own_of_cellsS hB hb' (by omega) (by omega) hm (by rw [flat8_len, List.length_append, List.length_take, List.length_drop]; omega) (fun j hj => ?_)
  rw [flat8_append, ← flat8_takeN l i (by omega), ← flat8_dropN l (i + 1) (by omega)]
  have htl : ((flat8 l).take (i * 8)).length = i * 8 := by rw [List.length_take, flat8_len]; omega
  by_cases hji : j < i * 8
  · rw [World.cell?_setCells_out _ _ _ _ _ (fun _ _ => .inl hji), hat j (by omega), List.getElem?_append_left (by omega), List.getElem?_take, if_pos hji]
  · obtain ⟨t, rfl⟩ : ∃ t, j = i * 8 + t := ⟨j - i * 8, by omega⟩
    rw [World.cell?_setCells_in g _ (i * 8) w (fun q hq => ?_) t (by omega), List.getElem?_append_right (by omega), htl, show i * 8 + t - i * 8 = t by omega, List.getElem?_eq_getElem (by omega)]
    rw [hdl] at hq
    rw [hat (i * 8 + q) (by omega), List.getElem?_eq_getElem (by rw [flat8_len]; omega)]
    rfl
/-- What a spoiled element still is. -/
def LeSp (x : LE) : Prop := x.nm.size ≤ 13 ∧ (-1 ≤ x.p ∧ x.p ≤ 1000) ∧ (-1 ≤ x.sd ∧ x.sd ≤ 3)
def SpoilLR (B : Nat) (w : World) (g c n : Nat) (e : Ending) (w' : World) : Prop := ∃ A n' cp l' c', e = .returned (.slice A n' cp) ∧ w'.ownsRow w.heap.size 48 8 (.slice A n' cp) n' (flat8 l') ∧ n' ≤ n ∧ (∀ x ∈ l', LeSp x) ∧ c' ≤ c + 3 ∧ Mk B w' g c' ∧ w.grownBy w' (some g)
/-- The copy that is being spoiled. -/
structure SpL (B : Nat) (w : World) (g c bl cap n : Nat) (l : List LE) (wr : World) : Prop where
  mkr : Mk B wr g c
  own : wr.ownsRow w.heap.size 48 8 (.slice (some ⟨bl, 0, none⟩) n cap) n (flat8 l)
  gr : w.grownBy wr (some g)
section
variable {B g c bl cap n : Nat} {w wr w' : World} {l : List LE}
theorem SpL.next (h : SpL B w g c bl cap n l wr) {c' : Nat} (m : Mk B w' g c') (hg : wr.grownBy w' (some g)) : SpL B w g c' bl cap n l w' :=
  ⟨m, h.own.kept hg (.inr (h.mkr.ne h.own (by decide))), h.gr.trans hg⟩
theorem SpL.alloc (h : SpL B w g c bl cap n l wr) (o : Obj) : SpL B w g c bl cap n l (wr.alloc o) :=
  ⟨h.mkr.alloc o, h.own.alloc o, h.gr.trans (World.grownBy_alloc wr o (some g))⟩
theorem SpL.cells (h : SpL B w g c bl cap n l wr) {i : Nat} (hi : i < n) {x : LE} (hx : l[i]? = some x) {ad : Addr} (had : (⟨bl, 0, none⟩ : Addr) = ad) : LAt wr (ad.add (i * 8)) x := by
  obtain ⟨ad', p, e, _, hp, d⟩ := (own_LR h.own).at_ hi
  obtain rfl := Option.some.inj (hp.symm.trans hx)
  rw [had] at e
  obtain rfl := Option.some.inj e
  exact d
theorem SpL.fz (h : SpL B w g c bl cap n l wr) {i : Nat} {ad : Addr} (had : (⟨bl, 0, none⟩ : Addr) = ad) :
    wr.frozen? (ad.add (i * 8)) = false ∧ ∀ j, wr.frozen? ⟨(ad.add (i * 8)).block, (ad.add (i * 8)).off + j, none⟩ = false := by
  subst had
  by_cases h0 : i * 8 = 0
  · simp only [Addr.add, h0, if_true]
    exact ⟨h.own.frozenAt 0, fun j => h.own.frozenAt (0 + j)⟩
  · simp only [Addr.add, h0, if_false]
    exact ⟨h.own.frozenAt _, fun j => h.own.frozenAt _⟩
theorem spoilL_end (h : SpL B w g c bl cap n l wr) (hgw : g < w.heap.size) (hBw : B ≤ w.heap.size) (c0 : Nat) (hc : c ≤ c0 + 3) {i : Nat} {x : LE} (hx : l[i]? = some x) {ad fa : Addr} (had : (⟨bl, 0, none⟩ : Addr) = ad) (j : Nat) (hj : j < 8)
    (hfa : fa = if j = 0 then ad.add (i * 8) else ⟨(ad.add (i * 8)).block, (ad.add (i * 8)).off + j, none⟩) (u : Value) (y : LE) (hy : (cells8 x).set j u = cells8 y) (hn : LeSp y) (hs : ∀ x ∈ l, LeSp x) :
    SpoilLR B w g c0 n (.returned (.slice (some ad) n cap)) (wr.setCell fa u) := by
  subst had
  have e : fa = ⟨bl, i * 8 + j, none⟩ := by
    rw [hfa]
    by_cases h0 : i * 8 = 0
    · by_cases hj0 : j = 0 <;> simp [Addr.add, h0, hj0]
    · by_cases hj0 : j = 0 <;> simp [Addr.add, h0, hj0]
  rw [e]
  have hge := own_ge h.own bl rfl
  have hg := (⟨rfl, rfl, rfl, by simp [World.setCell], fun j' _ hne => Below.heap_setCell wr ⟨bl, i * 8 + j, none⟩ u j' (fun e => hne (by rw [e]))⟩ : wr.grownBy (wr.setCell ⟨bl, i * 8 + j, none⟩ u) (some bl))
  refine ⟨_, n, cap, l.set i y, c, rfl, ?_, Nat.le_refl _, ?_, hc, ?_, ?_⟩
  · have := (h.own.stored (i * 8 + j) u).1
    rwa [flat8_set l i j x y u hx hj hy] at this
  · intro z hz
    rcases List.mem_or_eq_of_mem_set hz with hz | rfl
    · exact hs z hz
    · exact hn
  · exact h.mkr.grown hg (fun e => by have := Option.some.inj e; omega) (fun b e => by have := Option.some.inj e; omega)
  · exact grown_then h.gr hg (fun b e => .inr (by have := Option.some.inj e; omega))
theorem spoilL_same (h : SpL B w g c bl cap n l wr) (c0 : Nat) (hc : c ≤ c0 + 3) {ad : Addr} (had : (⟨bl, 0, none⟩ : Addr) = ad) (hs : ∀ x ∈ l, LeSp x) :
    SpoilLR B w g c0 n (.returned (.slice (some ad) n cap)) wr := by
  subst had
  exact ⟨_, n, cap, l, c, rfl, h.own, Nat.le_refl _, hs, hc, h.mkr, h.gr⟩
theorem spoilL_cut (h : SpL B w g c bl cap n l wr) (c0 : Nat) (hc : c ≤ c0 + 3) {ad : Addr} (had : (⟨bl, 0, none⟩ : Addr) = ad) {i : Nat} (hi : i < n) (hs : ∀ x ∈ l, LeSp x) :
    SpoilLR B w g c0 n (.returned (.slice (some ad) i cap)) wr := by
  subst had
  refine ⟨_, i, cap, l.take i, c, rfl, ?_, by omega, fun x hx => hs x (List.mem_of_mem_take hx), hc, h.mkr, h.gr⟩
  have hl : l.length = n := own8_len h.own
  have e : flat8 l = flat8 (l.take i) ++ flat8 (l.drop i) := by rw [← flat8_append, List.take_append_drop]
  have ho := h.own
  rw [e] at ho
  exact own_headS ho (by rw [flat8_len, List.length_take]; omega) (by omega)
end
theorem spoilL_start {B g c n : Nat} {w w1 : World} {l : List LE} {o : Obj} {v1 : Value} (h : Mk B w g c) (hn : 1 ≤ n) (own1 : w1.ownsRow w.heap.size 48 8 v1 (0 + n) ([] ++ flat8 l)) (hgr : (w.alloc o).grownBy w1 (some w.heap.size)) (hB : B ≤ w.heap.size) :
    ∃ (ad : Addr) (cap bl : Nat), v1 = .slice (some ad) n cap ∧ (⟨bl, 0, none⟩ : Addr) = ad ∧ Hid (SpL B w g c bl cap n l w1) := by
  rw [Nat.zero_add, List.nil_append] at own1
  obtain ⟨bl, cap, rfl, _⟩ := own1.form (by omega)
  have hgw := h.lt
  exact ⟨_, cap, bl, rfl, rfl, Lib.hid ⟨(h.alloc o).grown hgr (fun e => by have := Option.some.inj e; omega) (fun b e => by have := Option.some.inj e; omega), own1, grown_then (World.grownBy_alloc w o (some g)) hgr (fun b e => .inr (by have := Option.some.inj e; omega))⟩⟩
theorem six_cell {W : World} {b : Nat} {e : TypeId} (h : Blk W b e #[.string ⟨#[]⟩, .string ⟨#[65]⟩, .string ⟨#[101, 48, 48, 48]⟩, .string ⟨#[101, 48, 48, 49]⟩, .string ⟨#[97, 98, 99, 100, 101, 102, 103, 104, 105, 106, 107, 108, 109]⟩, .string ⟨#[97, 58, 108, 101, 102, 116]⟩]) (y : Nat) (hy : y < 6) : ∃ s : ByteArray, s.size ≤ 13 ∧ W.cell? ⟨b, y, none⟩ = some (.string s) := by
  have hh : y = 0 ∨ y = 1 ∨ y = 2 ∨ y = 3 ∨ y = 4 ∨ y = 5 := by omega
  rcases hh with rfl | rfl | rfl | rfl | rfl | rfl
  · exact ⟨_, by decide, h.cell 0⟩
  · exact ⟨_, by decide, h.cell 1⟩
  · exact ⟨_, by decide, h.cell 2⟩
  · exact ⟨_, by decide, h.cell 3⟩
  · exact ⟨_, by decide, h.cell 4⟩
  · exact ⟨_, by decide, h.cell 5⟩
set_option maxRecDepth 100000 in
set_option maxHeartbeats 8000000 in
theorem spoilLayout_c (B g c n cp : Nat) (A : Option Addr) (l : List LE) (w : World) (h : Mk B w g c) (hc : c ≤ 2305843009213693952) (hn : n ≤ 900) (hB : B ≤ w.heap.size) (hl : LR w A n l) (hs : ∀ x ∈ l, LeSp x) :
    Calls Tryd.prog 19 #[.pointer (some ⟨g, 0, none⟩), .slice A n cp] w (SpoilLR B w g c n) := by
  have hgw := h.lt
  have hll := hl.len
  have Hs := Lib.hid hs
  clear hs
  obtain ⟨i0, z0, hi0, hz0, hz1, hz2, hzs⟩ := sl72.info
  have hR : Reads (w.alloc (.cells #[] 48)) w.heap.size 8 A n (flat8 l) := Reads.alloc hl (Nat.le_refl _) _
  have own0 : (w.alloc (.cells #[] 48)).ownsRow w.heap.size 48 8 (.slice (some ⟨w.heap.size, 0, none⟩) 0 0) 0 [] := World.ownsRow_lit w #[] 0 (Nat.le_refl _) (by simp [maxLen]) rfl
  by_cases hn0 : n = 0
  · have dn : ((n : Int) == 0) = true := by simp [hn0]
    have hl0 : l = [] := List.eq_nil_of_length_eq_zero (by omega)
    subst hl0
    subst hn0
    go_enter Tryd.func19, Tryd.ntmps19
    go_wp2_with (at_builtin
                 go_must (
                 refine wpList_append_any _ rfl (.tmp 7) (.tmp 8) 22 rfl w.heap.size 48 i0 z0 8 72 Tryd.underlying22 hi0 hz0 hz1 hz2 hzs (by omega) _ 0 [] rfl own0 w.heap.size A 0 cp (flat8 []) rfl hR (one_flat8 []) (by simp only [maxLen]; omega) (by omega) (by simp) ?_
                 intro v1 w1 own1 hgr1 hpl1
                 obtain ⟨A1, cp1, rfl, _, _⟩ := own_form own1))
    go_ret
    have hgr2 : (w.alloc (.cells #[] 48)).grownBy w1 (some w.heap.size) := hgr1
    have hms := (h.alloc (.cells #[] 48)).grown hgr2 (fun e => by have := Option.some.inj e; omega) (fun b e => by have := Option.some.inj e; omega)
    exact (show SpoilLR _ _ _ _ _ _ _ from ⟨A1, 0, cp1, [], c, rfl, own1, Nat.le_refl _, by simp, by omega, hms, grown_then (World.grownBy_alloc w _ (some g)) hgr2 (fun b e => .inr (by have := Option.some.inj e; omega))⟩)
  have hn1 : 1 ≤ n := by omega
  have dn : ((n : Int) == 0) = false := by simp; omega
  go_enter Tryd.func19, Tryd.ntmps19
  go_wp2_with (at_builtin
               go_must (
               refine wpList_append_any _ rfl (.tmp 7) (.tmp 8) 22 rfl w.heap.size 48 i0 z0 8 72 Tryd.underlying22 hi0 hz0 hz1 hz2 hzs (by omega) _ 0 [] rfl own0 w.heap.size A n cp (flat8 l) rfl hR (one_flat8 l) (by simp only [maxLen]; omega) (by omega) (by simp) ?_
               intro v1 w1 own1 hgr1 hpl1
               obtain ⟨ad, cap, bl, rfl, had, HS1⟩ := spoilL_start h hn1 own1 hgr1 hB
               clear hgr1 hpl1 own1 hR own0))
  refine (next_c B g c (n : Int) w1 HS1.out.mkr (by omega) (by omega) (by omega)).mono ?_
  rintro e w2 ⟨x, hx0, hx1, rfl, hm2, hg2⟩
  obtain ⟨i, rfl⟩ := Int.eq_ofNat_of_zero_le hx0
  have hin : i < n := by omega
  have HS2 := Lib.hid (HS1.out.next hm2 hg2)
  clear hm2 hg2 HS1 hx0 hx1 hl
  have hilt : (i : Int) < (n : Int) := by omega
  go_wp2_with fail
  refine (next_c B g (c + 1) 11 w2 HS2.out.mkr (by omega) (by omega) (by omega)).mono ?_
  rintro e w3 ⟨y, hy0, hy1, rfl, hm3, hg3⟩
  have HS3 := Lib.hid (HS2.out.next hm3 hg3)
  clear hm3 hg3 HS2
  obtain ⟨x, hx⟩ : ∃ x, l[i]? = some x := ⟨_, List.getElem?_eq_getElem (by omega)⟩
  have Hx := Lib.hid hx
  have Hxs := Lib.hid (Hs.out x (List.mem_of_getElem? hx))
  obtain ⟨d0, d1, d2, d3, d4, d5, d6, d7⟩ := HS3.out.cells hin hx had
  have Had := Lib.hid had
  clear hx had
  have hbn : w3.heap.size ≠ g := by have := HS3.out.mkr.lt; omega
  have hcap : n ≤ cap ∧ cap ≤ maxLen := by
    obtain ⟨A', cc, hv, hv1, hv2⟩ := own_form HS3.out.own
    injection hv with _ _ e1
    omega
  obtain rfl | rfl | rfl | rfl | rfl | rfl | rfl | rfl | rfl | rfl | rfl : y = 0 ∨ y = 1 ∨ y = 2 ∨ y = 3 ∨ y = 4 ∨ y = 5 ∨ y = 6 ∨ y = 7 ∨ y = 8 ∨ y = 9 ∨ y = 10 := by omega
  · go_wp2_with fail
    refine (pick_c B g (c + 1 + 1) w3.heap.size 7 _ [-1, 0, 1, 2, 3, 4, 5] _ (HS3.out.mkr.alloc _) hbn (by omega) (by omega) (by omega) (IR.new _ 7 rfl rfl (by decide))).mono ?_
    rintro e w4 ⟨q, _, rfl, hm4, hg4⟩
    have HS4 := Lib.hid ((HS3.out.alloc _).next hm4 hg4)
    clear hm4 hg4 d0 d1 d2 d3 d4 d5 d6 d7
    obtain ⟨d0, d1, d2, d3, d4, d5, d6, d7⟩ := HS4.out.cells hin Hx.out Had.out
    have hz := (HS4.out.fz (i := i) Had.out).1
    go_wp2_with fail
    go_ret
    exact spoilL_end HS4.out hgw hB c (by omega) Hx.out Had.out 0 (by decide) (by rfl) _ ⟨q, x.nm, x.p, x.sd, x.len, x.g, x.c, x.pw⟩ rfl Hxs.out Hs.out
  · go_wp2_with fail
    refine (next_c B g (c + 1 + 1) 6 _ (HS3.out.mkr.alloc _) (by omega) (by omega) (by omega)).mono ?_
    rintro e w4 ⟨y, hy0, hy1, rfl, hm4, hg4⟩
    obtain ⟨t, rfl⟩ := Int.eq_ofNat_of_zero_le hy0
    obtain ⟨q, hq, hqc⟩ := six_cell ((Blk.new w3 9 _).grown hg4 (fun e => hbn (Option.some.inj e))) t (by omega)
    have HS4 := Lib.hid ((HS3.out.alloc _).next hm4 hg4)
    clear hm4 hg4 d0 d1 d2 d3 d4 d5 d6 d7
    obtain ⟨d0, d1, d2, d3, d4, d5, d6, d7⟩ := HS4.out.cells hin Hx.out Had.out
    have hz := (HS4.out.fz (i := i) Had.out).2 1
    have ht5 : (t : Int) < 6 := by omega
    go_wp2_with fail
    go_ret
    exact spoilL_end HS4.out hgw hB c (by omega) Hx.out Had.out 1 (by decide) (by rfl) _ ⟨x.k, q, x.p, x.sd, x.len, x.g, x.c, x.pw⟩ rfl ⟨hq, Hxs.out.2.1, Hxs.out.2.2⟩ Hs.out
  · go_wp2_with fail
    refine (pick_c B g (c + 1 + 1) w3.heap.size 6 _ [-1, 0, 1, (i : Int), (i : Int) + 1, (n : Int)] _ (HS3.out.mkr.alloc _) hbn (by omega) (by omega) (by omega) (IR.new _ 6 rfl rfl (by decide))).mono ?_
    rintro e w4 ⟨q, hq, rfl, hm4, hg4⟩
    have HS4 := Lib.hid ((HS3.out.alloc _).next hm4 hg4)
    have hq2 : -1 ≤ q ∧ q ≤ 1000 := by simp at hq; omega
    clear hq
    clear hm4 hg4 d0 d1 d2 d3 d4 d5 d6 d7
    obtain ⟨d0, d1, d2, d3, d4, d5, d6, d7⟩ := HS4.out.cells hin Hx.out Had.out
    have hz := (HS4.out.fz (i := i) Had.out).2 2
    go_wp2_with fail
    go_ret
    exact spoilL_end HS4.out hgw hB c (by omega) Hx.out Had.out 2 (by decide) (by rfl) _ ⟨x.k, x.nm, q, x.sd, x.len, x.g, x.c, x.pw⟩ rfl ⟨Hxs.out.1, hq2, Hxs.out.2.2⟩ Hs.out
  · go_wp2_with fail
    refine (pick_c B g (c + 1 + 1) w3.heap.size 5 _ [-1, 0, 1, 2, 3] _ (HS3.out.mkr.alloc _) hbn (by omega) (by omega) (by omega) (IR.new _ 5 rfl rfl (by decide))).mono ?_
    rintro e w4 ⟨q, hq, rfl, hm4, hg4⟩
    have HS4 := Lib.hid ((HS3.out.alloc _).next hm4 hg4)
    have hq2 : -1 ≤ q ∧ q ≤ 3 := by simp at hq; omega
    clear hq
    clear hm4 hg4 d0 d1 d2 d3 d4 d5 d6 d7
    obtain ⟨d0, d1, d2, d3, d4, d5, d6, d7⟩ := HS4.out.cells hin Hx.out Had.out
    have hz := (HS4.out.fz (i := i) Had.out).2 3
    go_wp2_with fail
    go_ret
    exact spoilL_end HS4.out hgw hB c (by omega) Hx.out Had.out 3 (by decide) (by rfl) _ ⟨x.k, x.nm, x.p, q, x.len, x.g, x.c, x.pw⟩ rfl ⟨Hxs.out.1, Hxs.out.2.1, hq2⟩ Hs.out
  · go_wp2_with fail
    refine (pick_c B g (c + 1 + 1) w3.heap.size 5 _ [0, 1, 1000000, 1000001, -1] _ (HS3.out.mkr.alloc _) hbn (by omega) (by omega) (by omega) (IR.new _ 5 rfl rfl (by decide))).mono ?_
    rintro e w4 ⟨q, _, rfl, hm4, hg4⟩
    have HS4 := Lib.hid ((HS3.out.alloc _).next hm4 hg4)
    clear hm4 hg4 d0 d1 d2 d3 d4 d5 d6 d7
    obtain ⟨d0, d1, d2, d3, d4, d5, d6, d7⟩ := HS4.out.cells hin Hx.out Had.out
    have hz := (HS4.out.fz (i := i) Had.out).2 4
    go_wp2_with fail
    go_ret
    exact spoilL_end HS4.out hgw hB c (by omega) Hx.out Had.out 4 (by decide) (by rfl) _ ⟨x.k, x.nm, x.p, x.sd, q, x.g, x.c, x.pw⟩ rfl Hxs.out Hs.out
  · go_wp2_with fail
    refine (pick_c B g (c + 1 + 1) w3.heap.size 4 _ [-10001, -10000, 10000, 10001] _ (HS3.out.mkr.alloc _) hbn (by omega) (by omega) (by omega) (IR.new _ 4 rfl rfl (by decide))).mono ?_
    rintro e w4 ⟨q, _, rfl, hm4, hg4⟩
    have HS4 := Lib.hid ((HS3.out.alloc _).next hm4 hg4)
    clear hm4 hg4 d0 d1 d2 d3 d4 d5 d6 d7
    obtain ⟨d0, d1, d2, d3, d4, d5, d6, d7⟩ := HS4.out.cells hin Hx.out Had.out
    have hz := (HS4.out.fz (i := i) Had.out).2 5
    go_wp2_with fail
    go_ret
    exact spoilL_end HS4.out hgw hB c (by omega) Hx.out Had.out 5 (by decide) (by rfl) _ ⟨x.k, x.nm, x.p, x.sd, x.len, q, x.c, x.pw⟩ rfl Hxs.out Hs.out
  · go_wp2_with fail
    refine (pick_c B g (c + 1 + 1) w3.heap.size 3 _ [-1, 5000, 5001] _ (HS3.out.mkr.alloc _) hbn (by omega) (by omega) (by omega) (IR.new _ 3 rfl rfl (by decide))).mono ?_
    rintro e w4 ⟨q, _, rfl, hm4, hg4⟩
    have HS4 := Lib.hid ((HS3.out.alloc _).next hm4 hg4)
    clear hm4 hg4 d0 d1 d2 d3 d4 d5 d6 d7
    obtain ⟨d0, d1, d2, d3, d4, d5, d6, d7⟩ := HS4.out.cells hin Hx.out Had.out
    have hz := (HS4.out.fz (i := i) Had.out).2 6
    go_wp2_with fail
    go_ret
    exact spoilL_end HS4.out hgw hB c (by omega) Hx.out Had.out 6 (by decide) (by rfl) _ ⟨x.k, x.nm, x.p, x.sd, x.len, x.g, q, x.pw⟩ rfl Hxs.out Hs.out
  · go_wp2_with fail
    refine (pick_c B g (c + 1 + 1) w3.heap.size 5 _ [-1, 0, 1, 1000000000, 1000000001] _ (HS3.out.mkr.alloc _) hbn (by omega) (by omega) (by omega) (IR.new _ 5 rfl rfl (by decide))).mono ?_
    rintro e w4 ⟨q, _, rfl, hm4, hg4⟩
    have HS4 := Lib.hid ((HS3.out.alloc _).next hm4 hg4)
    clear hm4 hg4 d0 d1 d2 d3 d4 d5 d6 d7
    obtain ⟨d0, d1, d2, d3, d4, d5, d6, d7⟩ := HS4.out.cells hin Hx.out Had.out
    have hz := (HS4.out.fz (i := i) Had.out).2 7
    go_wp2_with fail
    go_ret
    exact spoilL_end HS4.out hgw hB c (by omega) Hx.out Had.out 7 (by decide) (by rfl) _ ⟨x.k, x.nm, x.p, x.sd, x.len, x.g, x.c, q⟩ rfl Hxs.out Hs.out
  · have had := Had.out
    subst had
    have hcm := hcap.2
    unfold maxLen at hcm
    obtain ⟨ii, z, hii, hz, hiz1, hiz2, hzs'⟩ := sl72.info
    have own3 := HS3.out.own
    obtain ⟨A8, hA8, hnews⟩ : ∃ A : Addr, (if cap = i + 1 then (some ⟨bl, 0, none⟩ : Option Addr) else some ⟨bl, (i + 1) * 8, none⟩) = some A ∧ Hid (∀ j u, ((flat8 l).drop ((i + 1) * 8))[j]? = some u → w3.drew.cell? (A.add j) = some u) := by
      by_cases h : cap = i + 1
      · refine ⟨_, by rw [if_pos h], Lib.hid fun j u hu => ?_⟩
        rw [List.drop_of_length_le (by rw [flat8_len]; omega)] at hu
        simp at hu
      · refine ⟨_, by rw [if_neg h], Lib.hid fun j u hu => ?_⟩
        rw [List.getElem?_drop] at hu
        have hj := (List.getElem?_eq_some_iff.1 hu).1
        rw [flat8_len] at hj
        have hc := own3.cellAt ((i + 1) * 8 + j) (by omega)
        have e1 : ((⟨bl, (i + 1) * 8, none⟩ : Addr).add j) = ⟨bl, (i + 1) * 8 + j, none⟩ := by
          unfold Addr.add
          by_cases hj : j = 0 <;> simp [hj]
        rw [e1]
        exact hc.trans hu
    have s1 : Hid (((flat8 l).drop ((i + 1) * 8)).length = (n - (i + 1)) * 8) := Lib.hid (by rw [List.length_drop, flat8_len]; omega)
    have s2 : Hid (∀ u ∈ (flat8 l).drop ((i + 1) * 8), u.oneCell' = true) := Lib.hid (fun u hu => one_flat8 l u (List.mem_of_mem_drop hu))
    have s3 : Hid (∀ j, j < ((flat8 l).drop ((i + 1) * 8)).length → (w3.drew.cell? ⟨bl, 0 + i * 8 + j, none⟩).isSome = true ∧ w3.drew.frozen? ⟨bl, 0 + i * 8 + j, none⟩ = false) := Lib.hid (fun j hj => by
      rw [List.length_drop, flat8_len] at hj
      rw [show 0 + i * 8 + j = i * 8 + j by omega]
      refine ⟨?_, own3.frozenAt (i * 8 + j)⟩
      show (w3.cell? _).isSome = true
      rw [own3.cellAt (i * 8 + j) (by omega), List.getElem?_eq_getElem (by rw [flat8_len]; omega)]
      rfl)
    have hic : i ≤ cap := by omega
    have hwr : IntKind.i64.wrap ((i : Int) + 1) = (i : Int) + 1 := IntWalk.i64_in _ ⟨by omega, by omega⟩
    have hp0 : (0 : Int) ≤ (i : Int) + 1 := by omega
    have hp1 : (i : Int) + 1 ≤ (n : Int) := by omega
    have hp2 : ((i : Int) + 1).toNat = i + 1 := by omega
    clear d0 d1 d2 d3 d4 d5 d6 d7
    go_wp2_with fail
    go_region_law (refine step_append_room rfl (.tmp 98) (.tmp 102) 22 rfl 48 ii 8 Tryd.underlying22 hii hiz1 bl 0 i cap (by simp [Act.eval, Act.put]) A8 (n - (i + 1)) (cap - (i + 1)) ((flat8 l).drop ((i + 1) * 8)) (by simp [Act.eval, Act.put]) s1.out hnews.out s2.out (by omega) s3.out ?_)
    go_wp2_with fail
    go_ret
    have hdm : List.drop ((i + 1) * 8) (flat8 l) = (flat8 l).drop ((i + 1) * 8) := rfl
    have own5 := own_del8 (w := w3.drew) own3 hin
    have hg5 := setCells_grown ((flat8 l).drop ((i + 1) * 8)) w3.drew bl (i * 8)
    have hge := own_ge own3 bl rfl
    have hM3 := HS3.out.mkr
    have hG3 := HS3.out.gr
    have hM5 : Mk B (w3.drew.setCells bl (i * 8) ((flat8 l).drop ((i + 1) * 8))) g (c + 1 + 1) := Mk.grown (w := w3.drew) ⟨hM3.ge, hM3.blk⟩ hg5 (fun e => by have := Option.some.inj e; omega) (fun b e => by have := Option.some.inj e; omega)
    have hG5 : w.grownBy (w3.drew.setCells bl (i * 8) ((flat8 l).drop ((i + 1) * 8))) (some g) := grown_then (w := w3.drew) ⟨hG3.os, hG3.tape, hG3.output, hG3.size, hG3.block⟩ hg5 (fun b e => .inr (by have := Option.some.inj e; omega))
    exact (show SpoilLR _ _ _ _ _ _ _ from ⟨_, i + (n - (i + 1)), cap, l.take i ++ l.drop (i + 1), c + 1 + 1, rfl, own5, by omega, fun x hx => by
      rcases List.mem_append.1 hx with h | h
      · exact Hs.out x (List.mem_of_mem_take h)
      · exact Hs.out x (List.mem_of_mem_drop h), by omega, hM5, hG5⟩)
  · have hic : i ≤ cap := by omega
    have hici : (i : Int) ≤ (cap : Int) := by omega
    go_wp2_with fail
    go_ret
    exact spoilL_cut HS3.out c (by omega) Had.out hin Hs.out
  · go_wp2_with fail
    go_ret
    exact spoilL_same HS3.out c (by omega) Had.out Hs.out
end Go.Proofs.YtmjdjcpmkdninaaDoor
