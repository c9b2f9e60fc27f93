/- The walk of yardgen's SpoilPlant. -/
import Derived.Test.YtkkpkekkaoccbaaDoorPlG3
import Derived.Deep.CutBlock
namespace Go.Proofs.YtkkpkekkaoccbaaDoor
open Go.RowKit
theorem flat6_take (l : List PE) (i : Nat) (x : PE) (h : l[i]? = some x) : flat6 l = flat6 (l.take i) ++ cells6 x ++ flat6 (l.drop (i + 1)) := by
  obtain ⟨hi, hx⟩ := List.getElem?_eq_some_iff.1 h
  have e : l = l.take i ++ x :: l.drop (i + 1) := by rw [← hx, ← List.drop_eq_getElem_cons hi, List.take_append_drop]
  conv => lhs; rw [e]
  rw [flat6_append]
  show flat6 (l.take i) ++ (cells6 x ++ flat6 (l.drop (i + 1))) = _
  rw [List.append_assoc]
/-- One field of one element, stored. -/
theorem flat6_set (l : List PE) (i j : Nat) (x y : PE) (u : Value) (h : l[i]? = some x) (hj : j < 6) (hy : (cells6 x).set j u = cells6 y) : (flat6 l).set (i * 6 + j) u = flat6 (l.set i y) := by
  obtain ⟨hi, hx⟩ := List.getElem?_eq_some_iff.1 h
  have h2 : (l.set i y)[i]? = some y := by simp [hi]
  rw [flat6_take l i x h, flat6_take _ i y h2, ← hy]
  have hl : (flat6 (l.take i)).length = i * 6 := by rw [flat6_len, List.length_take, Nat.min_eq_left (by omega)]
  have h3 : (l.set i y).take i = l.take i := by rw [List.take_set_of_le (Nat.le_refl _)]
  have h4 : (l.set i y).drop (i + 1) = l.drop (i + 1) := by rw [List.drop_set_of_lt (by omega)]
  rw [h3, h4, List.append_assoc, List.append_assoc, List.set_append, if_neg (by omega), hl, show i * 6 + j - i * 6 = j by omega, List.set_append, if_pos (by simpa [cells6] using hj)]
def SpoilR (B : Nat) (w : World) (g c n : Nat) (m : Nat) (e : Ending) (w' : World) : Prop := ∃ v l' c', e = .returned v ∧ w'.ownsRow w.heap.size 40 6 v n (flat6 l') ∧ (∀ x ∈ l', x.nm.size ≤ m) ∧ c' ≤ c + 3 ∧ Mk B w' g c' ∧ w.grownBy w' (some g)
/-- The copy that is being spoiled. -/
structure SpS (B : Nat) (w : World) (g c bl cap n : Nat) (l : List PE) (wr : World) : Prop where
  mkr : Mk B wr g c
  own : wr.ownsRow w.heap.size 40 6 (.slice (some ⟨bl, 0, none⟩) n cap) n (flat6 l)
  gr : w.grownBy wr (some g)
section
variable {B g c bl cap n : Nat} {w wr w' : World} {l : List PE}
theorem SpS.next (h : SpS B w g c bl cap n l wr) {c' : Nat} (m : Mk B w' g c') (hg : wr.grownBy w' (some g)) : SpS B w g c' bl cap n l w' :=
  ⟨m, h.own.kept hg (.inr (h.mkr.ne h.own (by decide))), h.gr.trans hg⟩
theorem SpS.alloc (h : SpS B w g c bl cap n l wr) (o : Obj) : SpS B w g c bl cap n l (wr.alloc o) :=
  ⟨h.mkr.alloc o, h.own.alloc o, h.gr.trans (World.grownBy_alloc wr o (some g))⟩
theorem SpS.cells (h : SpS B w g c bl cap n l wr) {i : Nat} (hi : i < n) {x : PE} (hx : l[i]? = some x) {ad : Addr} (had : (⟨bl, 0, none⟩ : Addr) = ad) :
    wr.cell? (ad.add (i * 6)) = some (.int .i64 x.k) ∧
    wr.cell? ⟨(ad.add (i * 6)).block, (ad.add (i * 6)).off + 1, none⟩ = some (.string x.nm) ∧ wr.cell? ⟨(ad.add (i * 6)).block, (ad.add (i * 6)).off + 2, none⟩ = some (.int .i64 x.a) ∧
    wr.cell? ⟨(ad.add (i * 6)).block, (ad.add (i * 6)).off + 3, none⟩ = some (.int .i64 x.b) ∧ wr.cell? ⟨(ad.add (i * 6)).block, (ad.add (i * 6)).off + 4, none⟩ = some (.int .i64 x.c) ∧
    wr.cell? ⟨(ad.add (i * 6)).block, (ad.add (i * 6)).off + 5, none⟩ = some (.int .i64 x.len) := by
  obtain ⟨ad', p, e, _, hp, d⟩ := (own_PR6 h.own).at_ hi
  obtain rfl := Option.some.inj (hp.symm.trans hx)
  rw [had] at e
  obtain rfl := Option.some.inj e
  exact d
theorem SpS.fz (h : SpS B w g c bl cap n l wr) {i : Nat} {ad : Addr} (had : (⟨bl, 0, none⟩ : Addr) = ad) :
    wr.frozen? (ad.add (i * 6)) = false ∧ ∀ j, wr.frozen? ⟨(ad.add (i * 6)).block, (ad.add (i * 6)).off + j, none⟩ = false := by
  subst had
  by_cases h0 : i * 6 = 0
  · simp only [Addr.add, h0, if_true]
    exact ⟨h.own.frozenAt 0, fun j => h.own.frozenAt (0 + j)⟩
  · simp only [Addr.add, h0, if_false]
    exact ⟨h.own.frozenAt _, fun j => h.own.frozenAt _⟩
theorem spoil_end (h : SpS B w g c bl cap n l wr) (hgw : g < w.heap.size) (hBw : B ≤ w.heap.size) (c0 : Nat) (hc : c ≤ c0 + 3) {i : Nat} {x : PE} (hx : l[i]? = some x) {ad fa : Addr} (had : (⟨bl, 0, none⟩ : Addr) = ad) (j : Nat) (hj : j < 6)
    (hfa : fa = if j = 0 then ad.add (i * 6) else ⟨(ad.add (i * 6)).block, (ad.add (i * 6)).off + j, none⟩) (u : Value) (y : PE) (hy : (cells6 x).set j u = cells6 y) (hn : y.nm.size ≤ 13) (hs : ∀ x ∈ l, x.nm.size ≤ 13) :
    SpoilR B w g c0 n 13 (.returned (.slice (some ad) n cap)) (wr.setCell fa u) := by
  subst had
  have e : fa = ⟨bl, i * 6 + j, none⟩ := by
    rw [hfa]
    by_cases h0 : i * 6 = 0
    · by_cases hj0 : j = 0 <;> simp [Addr.add, h0, hj0]
    · by_cases hj0 : j = 0 <;> simp [Addr.add, h0, hj0]
  rw [e]
  have hge := own_ge h.own bl rfl
  have hg := Go.Proofs.YtkkpkekkaoccbaaDoor.World.grownBy_set wr bl (i * 6 + j) u
  refine ⟨_, l.set i y, c, rfl, ?_, ?_, hc, ?_, ?_⟩
  · have := (h.own.stored (i * 6 + j) u).1
    rwa [flat6_set l i j x y u hx hj hy] at this
  · intro z hz
    rcases List.mem_or_eq_of_mem_set hz with hz | rfl
    · exact hs z hz
    · exact hn
  · exact h.mkr.grown hg (fun e => by have := Option.some.inj e; omega) (fun b e => by have := Option.some.inj e; omega)
  · exact grown_then h.gr hg (fun b e => .inr (by have := Option.some.inj e; omega))
theorem spoil_same (h : SpS B w g c bl cap n l wr) (c0 : Nat) (hc : c ≤ c0 + 3) {ad : Addr} (had : (⟨bl, 0, none⟩ : Addr) = ad) (hs : ∀ x ∈ l, x.nm.size ≤ 13) :
    SpoilR B w g c0 n 13 (.returned (.slice (some ad) n cap)) wr := by
  subst had
  exact ⟨_, l, c, rfl, h.own, hs, hc, h.mkr, h.gr⟩
end
theorem spoil_start {B g c n : Nat} {w w1 : World} {l : List PE} {o : Obj} {v1 : Value} (h : Mk B w g c) (hn : 1 ≤ n) (own1 : w1.ownsRow w.heap.size 40 6 v1 (0 + n) ([] ++ flat6 l)) (hgr : (w.alloc o).grownBy w1 (some w.heap.size)) (hB : B ≤ w.heap.size) :
    ∃ (ad : Addr) (cap bl : Nat), v1 = .slice (some ad) n cap ∧ (⟨bl, 0, none⟩ : Addr) = ad ∧ Hid (SpS B w g c bl cap n l w1) := by
  rw [Nat.zero_add, List.nil_append] at own1
  obtain ⟨bl, cap, rfl, _⟩ := own1.form (by omega)
  have hgw := h.lt
  exact ⟨_, cap, bl, rfl, rfl, Lib.hid ⟨(h.alloc o).grown hgr (fun e => by have := Option.some.inj e; omega) (fun b e => by have := Option.some.inj e; omega), own1, grown_then (World.grownBy_alloc w o (some g)) hgr (fun b e => .inr (by have := Option.some.inj e; omega))⟩⟩
/-- One of the five names. -/
theorem five_cell {W : World} {b : Nat} {e : TypeId} (h : Blk W b e #[.string ⟨#[]⟩, .string ⟨#[112, 48, 48]⟩, .string ⟨#[80]⟩, .string ⟨#[97, 98, 99, 100, 101, 102, 103, 104, 105, 106, 107, 108, 109]⟩, .string ⟨#[97, 32, 98]⟩]) (y : Nat) (hy : y < 5) : ∃ s : ByteArray, s.size ≤ 13 ∧ W.cell? ⟨b, y, none⟩ = some (.string s) := by
  have hh : y = 0 ∨ y = 1 ∨ y = 2 ∨ y = 3 ∨ y = 4 := by omega
  rcases hh with rfl | rfl | rfl | rfl | rfl
  · exact ⟨_, by decide, h.cell 0⟩
  · exact ⟨_, by decide, h.cell 1⟩
  · exact ⟨_, by decide, h.cell 2⟩
  · exact ⟨_, by decide, h.cell 3⟩
  · exact ⟨_, by decide, h.cell 4⟩
set_option maxRecDepth 100000 in
set_option maxHeartbeats 4000000 in
theorem spoilPlant_c (B g c n cp : Nat) (A : Option Addr) (l : List PE) (w : World) (h : Mk B w g c) (hc : c ≤ 2305843009213693952) (hn : n ≤ 1000) (hn1 : 1 ≤ n) (hB : B ≤ w.heap.size) (hl : PR6 w A n l) (hs : ∀ x ∈ l, x.nm.size ≤ 13) :
    Calls Tryd.prog 22 #[.pointer (some ⟨g, 0, none⟩), .slice A n cp] w (SpoilR B w g c n 13) := by
  have hgw := h.lt
  have hll := hl.len
  have Hs := Lib.hid hs
  clear hs
  obtain ⟨i0, z0, hi0, hz0, hz1, hz2, hzs⟩ := sl6.info
  have hR : Reads (w.alloc (.cells #[] 40)) w.heap.size 6 A n (flat6 l) := Reads.alloc hl (Nat.le_refl _) _
  have own0 : (w.alloc (.cells #[] 40)).ownsRow w.heap.size 40 6 (.slice (some ⟨w.heap.size, 0, none⟩) 0 0) 0 [] := World.ownsRow_lit w #[] 0 (Nat.le_refl _) (by simp [maxLen]) rfl
  go_enter Tryd.func22, Tryd.ntmps22
  go_wp2_with (at_builtin
               go_must (
               refine wpList_append_any _ rfl (.tmp 6) (.tmp 7) 28 rfl w.heap.size 40 i0 z0 6 56 Tryd.underlying28 hi0 hz0 hz1 hz2 hzs (by omega) _ 0 [] rfl own0 w.heap.size A n cp (flat6 l) rfl hR (one_flat6 l) (by simp only [maxLen]; omega) (by omega) (by simp) ?_
               intro v1 w1 own1 hgr1 hpl1
               obtain ⟨ad, cap, bl, rfl, had, HS1⟩ := spoil_start h hn1 own1 hgr1 hB
               clear hgr1 hpl1 own1 hR own0))
  refine (next_c B g c (n : Int) w1 HS1.out.mkr (by omega) (by omega) (by omega)).mono ?_
  rintro e w2 ⟨x, hx0, hx1, rfl, hm2, hg2⟩
  obtain ⟨i, rfl⟩ := Int.eq_ofNat_of_zero_le hx0
  have hin : i < n := by omega
  have HS2 := Lib.hid (HS1.out.next hm2 hg2)
  clear hm2 hg2 HS1 hx0 hx1 hl
  have hilt : (i : Int) < (n : Int) := by omega
  go_wp2_with fail
  refine (next_c B g (c + 1) 7 w2 HS2.out.mkr (by omega) (by omega) (by omega)).mono ?_
  rintro e w3 ⟨y, hy0, hy1, rfl, hm3, hg3⟩
  have HS3 := Lib.hid (HS2.out.next hm3 hg3)
  clear hm3 hg3 HS2
  obtain ⟨x, hx⟩ : ∃ x, l[i]? = some x := ⟨_, List.getElem?_eq_getElem (by omega)⟩
  have Hx := Lib.hid hx
  obtain ⟨d0, d1, d2, d3, d4, d5⟩ := HS3.out.cells hin hx had
  have Had := Lib.hid had
  clear hx had
  have hbn : w3.heap.size ≠ g := by have := HS3.out.mkr.lt; omega
  obtain rfl | rfl | rfl | rfl | rfl | rfl | rfl : y = 0 ∨ y = 1 ∨ y = 2 ∨ y = 3 ∨ y = 4 ∨ y = 5 ∨ y = 6 := by omega
  · go_wp2_with fail
    refine (pick_c B g (c + 1 + 1) w3.heap.size 5 _ [0, 1, 2, 3, 4] _ (HS3.out.mkr.alloc _) hbn (by omega) (by omega) (by omega) (IR.new _ 5 rfl rfl (by decide))).mono ?_
    rintro e w4 ⟨q, _, rfl, hm4, hg4⟩
    have HS4 := Lib.hid ((HS3.out.alloc _).next hm4 hg4)
    clear hm4 hg4 d0 d1 d2 d3 d4 d5
    obtain ⟨d0, d1, d2, d3, d4, d5⟩ := HS4.out.cells hin Hx.out Had.out
    have hz := (HS4.out.fz (i := i) Had.out).1
    go_wp2_with fail
    go_ret
    exact spoil_end HS4.out hgw hB c (by omega) Hx.out Had.out 0 (by decide) (by rfl) _ ⟨q, x.nm, x.a, x.b, x.c, x.len⟩ rfl (Hs.out x (List.mem_of_getElem? Hx.out)) Hs.out
  · go_wp2_with fail
    refine (next_c B g (c + 1 + 1) 5 _ (HS3.out.mkr.alloc _) (by omega) (by omega) (by omega)).mono ?_
    rintro e w4 ⟨y, hy0, hy1, rfl, hm4, hg4⟩
    obtain ⟨t, rfl⟩ := Int.eq_ofNat_of_zero_le hy0
    obtain ⟨q, hq, hqc⟩ := five_cell ((Blk.new w3 9 _).grown hg4 (fun e => hbn (Option.some.inj e))) t (by omega)
    have HS4 := Lib.hid ((HS3.out.alloc _).next hm4 hg4)
    clear hm4 hg4 d0 d1 d2 d3 d4 d5
    obtain ⟨d0, d1, d2, d3, d4, d5⟩ := HS4.out.cells hin Hx.out Had.out
    have hz := (HS4.out.fz (i := i) Had.out).2 1
    have ht5 : (t : Int) < 5 := by omega
    go_wp2_with fail
    go_ret
    exact spoil_end HS4.out hgw hB c (by omega) Hx.out Had.out 1 (by decide) (by rfl) _ ⟨x.k, q, x.a, x.b, x.c, x.len⟩ rfl hq Hs.out
  · go_wp2_with fail
    refine (pick_c B g (c + 1 + 1) w3.heap.size 7 _ [-1, 0, 1, 2, 63, 64, x.b] _ (HS3.out.mkr.alloc _) hbn (by omega) (by omega) (by omega) (IR.new _ 7 rfl rfl (by decide))).mono ?_
    rintro e w4 ⟨q, _, rfl, hm4, hg4⟩
    have HS4 := Lib.hid ((HS3.out.alloc _).next hm4 hg4)
    clear hm4 hg4 d0 d1 d2 d3 d4 d5
    obtain ⟨d0, d1, d2, d3, d4, d5⟩ := HS4.out.cells hin Hx.out Had.out
    have hz := (HS4.out.fz (i := i) Had.out).2 2
    go_wp2_with fail
    go_ret
    exact spoil_end HS4.out hgw hB c (by omega) Hx.out Had.out 2 (by decide) (by rfl) _ ⟨x.k, x.nm, q, x.b, x.c, x.len⟩ rfl (Hs.out x (List.mem_of_getElem? Hx.out)) Hs.out
  · go_wp2_with fail
    refine (pick_c B g (c + 1 + 1) w3.heap.size 6 _ [-1, 0, 1, 2, 63, 64] _ (HS3.out.mkr.alloc _) hbn (by omega) (by omega) (by omega) (IR.new _ 6 rfl rfl (by decide))).mono ?_
    rintro e w4 ⟨q, _, rfl, hm4, hg4⟩
    have HS4 := Lib.hid ((HS3.out.alloc _).next hm4 hg4)
    clear hm4 hg4 d0 d1 d2 d3 d4 d5
    obtain ⟨d0, d1, d2, d3, d4, d5⟩ := HS4.out.cells hin Hx.out Had.out
    have hz := (HS4.out.fz (i := i) Had.out).2 3
    go_wp2_with fail
    go_ret
    exact spoil_end HS4.out hgw hB c (by omega) Hx.out Had.out 3 (by decide) (by rfl) _ ⟨x.k, x.nm, x.a, q, x.c, x.len⟩ rfl (Hs.out x (List.mem_of_getElem? Hx.out)) Hs.out
  · go_wp2_with fail
    refine (pick_c B g (c + 1 + 1) w3.heap.size 4 _ [0, 1, 5, 64] _ (HS3.out.mkr.alloc _) hbn (by omega) (by omega) (by omega) (IR.new _ 4 rfl rfl (by decide))).mono ?_
    rintro e w4 ⟨q, _, rfl, hm4, hg4⟩
    have HS4 := Lib.hid ((HS3.out.alloc _).next hm4 hg4)
    clear hm4 hg4 d0 d1 d2 d3 d4 d5
    obtain ⟨d0, d1, d2, d3, d4, d5⟩ := HS4.out.cells hin Hx.out Had.out
    have hz := (HS4.out.fz (i := i) Had.out).2 4
    go_wp2_with fail
    go_ret
    exact spoil_end HS4.out hgw hB c (by omega) Hx.out Had.out 4 (by decide) (by rfl) _ ⟨x.k, x.nm, x.a, x.b, q, x.len⟩ rfl (Hs.out x (List.mem_of_getElem? Hx.out)) Hs.out
  · go_wp2_with fail
    refine (pick_c B g (c + 1 + 1) w3.heap.size 4 _ [0, 1, 100000, 100001] _ (HS3.out.mkr.alloc _) hbn (by omega) (by omega) (by omega) (IR.new _ 4 rfl rfl (by decide))).mono ?_
    rintro e w4 ⟨q, _, rfl, hm4, hg4⟩
    have HS4 := Lib.hid ((HS3.out.alloc _).next hm4 hg4)
    clear hm4 hg4 d0 d1 d2 d3 d4 d5
    obtain ⟨d0, d1, d2, d3, d4, d5⟩ := HS4.out.cells hin Hx.out Had.out
    have hz := (HS4.out.fz (i := i) Had.out).2 5
    go_wp2_with fail
    go_ret
    exact spoil_end HS4.out hgw hB c (by omega) Hx.out Had.out 5 (by decide) (by rfl) _ ⟨x.k, x.nm, x.a, x.b, x.c, q⟩ rfl (Hs.out x (List.mem_of_getElem? Hx.out)) Hs.out
  · go_wp2_with fail
    go_ret
    exact spoil_same HS3.out c (by omega) Had.out Hs.out
end Go.Proofs.YtkkpkekkaoccbaaDoor
