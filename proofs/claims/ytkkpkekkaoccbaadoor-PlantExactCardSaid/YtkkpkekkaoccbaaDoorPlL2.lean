/- The walk of the reference's line. -/
import Derived.Test.YtkkpkekkaoccbaaDoorPlL0
import Derived.Deep.CutBlock
import Derived.Deep.RegionHeld3
import Derived.Deep.DrawnRows
namespace Go.Proofs.YtkkpkekkaoccbaaDoor
open Go.RowKit
def LineR (o : Option PE) (w : World) (e : Ending) (w' : World) : Prop := (∃ p : PE, e = .returned (.tuple #[peV p, .bool o.isSome]) ∧ ∀ x, o = some x → p = x) ∧ Below w.heap.size w w'
theorem lineR_some {o : Option PE} {x : PE} {w w' : World} (ho : o = some x) (hb : Below w.heap.size w w') : LineR o w (.returned (.tuple #[.agg #[.int .i64 x.k, .string x.nm, .int .i64 x.a, .int .i64 x.b, .int .i64 x.c, .int .i64 x.len], .bool true])) w' := by
  subst ho
  exact ⟨⟨x, rfl, fun y hy => by injection hy⟩, hb⟩
theorem lineR_none {o : Option PE} {k a b c len : Int} {nm : ByteArray} {w w' : World} (ho : o = none) (hb : Below w.heap.size w w') : LineR o w (.returned (.tuple #[.agg #[.int .i64 k, .string nm, .int .i64 a, .int .i64 b, .int .i64 c, .int .i64 len], .bool false])) w' := by
  subst ho
  exact ⟨⟨⟨k, nm, a, b, c, len⟩, rfl, fun y hy => by cases hy⟩, hb⟩
theorem lineB_bad {L : List ByteArray} {i : Nat} (h2 : 2 ≤ i) (hi : i < L.length) (hb : Pl.numOkB (Pl.wd L i) = false) : Pl.lineB L = none := by
  unfold Pl.lineB
  split
  · rfl
  · rw [if_neg]
    intro ha
    have hm : Pl.wd L i ∈ L.drop 2 := by
      rw [Pl.wd, List.getD_eq_getElem?_getD, List.getElem?_eq_getElem hi, Option.getD_some]
      rw [List.mem_iff_getElem?]
      exact ⟨i - 2, by rw [List.getElem?_drop, show 2 + (i - 2) = i by omega, List.getElem?_eq_getElem hi]⟩
    have := List.all_eq_true.1 ha _ hm
    rw [hb] at this
    cases this
theorem zeros3 (w : World) (t : TypeId) (cs : Array Value) (h : cs = Array.replicate 3 (.int .i64 0)) {f : Nat → Int} (hf : ∀ j, f j = 0) : ArrAt (w.alloc (.cells cs t)) w.heap.size 3 f := by
  have e : f = fun _ => 0 := funext hf
  rw [e]
  exact zeros_at w t 3 cs h
theorem wordsB_ne (s : ByteArray) : 0 < (Pl.wordsB s).length := by
  unfold Pl.wordsB
  rw [List.length_map]
  exact List.length_pos_iff.2 (Tx.cutAt_ne 32 _)
theorem kind_cases (l : List UInt8) : (Pl.kindOf l = 1 ∧ l = Pl.track) ∨ (Pl.kindOf l = 2 ∧ l = Pl.switch) ∨ (Pl.kindOf l = 3 ∧ l = Pl.derailer) ∨ (Pl.kindOf l = 0 ∧ l ≠ Pl.track ∧ l ≠ Pl.switch ∧ l ≠ Pl.derailer) := by
  unfold Pl.kindOf
  by_cases h1 : l = Pl.track
  · exact .inl ⟨by rw [if_pos h1], h1⟩
  · by_cases h2 : l = Pl.switch
    · exact .inr (.inl ⟨by rw [if_neg h1, if_pos h2], h2⟩)
    · by_cases h3 : l = Pl.derailer
      · exact .inr (.inr (.inl ⟨by rw [if_neg h1, if_neg h2, if_pos h3], h3⟩))
      · exact .inr (.inr (.inr ⟨by rw [if_neg h1, if_neg h2, if_neg h3], h1, h2, h3⟩))
theorem beq_list_true {s : ByteArray} {l : List UInt8} (h : s.data.toList = l) : (s.toList == l) = true := by rw [Lib.toList_data, h]; exact beq_self_eq_true l
theorem beq_list_false {s : ByteArray} {l : List UInt8} (h : s.data.toList ≠ l) : (s.toList == l) = false := by rw [Lib.toList_data]; exact beq_eq_false_iff_ne.2 h
theorem own_str {w0 : World} {B e n g cap : Nat} {L : List ByteArray} (h : w0.ownsRow B e 1 (.slice (some ⟨g, 0, none⟩) n cap) n (L.map Value.string)) {j : Nat} (hj : j < n) : w0.cell? ⟨g, j, none⟩ = some (.string (Pl.wd L j)) := by
  rw [h.cellAt j (by omega)]
  have hl : L.length = n := by have := h.1; simpa using this
  rw [List.getElem?_map, List.getElem?_eq_getElem (by omega), Pl.wd, List.getD_eq_getElem?_getD, List.getElem?_eq_getElem (by omega)]
  rfl
theorem below_todrew {B : Nat} {a w : World} (h : Below B a w) : Below B a w.drew := ⟨h.os, h.tape, h.output, h.size, h.block⟩
theorem lineB_good {L : List ByteArray} {K c len : Int} (hK : Pl.kindOf (Pl.wd L 0).data.toList = K) (h0 : ¬ K = 0) (hM : L.length = Pl.wantOf K) (h1 : ¬ (Pl.wd L 1).size = 0) (hok : ∀ t, 2 ≤ t → t < L.length → Pl.numOkB (Pl.wd L t) = true)
    (hc : (if K = 1 then 0 else Pl.nv L 4) = c) (hl : (if K = 1 then Pl.nv L 4 else 0) = len) : Pl.lineB L = some ⟨K, Pl.wd L 1, Pl.nv L 2, Pl.nv L 3, c, len⟩ := by
  unfold Pl.lineB
  rw [hK, if_neg (fun h => h.elim h0 (fun h => h.elim (fun h => h hM) h1)), if_pos, hc, hl]
  rw [List.all_eq_true]
  intro x hx
  obtain ⟨i, hi⟩ := List.mem_iff_getElem?.1 hx
  rw [List.getElem?_drop] at hi
  obtain ⟨hi1, hi2⟩ := List.getElem?_eq_some_iff.1 hi
  have := hok (2 + i) (by omega) hi1
  rwa [Pl.wd, List.getD_eq_getElem?_getD, hi] at this
theorem nv_last {L : List ByteArray} {n i : Nat} {v : Int} (hn : L.length = n) (h : n ≤ i) (hv : (if 4 < i then Pl.nv L 4 else 0) = v) : Pl.nv L 4 = v := by
  by_cases h4 : 4 < i
  · rw [if_pos h4] at hv; exact hv
  · rw [if_neg h4] at hv
    rw [← hv, Pl.nv, Pl.wd, List.getD_eq_getElem?_getD, List.getElem?_eq_none (by omega)]
    rfl
set_option maxRecDepth 100000 in
set_option maxHeartbeats 4000000 in
theorem rline_c (s : ByteArray) (w : World) (hs : s.size ≤ 1000000) :
    Calls Tryd.prog 32 #[.string s] w (LineR (Pl.lineB (Pl.wordsB s)) w) := by
  have hne := wordsB_ne s
  obtain ⟨L, hL⟩ : ∃ L, Pl.wordsB s = L := ⟨_, rfl⟩
  rw [hL] at hne ⊢
  have HL := Lib.hid hL
  clear hL
  go_enter Tryd.func32, Tryd.ntmps32
  go_wp2_with fail
  refine (words_c s _ hs).mono ?_
  rintro e w1 ⟨L', n, v, rfl, own, hcut, hn, hb⟩
  have hLL := wordsB_of hcut
  rw [HL.out] at hLL
  subst hLL
  have hnl : L'.length = n := by have := own.1; simpa using this
  obtain ⟨g, cap, rfl, hg1, hg2⟩ := own.form (by omega)
  have hB := (Blk.new w 40 #[.int .i64 0, .string ⟨#[]⟩, .int .i64 0, .int .i64 0, .int .i64 0, .int .i64 0]).below hb (by simp)
  have hbr : Below w.heap.size w w1 := ((Below.refl _ _).alloc (Nat.le_refl _) _).trans (hb.mono (by simp))
  have z0 : w1.cell? ⟨w.heap.size, 0, none⟩ = some (.int .i64 0) := hB.cell 0
  have z1 : w1.cell? ⟨w.heap.size, 1, none⟩ = some (.string ⟨#[]⟩) := hB.cell 1
  have z2 : w1.cell? ⟨w.heap.size, 2, none⟩ = some (.int .i64 0) := hB.cell 2
  have z3 : w1.cell? ⟨w.heap.size, 3, none⟩ = some (.int .i64 0) := hB.cell 3
  have z4 : w1.cell? ⟨w.heap.size, 4, none⟩ = some (.int .i64 0) := hB.cell 4
  have z5 : w1.cell? ⟨w.heap.size, 5, none⟩ = some (.int .i64 0) := hB.cell 5
  have f0 := hB.frozen 0
  have f1 := hB.frozen 1
  have f2 := hB.frozen 2
  have f3 := hB.frozen 3
  have f4 := hB.frozen 4
  have f5 := hB.frozen 5
  have hn0 : 0 < n := by omega
  have c0 := own_str own hn0
  have Hnl := Lib.hid hnl
  clear hcut hb hnl hne
  go_upto_block 0 with fail
  go_cut [5, 6] (fun a b wx => a = .int .i64 (Pl.kindOf (Pl.wd L' 0).data.toList) ∧ b = .int .i64 (Pl.wantOf (Pl.kindOf (Pl.wd L' 0).data.toList) : Int) ∧ wx = w1)
  case first =>
    rcases kind_cases (Pl.wd L' 0).data.toList with ⟨hk, he⟩ | ⟨hk, he⟩ | ⟨hk, he⟩ | ⟨hk, h1, h2, h3⟩
    · have e1 := beq_list_true he
      unfold Pl.track at e1
      have Hk := Lib.hid hk
      clear he hk
      go_wp2_with fail
      go_meet
      exact ⟨by rw [Hk.out], by rw [Hk.out]; rfl, rfl⟩
    · have e1 := beq_list_false (s := Pl.wd L' 0) (l := Pl.track) (by rw [he]; decide)
      have e2 := beq_list_true he
      unfold Pl.track at e1
      unfold Pl.switch at e2
      have Hk := Lib.hid hk
      clear he hk
      go_wp2_with fail
      go_meet
      exact ⟨by rw [Hk.out], by rw [Hk.out]; rfl, rfl⟩
    · have e1 := beq_list_false (s := Pl.wd L' 0) (l := Pl.track) (by rw [he]; decide)
      have e2 := beq_list_false (s := Pl.wd L' 0) (l := Pl.switch) (by rw [he]; decide)
      have e3 := beq_list_true he
      unfold Pl.track at e1
      unfold Pl.switch at e2
      unfold Pl.derailer at e3
      have Hk := Lib.hid hk
      clear he hk
      go_wp2_with fail
      go_meet
      exact ⟨by rw [Hk.out], by rw [Hk.out]; rfl, rfl⟩
    · have e1 := beq_list_false h1
      have e2 := beq_list_false h2
      have e3 := beq_list_false h3
      unfold Pl.track at e1
      unfold Pl.switch at e2
      unfold Pl.derailer at e3
      have Hk := Lib.hid hk
      clear h1 h2 h3 hk
      go_wp2_with fail
      go_meet
      exact ⟨by rw [Hk.out], by rw [Hk.out]; rfl, rfl⟩
  case rest =>
    obtain ⟨rfl, rfl, rfl⟩ := hcut
    obtain ⟨K, hK⟩ : ∃ K, Pl.kindOf (Pl.wd L' 0).data.toList = K := ⟨_, rfl⟩
    have hkc : K = 0 ∨ K = 1 ∨ K = 2 ∨ K = 3 := by
      rw [← hK]
      rcases kind_cases (Pl.wd L' 0).data.toList with h | h | h | h
      · exact .inr (.inl h.1)
      · exact .inr (.inr (.inl h.1))
      · exact .inr (.inr (.inr h.1))
      · exact .inl h.1
    rw [hK]
    obtain ⟨M, hM⟩ : ∃ M, Pl.wantOf K = M := ⟨_, rfl⟩
    have hMK : M = 4 ∧ K = 3 ∨ M = 5 ∧ K ≠ 3 := by
      rw [← hM]
      unfold Pl.wantOf
      by_cases h : K = 3
      · exact .inl ⟨if_pos h, h⟩
      · exact .inr ⟨if_neg h, h⟩
    rw [hM]
    have HK := Lib.hid hK
    have HM := Lib.hid hM
    clear hK hM
    have Hne : Hid ((Value.slice (some ⟨g, 0, none⟩) n cap).ownBlock ≠ some w.heap.size) := Lib.hid (fun e => by
      have := own_ge own _ e
      simp at this
      omega)
    by_cases hk0 : K = 0
    · have d0 : (K == 0) = true := by simpa using hk0
      have Hn := Lib.hid (show Pl.lineB L' = none by unfold Pl.lineB; rw [HK.out, if_pos (.inl hk0)])
      clear hk0 hkc hMK
      obtain ⟨q1, q2, q3⟩ := store6 hB own Hne.out hbr (Nat.le_refl _) (.int .i64 0) (.string ⟨#[]⟩) (.int .i64 0) (.int .i64 0) (.int .i64 0) (.int .i64 0)
      have Q1 := Lib.hid q1
      have Q3 := Lib.hid q3
      clear q1 q2 q3
      go_wp2_with fail
      have r0 := Q1.out.cell 0
      have r1 := Q1.out.cell 1
      have r2 := Q1.out.cell 2
      have r3 := Q1.out.cell 3
      have r4 := Q1.out.cell 4
      have r5 := Q1.out.cell 5
      have R3 := Q3.out
      generalize (((((wc.setCell ⟨w.heap.size, 0, none⟩ (.int .i64 0)).setCell ⟨w.heap.size, 1, none⟩ (.string ⟨#[]⟩)).setCell ⟨w.heap.size, 2, none⟩ (.int .i64 0)).setCell ⟨w.heap.size, 3, none⟩ (.int .i64 0)).setCell ⟨w.heap.size, 4, none⟩ (.int .i64 0)).setCell ⟨w.heap.size, 5, none⟩ (.int .i64 0) = W at r0 r1 r2 r3 r4 r5 R3 ⊢
      refine bodyPost_ret (v := .tuple #[.agg #[.int .i64 0, .string ⟨#[]⟩, .int .i64 0, .int .i64 0, .int .i64 0, .int .i64 0], .bool false]) (by simp [results, Tryd.results32, go_sem, r0, r1, r2, r3, r4, r5]) rfl ?_
      exact lineR_none Hn.out R3
    · have d0 : (K == 0) = false := by simpa using hk0
      by_cases hnM : n = M
      · have d1 : ((n : Int) != (M : Int)) = false := by simp; omega
        have c1 := own_str own (j := 1) (by omega)
        have h1n : (1 : Int) < (n : Int) := by omega
        have hnM1 := Nat.le_of_eq hnM
        have hnM2 := Nat.le_of_eq hnM.symm
        clear hnM
        by_cases hz : (Pl.wd L' 1).size = 0
        · have d2 := isEmpty_zero hz
          have Hn := Lib.hid (show Pl.lineB L' = none by unfold Pl.lineB; rw [if_pos (.inr (.inr hz))])
          clear hz hk0 hkc hMK
          obtain ⟨q1, q2, q3⟩ := store6 hB own Hne.out hbr (Nat.le_refl _) (.int .i64 0) (.string ⟨#[]⟩) (.int .i64 0) (.int .i64 0) (.int .i64 0) (.int .i64 0)
          have Q1 := Lib.hid q1
          have Q3 := Lib.hid q3
          clear q1 q2 q3
          go_wp2_with fail
          have r0 := Q1.out.cell 0
          have r1 := Q1.out.cell 1
          have r2 := Q1.out.cell 2
          have r3 := Q1.out.cell 3
          have r4 := Q1.out.cell 4
          have r5 := Q1.out.cell 5
          have R3 := Q3.out
          generalize (((((wc.setCell ⟨w.heap.size, 0, none⟩ (.int .i64 0)).setCell ⟨w.heap.size, 1, none⟩ (.string ⟨#[]⟩)).setCell ⟨w.heap.size, 2, none⟩ (.int .i64 0)).setCell ⟨w.heap.size, 3, none⟩ (.int .i64 0)).setCell ⟨w.heap.size, 4, none⟩ (.int .i64 0)).setCell ⟨w.heap.size, 5, none⟩ (.int .i64 0) = W at r0 r1 r2 r3 r4 r5 R3 ⊢
          refine bodyPost_ret (v := .tuple #[.agg #[.int .i64 0, .string ⟨#[]⟩, .int .i64 0, .int .i64 0, .int .i64 0, .int .i64 0], .bool false]) (by simp [results, Tryd.results32, go_sem, r0, r1, r2, r3, r4, r5]) rfl ?_
          exact lineR_none Hn.out R3
        · have d2 := isEmpty_of (s := Pl.wd L' 1) (by omega)
          go_wp2_with fail
          have Hwd : Hid (∀ t, (Pl.wd L' t).size ≤ maxLen) := Lib.hid (fun t => by
            have := wd_size s t
            rw [HL.out] at this
            unfold maxLen
            omega)
          go_loopw [8, 9, 10] (fun p _ _ wr => ∃ i : Nat, 2 ≤ i ∧ i ≤ M ∧ p = .int .i64 i ∧ Hid (∀ t, 2 ≤ t → t < i → Pl.numOkB (Pl.wd L' t) = true) ∧ ArrAt wr wc.heap.size 3 (fun j => if j + 2 < i then Pl.nv L' (j + 2) else 0) ∧ Below wc.heap.size wc wr) (fun p _ _ _ => M - (intOf p).toNat)
          case atStart => exact ⟨2, by omega, by omega, rfl, Lib.hid (fun t h1 h2 => by omega), zeros3 wc _ _ rfl (fun j => if_neg (by omega)), (Below.refl _ _).alloc (Nat.le_refl _) _⟩
          case round =>
            obtain ⟨i, hi2, hiM, rfl, hok, hA, hbw⟩ := hrel
            have own' := own_below own hbw
            have hB' := hB.below hbw hB.lt
            have hbr' := below_step hbr hbw
            have y0 : wr.cell? ⟨w.heap.size, 0, none⟩ = some (.int .i64 0) := hB'.cell 0
            have x0 := hB'.frozen 0
            have y1 : wr.cell? ⟨w.heap.size, 1, none⟩ = some (.string ⟨#[]⟩) := hB'.cell 1
            have x1 := hB'.frozen 1
            have y2 : wr.cell? ⟨w.heap.size, 2, none⟩ = some (.int .i64 0) := hB'.cell 2
            have x2 := hB'.frozen 2
            have y3 : wr.cell? ⟨w.heap.size, 3, none⟩ = some (.int .i64 0) := hB'.cell 3
            have x3 := hB'.frozen 3
            have y4 : wr.cell? ⟨w.heap.size, 4, none⟩ = some (.int .i64 0) := hB'.cell 4
            have x4 := hB'.frozen 4
            have y5 : wr.cell? ⟨w.heap.size, 5, none⟩ = some (.int .i64 0) := hB'.cell 5
            have x5 := hB'.frozen 5
            by_cases hlt : i < M
            · have ci := own_str own' (j := i) (by omega)
              have hin : (i : Int) < (n : Int) := by omega
              go_wp2_with fail
              refine (rnumber_c (Pl.wd L' i) wr (Hwd.out i)).mono ?_
              rintro e w2 ⟨rfl, rfl⟩
              obtain ⟨v, hv⟩ : ∃ v, (numR (Pl.wd L' i)).1 = v := ⟨_, rfl⟩
              obtain ⟨b, hb⟩ : ∃ b, (numR (Pl.wd L' i)).2 = b := ⟨_, rfl⟩
              rw [hv, hb]
              have Hv := Lib.hid hv
              have Hb := Lib.hid hb
              clear hv hb
              cases b
              case false =>
                have Hn := Lib.hid (lineB_bad (L := L') (i := i) hi2 (by rw [Hnl.out]; omega) (by unfold Pl.numOkB; rw [Hb.out, Hv.out]; rfl))
                obtain ⟨q1, q2, q3⟩ := store6 hB' own' Hne.out hbr' (Nat.le_refl _) (.int .i64 0) (.string ⟨#[]⟩) (.int .i64 0) (.int .i64 0) (.int .i64 0) (.int .i64 0)
                have Q1 := Lib.hid q1
                have Q3 := Lib.hid q3
                clear q1 q2 q3
                go_wp2_with fail
                have r0 := Q1.out.cell 0
                have r1 := Q1.out.cell 1
                have r2 := Q1.out.cell 2
                have r3 := Q1.out.cell 3
                have r4 := Q1.out.cell 4
                have r5 := Q1.out.cell 5
                have R3 := Q3.out
                generalize (((((wr.setCell ⟨w.heap.size, 0, none⟩ (.int .i64 0)).setCell ⟨w.heap.size, 1, none⟩ (.string ⟨#[]⟩)).setCell ⟨w.heap.size, 2, none⟩ (.int .i64 0)).setCell ⟨w.heap.size, 3, none⟩ (.int .i64 0)).setCell ⟨w.heap.size, 4, none⟩ (.int .i64 0)).setCell ⟨w.heap.size, 5, none⟩ (.int .i64 0) = W at r0 r1 r2 r3 r4 r5 R3 ⊢
                refine bodyPost_ret (v := .tuple #[.agg #[.int .i64 0, .string ⟨#[]⟩, .int .i64 0, .int .i64 0, .int .i64 0, .int .i64 0], .bool false]) (by simp [results, Tryd.results32, go_sem, r0, r1, r2, r3, r4, r5]) rfl ?_
                exact lineR_none Hn.out R3
              case true =>
                by_cases hbig : 1000000 < v
                · have d3 : decide (1000000 < (v : Int)) = true := by simp; omega
                  have d3' : decide (1000000 < v) = true := by simp; omega
                  have Hn := Lib.hid (lineB_bad (L := L') (i := i) hi2 (by rw [Hnl.out]; omega) (by unfold Pl.numOkB; rw [Hb.out, Hv.out]; simp; omega))
                  obtain ⟨q1, q2, q3⟩ := store6 hB' own' Hne.out hbr' (Nat.le_refl _) (.int .i64 0) (.string ⟨#[]⟩) (.int .i64 0) (.int .i64 0) (.int .i64 0) (.int .i64 0)
                  have Q1 := Lib.hid q1
                  have Q3 := Lib.hid q3
                  clear q1 q2 q3
                  go_wp2_with fail
                  have r0 := Q1.out.cell 0
                  have r1 := Q1.out.cell 1
                  have r2 := Q1.out.cell 2
                  have r3 := Q1.out.cell 3
                  have r4 := Q1.out.cell 4
                  have r5 := Q1.out.cell 5
                  have R3 := Q3.out
                  generalize (((((wr.setCell ⟨w.heap.size, 0, none⟩ (.int .i64 0)).setCell ⟨w.heap.size, 1, none⟩ (.string ⟨#[]⟩)).setCell ⟨w.heap.size, 2, none⟩ (.int .i64 0)).setCell ⟨w.heap.size, 3, none⟩ (.int .i64 0)).setCell ⟨w.heap.size, 4, none⟩ (.int .i64 0)).setCell ⟨w.heap.size, 5, none⟩ (.int .i64 0) = W at r0 r1 r2 r3 r4 r5 R3 ⊢
                  refine bodyPost_ret (v := .tuple #[.agg #[.int .i64 0, .string ⟨#[]⟩, .int .i64 0, .int .i64 0, .int .i64 0, .int .i64 0], .bool false]) (by simp [results, Tryd.results32, go_sem, r0, r1, r2, r3, r4, r5]) rfl ?_
                  exact lineR_none Hn.out R3
                · have d3 : decide (1000000 < (v : Int)) = false := by simp; omega
                  have d3' : decide (1000000 < v) = false := by simp; omega
                  obtain ⟨k, hk⟩ : ∃ k, i - 2 = k := ⟨_, rfl⟩
                  have hik : (i : Int) - 2 = (k : Int) := by omega
                  have hk3 : k < 3 := by omega
                  have hk3i : (k : Int) < 3 := by omega
                  have ca := hA.2.1 k hk3
                  have cf := hA.2.2 k
                  simp only at ca
                  have HA' := Lib.hid (hA.set k (v : Int) (f' := fun j => if j + 2 < i + 1 then Pl.nv L' (j + 2) else 0) (by
                    rw [if_pos (by omega), Pl.nv, show k + 2 = i by omega, Hv.out]) (fun j hj hne => by
                    by_cases h : j + 2 < i
                    · rw [if_pos h, if_pos (by omega)]
                    · rw [if_neg h, if_neg (by omega)]))
                  have Hok' : Hid (∀ t, 2 ≤ t → t < i + 1 → Pl.numOkB (Pl.wd L' t) = true) := Lib.hid (fun t h1 h2 => by
                    rcases Nat.lt_or_ge t i with h | h
                    · exact hok.out t h1 h
                    · obtain rfl : t = i := by omega
                      unfold Pl.numOkB
                      rw [Hb.out, Hv.out]
                      simp; omega)
                  have Hbw' := Lib.hid (hbw.setCell (p := ⟨wc.heap.size, k, none⟩) (Nat.le_refl _) (.int .i64 (v : Int)))
                  clear hk hA hbw
                  go_wp2_with fail
                  go_roundw
                  case rel => exact ⟨i + 1, by omega, by omega, by go_num, Hok', HA'.out, Hbw'.out⟩
                  case measure => simp [intOf]; omega
            · obtain rfl : i = M := by omega
              have c1' := own_str own' (j := 1) (by omega)
              have a0 := hA.2.1 0 (by omega)
              have a1 := hA.2.1 1 (by omega)
              have a2 := hA.2.1 2 (by omega)
              simp only [Nat.zero_add, Nat.reduceAdd] at a0 a1 a2
              rw [if_pos (by omega)] at a0
              rw [if_pos (by omega)] at a1
              obtain ⟨v2, hv2⟩ : ∃ v, (if 4 < i then Pl.nv L' 4 else 0) = v := ⟨_, rfl⟩
              rw [hv2] at a2
              have Hv2 := Lib.hid hv2
              clear hv2
              have p1 := cell_alloc c1'
              have p2 := cell_alloc a0
              have p3 := cell_alloc a1
              have p4 := cell_alloc a2
              have n1 := World.new_ne wr _ c1'
              have n2 := World.new_ne wr _ a0
              have n3 := World.new_ne wr _ a1
              have n4 := World.new_ne wr _ a2
              go_wp2_with fail
              go_region_held3 (fun W => W.cell? ⟨g, 1, none⟩ = some (.string (Pl.wd L' 1)) ∧ W.cell? ⟨wc.heap.size, 0, none⟩ = some (.int .i64 (Pl.nv L' 2)) ∧ W.cell? ⟨wc.heap.size, 1, none⟩ = some (.int .i64 (Pl.nv L' 3)) ∧ W.cell? ⟨wc.heap.size, 2, none⟩ = some (.int .i64 v2)) (go_keep) (fail)
              have Y0 := cell_alloc y0
              have Y1 := cell_alloc y1
              have Y2 := cell_alloc y2
              have Y3 := cell_alloc y3
              have Y4 := cell_alloc y4
              have Y5 := cell_alloc y5
              have X0 : ∀ o : Obj, (wr.alloc o).frozen? ⟨w.heap.size, 0, none⟩ = false := fun o => (hB'.alloc o).frozen 0
              have X1 : ∀ o : Obj, (wr.alloc o).frozen? ⟨w.heap.size, 1, none⟩ = false := fun o => (hB'.alloc o).frozen 1
              have X2 : ∀ o : Obj, (wr.alloc o).frozen? ⟨w.heap.size, 2, none⟩ = false := fun o => (hB'.alloc o).frozen 2
              have X3 : ∀ o : Obj, (wr.alloc o).frozen? ⟨w.heap.size, 3, none⟩ = false := fun o => (hB'.alloc o).frozen 3
              have X4 : ∀ o : Obj, (wr.alloc o).frozen? ⟨w.heap.size, 4, none⟩ = false := fun o => (hB'.alloc o).frozen 4
              have X5 : ∀ o : Obj, (wr.alloc o).frozen? ⟨w.heap.size, 5, none⟩ = false := fun o => (hB'.alloc o).frozen 5
              by_cases hk1 : K = 1
              · have d5 : (K == 1) = true := by simpa using hk1
                have h4i : 4 < i := by omega
                have Hk1 := Lib.hid hk1
                clear hk1 hkc hMK
                have Hn := Lib.hid (show Pl.lineB L' = some ⟨K, Pl.wd L' 1, Pl.nv L' 2, Pl.nv L' 3, 0, v2⟩ from lineB_good HK.out hk0 (by rw [Hnl.out, HM.out]; omega) hz (fun t h1 h2 => hok.out t h1 (by rw [Hnl.out] at h2; omega)) (if_pos Hk1.out) (by rw [if_pos Hk1.out, ← Hv2.out, if_pos h4i]))
                obtain ⟨q1, q2, q3⟩ := store6 (hB'.alloc (.cells #[.int .i64 K, .string (Pl.wd L' 1), .int .i64 (Pl.nv L' 2), .int .i64 (Pl.nv L' 3), .int .i64 0, .int .i64 v2] 40)) (own'.alloc (.cells #[.int .i64 K, .string (Pl.wd L' 1), .int .i64 (Pl.nv L' 2), .int .i64 (Pl.nv L' 3), .int .i64 0, .int .i64 v2] 40)) Hne.out (hbr'.alloc hbr'.size (.cells #[.int .i64 K, .string (Pl.wd L' 1), .int .i64 (Pl.nv L' 2), .int .i64 (Pl.nv L' 3), .int .i64 0, .int .i64 v2] 40)) (Nat.le_refl _) (.int .i64 K) (.string (Pl.wd L' 1)) (.int .i64 (Pl.nv L' 2)) (.int .i64 (Pl.nv L' 3)) (.int .i64 0) (.int .i64 v2)
                have Q1 := Lib.hid q1
                have Q3 := Lib.hid q3
                clear q1 q2 q3
                go_wp2_with fail
                go_region_held3 (fun W => W.cell? ⟨wc.heap.size, 2, none⟩ = some (.int .i64 v2)) (go_keep) (fail)
                go_wp2_with fail
                have r0 := Q1.out.cell 0
                have r1 := Q1.out.cell 1
                have r2 := Q1.out.cell 2
                have r3 := Q1.out.cell 3
                have r4 := Q1.out.cell 4
                have r5 := Q1.out.cell 5
                have R3 := Q3.out
                generalize (((((((wr.alloc (.cells #[.int .i64 K, .string (Pl.wd L' 1), .int .i64 (Pl.nv L' 2), .int .i64 (Pl.nv L' 3), .int .i64 0, .int .i64 v2] 40)).setCell ⟨w.heap.size, 0, none⟩ (.int .i64 K)).setCell ⟨w.heap.size, 1, none⟩ (.string (Pl.wd L' 1))).setCell ⟨w.heap.size, 2, none⟩ (.int .i64 (Pl.nv L' 2))).setCell ⟨w.heap.size, 3, none⟩ (.int .i64 (Pl.nv L' 3))).setCell ⟨w.heap.size, 4, none⟩ (.int .i64 0)).setCell ⟨w.heap.size, 5, none⟩ (.int .i64 v2)) = W at r0 r1 r2 r3 r4 r5 R3 ⊢
                have R4 := (below_todrew (below_todrew R3))
                refine bodyPost_ret (v := .tuple #[.agg #[(.int .i64 K), (.string (Pl.wd L' 1)), (.int .i64 (Pl.nv L' 2)), (.int .i64 (Pl.nv L' 3)), (.int .i64 0), (.int .i64 v2)], .bool true]) (by simp [results, Tryd.results32, go_sem, r0, r1, r2, r3, r4, r5]) rfl ?_
                exact lineR_some Hn.out R4
              · have d5 : (K == 1) = false := by simpa using hk1
                have Hk1 := Lib.hid hk1
                clear hk1 hkc hMK
                have Hn := Lib.hid (show Pl.lineB L' = some ⟨K, Pl.wd L' 1, Pl.nv L' 2, Pl.nv L' 3, v2, 0⟩ from lineB_good HK.out hk0 (by rw [Hnl.out, HM.out]; omega) hz (fun t h1 h2 => hok.out t h1 (by rw [Hnl.out] at h2; omega)) (by rw [if_neg Hk1.out]; exact nv_last Hnl.out hnM1 Hv2.out) (if_neg Hk1.out))
                obtain ⟨q1, q2, q3⟩ := store6 (hB'.alloc (.cells #[.int .i64 K, .string (Pl.wd L' 1), .int .i64 (Pl.nv L' 2), .int .i64 (Pl.nv L' 3), .int .i64 v2, .int .i64 0] 40)) (own'.alloc (.cells #[.int .i64 K, .string (Pl.wd L' 1), .int .i64 (Pl.nv L' 2), .int .i64 (Pl.nv L' 3), .int .i64 v2, .int .i64 0] 40)) Hne.out (hbr'.alloc hbr'.size (.cells #[.int .i64 K, .string (Pl.wd L' 1), .int .i64 (Pl.nv L' 2), .int .i64 (Pl.nv L' 3), .int .i64 v2, .int .i64 0] 40)) (Nat.le_refl _) (.int .i64 K) (.string (Pl.wd L' 1)) (.int .i64 (Pl.nv L' 2)) (.int .i64 (Pl.nv L' 3)) (.int .i64 v2) (.int .i64 0)
                have Q1 := Lib.hid q1
                have Q3 := Lib.hid q3
                clear q1 q2 q3
                go_wp2_with fail
                have r0 := Q1.out.cell 0
                have r1 := Q1.out.cell 1
                have r2 := Q1.out.cell 2
                have r3 := Q1.out.cell 3
                have r4 := Q1.out.cell 4
                have r5 := Q1.out.cell 5
                have R3 := Q3.out
                generalize (((((((wr.alloc (.cells #[.int .i64 K, .string (Pl.wd L' 1), .int .i64 (Pl.nv L' 2), .int .i64 (Pl.nv L' 3), .int .i64 v2, .int .i64 0] 40)).setCell ⟨w.heap.size, 0, none⟩ (.int .i64 K)).setCell ⟨w.heap.size, 1, none⟩ (.string (Pl.wd L' 1))).setCell ⟨w.heap.size, 2, none⟩ (.int .i64 (Pl.nv L' 2))).setCell ⟨w.heap.size, 3, none⟩ (.int .i64 (Pl.nv L' 3))).setCell ⟨w.heap.size, 4, none⟩ (.int .i64 v2)).setCell ⟨w.heap.size, 5, none⟩ (.int .i64 0)) = W at r0 r1 r2 r3 r4 r5 R3 ⊢
                have R4 := (below_todrew R3)
                refine bodyPost_ret (v := .tuple #[.agg #[(.int .i64 K), (.string (Pl.wd L' 1)), (.int .i64 (Pl.nv L' 2)), (.int .i64 (Pl.nv L' 3)), (.int .i64 v2), (.int .i64 0)], .bool true]) (by simp [results, Tryd.results32, go_sem, r0, r1, r2, r3, r4, r5]) rfl ?_
                exact lineR_some Hn.out R4
      · have d1 : ((n : Int) != (M : Int)) = true := by simp; omega
        have Hn := Lib.hid (show Pl.lineB L' = none by unfold Pl.lineB; rw [HK.out, HM.out, Hnl.out, if_pos (.inr (.inl hnM))])
        clear hnM hk0 hkc hMK
        obtain ⟨q1, q2, q3⟩ := store6 hB own Hne.out hbr (Nat.le_refl _) (.int .i64 0) (.string ⟨#[]⟩) (.int .i64 0) (.int .i64 0) (.int .i64 0) (.int .i64 0)
        have Q1 := Lib.hid q1
        have Q3 := Lib.hid q3
        clear q1 q2 q3
        go_wp2_with fail
        have r0 := Q1.out.cell 0
        have r1 := Q1.out.cell 1
        have r2 := Q1.out.cell 2
        have r3 := Q1.out.cell 3
        have r4 := Q1.out.cell 4
        have r5 := Q1.out.cell 5
        have R3 := Q3.out
        generalize (((((wc.setCell ⟨w.heap.size, 0, none⟩ (.int .i64 0)).setCell ⟨w.heap.size, 1, none⟩ (.string ⟨#[]⟩)).setCell ⟨w.heap.size, 2, none⟩ (.int .i64 0)).setCell ⟨w.heap.size, 3, none⟩ (.int .i64 0)).setCell ⟨w.heap.size, 4, none⟩ (.int .i64 0)).setCell ⟨w.heap.size, 5, none⟩ (.int .i64 0) = W at r0 r1 r2 r3 r4 r5 R3 ⊢
        refine bodyPost_ret (v := .tuple #[.agg #[.int .i64 0, .string ⟨#[]⟩, .int .i64 0, .int .i64 0, .int .i64 0, .int .i64 0], .bool false]) (by simp [results, Tryd.results32, go_sem, r0, r1, r2, r3, r4, r5]) rfl ?_
        exact lineR_none Hn.out R3
end Go.Proofs.YtkkpkekkaoccbaaDoor
