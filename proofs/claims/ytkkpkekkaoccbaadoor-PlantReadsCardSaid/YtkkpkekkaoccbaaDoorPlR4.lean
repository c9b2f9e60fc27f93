/- The walk of the reference's Valid (26). -/
import Derived.Test.YtkkpkekkaoccbaaDoorPlR3
import Derived.Lib.Bytes
namespace Go.Proofs.YtkkpkekkaoccbaaDoor
open Go.RowKit
/-- Block b holds a count for each node. -/
def NodesAt (w : World) (b : Nat) (f : Nat → Nat) : Prop := b < w.heap.size ∧ (∀ i : Nat, i < 64 → w.cell? ⟨b, i, none⟩ = some (.int .i64 (f i : Int))) ∧ ∀ i, w.frozen? ⟨b, i, none⟩ = false
theorem NodesAt.below {w w' : World} {b : Nat} {f : Nat → Nat} (h : NodesAt w b f) (hb : Below w.heap.size w w') : NodesAt w' b f :=
  ⟨Nat.lt_of_lt_of_le h.1 hb.size, fun i hi => (hb.cell (p := ⟨b, i, none⟩) h.1).trans (h.2.1 i hi), fun i => (hb.frozen (p := ⟨b, i, none⟩) h.1).trans (h.2.2 i)⟩
theorem NodesAt.set {w : World} {b : Nat} {f : Nat → Nat} (h : NodesAt w b f) (j : Nat) (hj : j < 64) (v : Nat) {f' : Nat → Nat} (h1 : f' j = v) (h2 : ∀ i, i ≠ j → f' i = f i) : NodesAt (w.setCell ⟨b, j, none⟩ (.int .i64 (v : Int))) b f' := by
  refine ⟨by simpa [World.setCell] using h.1, fun i hi => ?_, fun i => ?_⟩
  · by_cases e : i = j
    · subst e
      rw [h1]
      exact World.cell?_setCell_same _ _ _ (h.2.1 i hi)
    · rw [World.cell?_setCell_other _ _ _ _ (fun e' => e (by injection e' with _ h' _; exact h'.symm)), h2 i e]
      exact h.2.1 i hi
  · rw [World.frozen?_setCell]
    exact h.2.2 i
theorem bytes_eq_of {a b : ByteArray} (h : (a.toList == b.toList) = true) : a = b := by
  have h1 := eq_of_beq h
  rw [Lib.toList_data, Lib.toList_data] at h1
  cases a; cases b
  congr 1
  exact Array.toList_inj.1 h1
theorem bytes_ne_of {a b : ByteArray} (h : (a.toList == b.toList) = false) : a ≠ b := by
  intro e
  subst e
  simp at h
theorem named_hit {l : List PE} {x : PE} {j t : Nat} {q : PE} (hq : l[j]? = some q) (hjt : j < t) (h : q.nm = x.nm) : Pl.named (l.take t) x.nm = true := by
  unfold Pl.named
  rw [List.any_eq_true]
  refine ⟨q, List.mem_of_getElem? (i := j) (by rw [List.getElem?_take_of_lt hjt]; exact hq), decide_eq_true h⟩
theorem zeros64 (w : World) (t : TypeId) (cs : Array Value) (h : cs = Array.replicate 64 (.int .i64 0)) : NodesAt (w.alloc (.cells cs t)) w.heap.size (fun _ => 0) := by
  have hB := Blk.new w t cs
  refine ⟨by simp, fun i hi => ?_, fun i => hB.frozen i⟩
  rw [hB.cell, h, Array.getElem?_replicate, if_pos hi]
  rfl
def RvR (w : World) (n : Nat) (l : List PE) (v : Value) (wr : World) : Prop := ∃ t : Nat, t ≤ n ∧ v = .int .i64 t ∧ Pl.vErr l = Pl.vGo (l.drop t) (l.take t) ∧ NodesAt wr w.heap.size (fun i => Pl.uses (l.take t) (i : Int)) ∧ Below w.heap.size w wr
set_option linter.unusedVariables false in
set_option maxRecDepth 100000 in
set_option maxHeartbeats 8000000 in
theorem rvalid_c (A : Option Addr) (n c : Nat) (l : List PE) (w : World) (hn : n ≤ maxLen) (h : PR6 w A n l) (hs : ∀ x ∈ l, x.nm.size ≤ maxLen) :
    Calls Tryd.prog 25 #[.slice A n c] w fun e w' => e = .returned (.int .i64 (Pl.vErr l)) ∧ Below w.heap.size w w' := by
  have hl := h.len
  have hmx := hn
  unfold maxLen at hn
  by_cases hbig : 96 < n
  · have Hr := Lib.hid (show Pl.vErr l = 3 by rw [Pl.vErr, if_pos (by omega)])
    go_enter Tryd.func25, Tryd.ntmps25
    go_wp2_with fail
    go_ret
    exact ⟨retv Hr.out.symm, Below.refl _ _⟩
  · have hr : Pl.vErr l = Pl.vGo l [] := by rw [Pl.vErr, if_neg (by omega)]
    have Hr := Lib.hid hr
    have Hh := Lib.hid h
    clear hr h
    go_enter Tryd.func25, Tryd.ntmps25
    go_wp2_with fail
    go_loopw [4] (fun p wr => RvR w n l p wr) (fun p _ => n - (intOf p).toNat)
    case atStart => exact (show RvR _ _ _ _ _ from ⟨0, by omega, rfl, Hr.out, zeros64 w _ _ rfl, (Below.refl _ _).alloc (Nat.le_refl _) _⟩)
    case round =>
      obtain ⟨t, ht, rfl, hgo, hN, hbr⟩ := hrel
      have Hgo := Lib.hid hgo
      clear hgo
      by_cases hlt : t < n
      · obtain ⟨x, hx⟩ : ∃ x, l[t]? = some x := ⟨_, List.getElem?_eq_getElem (by omega)⟩
        have hxs := hs x (List.mem_of_getElem? hx)
        have Hx := Lib.hid hx
        have hPr := Hh.out.below hbr
        go_wp2_with fail
        refine (rsound_c A n c t l x wr hmx hPr Hx.out hxs).mono ?_
        rintro e w1 ⟨rfl, hb1⟩
        have hN1 := hN.below hb1
        have hbr1 := below_step hbr hb1
        clear hN hbr hb1 hPr hx
        by_cases hso : Pl.sound x = true
        · go_wp2_with fail
          have hA : ∃ ad, A = some ad := by
            obtain ⟨ad, _, e, _⟩ := Hh.out.at_ hlt
            exact ⟨ad, e⟩
          obtain ⟨ad, rfl⟩ := hA
          have htn : (t : Int) < (n : Int) := by omega
          go_loopw [5] (fun p wr => ∃ j : Nat, j ≤ t ∧ p = .int .i64 j ∧ Hid (Pl.named (l.take j) x.nm = false) ∧ NodesAt wr w.heap.size (fun i => Pl.uses (l.take t) (i : Int)) ∧ Below w.heap.size w wr) (fun p _ => t - (intOf p).toNat)
          case atStart => exact ⟨0, by omega, rfl, Lib.hid rfl, hN1, hbr1⟩
          case round =>
            obtain ⟨j, hj, rfl, hnam, hN2, hbr2⟩ := hrel
            clear hN1 hbr1
            by_cases hjt : j < t
            · obtain ⟨_, q, hAe, _, hq, _, cq, _⟩ := (Hh.out.below hbr2).at_ (show j < n by omega)
              obtain rfl := Option.some.inj hAe
              obtain ⟨_, x', hAe', _, hx', _, cx, _⟩ := (Hh.out.below hbr2).at_ hlt
              obtain rfl := Option.some.inj hAe'
              obtain rfl : x' = x := Option.some.inj (hx'.symm.trans Hx.out)
              have Hq := Lib.hid hq
              clear hq hx' hAe hAe'
              have hjn : (j : Int) < (n : Int) := by omega
              obtain ⟨s1, hs1⟩ : ∃ s, q.nm = s := ⟨_, rfl⟩
              obtain ⟨s2, hs2⟩ : ∃ s, x'.nm = s := ⟨_, rfl⟩
              rw [hs1] at cq
              rw [hs2] at cx
              have Hs1 := Lib.hid hs1
              have Hs2 := Lib.hid hs2
              clear hs1 hs2
              go_wp2_with fail
              go_quiet (fail)
              go_wp2_with fail
              · have he : (s1.toList == s2.toList) = true := by assumption
                have Hf := Lib.hid (Hgo.out.trans (vGo_bad8 Hx.out hso (named_hit Hq.out hjt (by rw [Hs1.out, Hs2.out]; exact bytes_eq_of he))))
                go_ret
                exact ⟨retv Hf.out.symm, below_drewN hbr2 _⟩
              · have he : (s1.toList == s2.toList) = false := by assumption
                have hne := bytes_ne_of he
                have Hnn : Hid (Pl.named (l.take (j + 1)) x'.nm = false) := Lib.hid (by
                  rw [take_snoc6 Hq.out, Pl.named_snoc, hnam.out, Hs1.out, Hs2.out]
                  simpa using hne)
                go_roundw
                case rel => exact ⟨j + 1, by omega, by go_num, Hnn, hN2, below_drewN hbr2 _⟩
                case measure => simp [intOf]; omega
            · obtain rfl : j = t := by omega
              go_wp2_with fail
              refine (rends_c (some ad) n c l (j : Int) wr hmx (Hh.out.below hbr2) (by omega) (by omega)).mono ?_
              rintro e w3 ⟨v3, rfl, own3, hnil, hb3⟩
              rw [endsAt_in Hx.out] at own3
              obtain ⟨q1, q2, q3⟩ := sound_parts hso
              obtain ⟨hEr, hEn⟩ := (Pl.nodes_iff _ _).1 q3
              have hE3 := Pl.ends_len x
              obtain ⟨E, hE⟩ : ∃ E, Pl.ends x = E := ⟨_, rfl⟩
              rw [hE] at own3 hEr hEn hE3
              have HEe := Lib.hid hE
              have HEr := Lib.hid hEr
              have HEn := Lib.hid hEn
              have hne : 0 < E.length := by
                rcases Nat.eq_zero_or_pos E.length with h | h
                · exact absurd (hE.trans (List.eq_nil_of_length_eq_zero h)) q1
                · exact h
              obtain ⟨m, hm⟩ : ∃ m, E.length = m := ⟨_, rfl⟩
              rw [hm] at own3 hE3 hne
              have Hm := Lib.hid hm
              obtain ⟨g, cap, rfl, hg3, hg3'⟩ := own3.form hne
              have hN3 := hN2.below hb3
              have hbr3 := below_step hbr2 hb3
              have hbw := hN2.1
              have hrow : ∀ i u, ((E.map (Value.int .i64)))[i]? = some u → w3.cell? ⟨g, i, none⟩ = some u := fun i u hu => by
                have hi := (List.getElem?_eq_some_iff.1 hu).1
                rw [own3.cellAt i (by rw [List.length_map, hm] at hi; omega)]
                exact hu
              have Hrow := Lib.hid hrow
              have Hso := Lib.hid hso
              clear hE hm hEr hEn hnil own3 q1 q2 q3 hN2 hbr2 hb3 hrow hso
              go_wp2_with fail
              go_loop [7] (fun p => ∃ q : Nat, q ≤ m ∧ p = .int .i64 q ∧ Hid (∀ y ∈ E.take q, Pl.uses (l.take j) y ≠ 2)) (fun p => m - (intOf p).toNat)
              case atStart => exact ⟨0, by omega, rfl, Lib.hid (by simp)⟩
              case round =>
                obtain ⟨q, hq, rfl, hu⟩ := hrel
                by_cases hqm : q < m
                · obtain ⟨y, hy⟩ : ∃ y, E[q]? = some y := ⟨_, List.getElem?_eq_getElem (by rw [Hm.out]; exact hqm)⟩
                  have hcy := Hrow.out q (.int .i64 y) (by rw [List.getElem?_map, hy]; rfl)
                  have hyr := HEr.out y (List.mem_of_getElem? hy)
                  obtain ⟨yn, rfl⟩ := Int.eq_ofNat_of_zero_le hyr.1
                  have hy64 : yn < 64 := by omega
                  have hcn := hN3.2.1 yn hy64
                  simp only at hcn
                  obtain ⟨r, hr⟩ : ∃ r, Pl.uses (l.take j) (yn : Int) = r := ⟨_, rfl⟩
                  rw [hr] at hcn
                  have Hy := Lib.hid hy
                  have Hr' := Lib.hid hr
                  have hy64i : (yn : Int) < 64 := by omega
                  clear hy hr hyr
                  by_cases hr2 : r = 2
                  · have dr : ((r : Int) == 2) = true := by simp; omega
                    have Hf := Lib.hid (Hgo.out.trans (vGo_bad17 Hx.out Hso.out hnam.out (y := (yn : Int)) (by rw [HEe.out]; exact List.mem_of_getElem? Hy.out) (by rw [Hr'.out, hr2])))
                    clear hr2
                    go_wp2_with fail
                    go_ret
                    exact ⟨retv Hf.out.symm, hbr3⟩
                  · have dr : ((r : Int) == 2) = false := by simp; omega
                    have Hu' : Hid (∀ y ∈ E.take (q + 1), Pl.uses (l.take j) y ≠ 2) := Lib.hid (by
                      intro v hv
                      rw [List.take_add_one, Hy.out] at hv
                      rcases List.mem_append.1 hv with hv | hv
                      · exact hu.out v hv
                      · simp at hv
                        subst hv
                        rw [Hr'.out]; exact hr2)
                    go_wp2_with fail
                    go_round
                    case rel => exact ⟨q + 1, by omega, by go_num, Hu'⟩
                    case measure => simp [intOf]; omega
                · obtain rfl : q = m := by omega
                  have hEt : E.take q = E := List.take_of_length_le (by rw [Hm.out]; exact Nat.le_refl _)
                  have Hf := Lib.hid (Hgo.out.trans (vGo_good Hx.out Hso.out hnam.out (by rw [HEe.out]; intro y hy; exact hu.out y (by rw [hEt]; exact hy))))
                  clear hu
                  go_wp2_with fail
                  go_loopw [8] (fun p wr => ∃ s : Nat, s ≤ q ∧ p = .int .i64 s ∧ NodesAt wr w.heap.size (fun i => Pl.uses (l.take j) (i : Int) + (E.take s).count (i : Int)) ∧ Below w.heap.size w wr ∧ Hid (∀ i u, ((E.map (Value.int .i64)))[i]? = some u → wr.cell? ⟨g, i, none⟩ = some u)) (fun p _ => q - (intOf p).toNat)
                  case atStart => exact ⟨0, by omega, rfl, by simpa using hN3, hbr3, Hrow⟩
                  case round =>
                    obtain ⟨s, hs', rfl, hN4, hbr4, hrow4⟩ := hrel
                    by_cases hsq : s < q
                    · obtain ⟨y, hy⟩ : ∃ y, E[s]? = some y := ⟨_, List.getElem?_eq_getElem (by rw [Hm.out]; exact hsq)⟩
                      have hcy := hrow4.out s (.int .i64 y) (by rw [List.getElem?_map, hy]; rfl)
                      have hyr := HEr.out y (List.mem_of_getElem? hy)
                      obtain ⟨yn, rfl⟩ := Int.eq_ofNat_of_zero_le hyr.1
                      have hy64 : yn < 64 := by omega
                      have hcn := hN4.2.1 yn hy64
                      simp only at hcn
                      have hfz := hN4.2.2 yn
                      have hu3 := uses_le (l.take j) (yn : Int)
                      rw [List.length_take] at hu3
                      obtain ⟨r, hr⟩ : ∃ r, Pl.uses (l.take j) (yn : Int) + (E.take s).count (yn : Int) = r := ⟨_, rfl⟩
                      have hc0 := count_take_zero HEn.out hy
                      have hrb : r ≤ 300 := by omega
                      rw [hr] at hcn
                      have Hr' := Lib.hid hr
                      have Hy := Lib.hid hy
                      have hy64i : (yn : Int) < 64 := by omega
                      have hgw : g ≠ w.heap.size := by omega
                      have HN5 : Hid (NodesAt (wr.setCell ⟨w.heap.size, yn, none⟩ (.int .i64 (((r + 1 : Nat)) : Int))) w.heap.size (fun i => Pl.uses (l.take j) (i : Int) + (E.take (s + 1)).count (i : Int))) := Lib.hid (hN4.set yn hy64 (r + 1) (by
                        rw [List.take_add_one, Hy.out]
                        simp only [Option.toList_some, List.count_append, List.count_cons, List.count_nil, beq_self_eq_true, if_true]
                        omega) (fun i hi => by
                        have hne' : ((yn : Int) == (i : Int)) = false := by rw [beq_eq_false_iff_ne]; omega
                        rw [List.take_add_one, Hy.out]
                        simp only [Option.toList_some, List.count_append, List.count_cons, List.count_nil, hne']
                        simp))
                      have Hrow5 : Hid (∀ i u, ((E.map (Value.int .i64)))[i]? = some u → (wr.setCell ⟨w.heap.size, yn, none⟩ (.int .i64 (((r + 1 : Nat)) : Int))).cell? ⟨g, i, none⟩ = some u) := Lib.hid (fun i u hu => by
                        rw [World.cell?_setCell_other _ _ _ _ (fun e => hgw (by injection e with h1 _ _; exact h1.symm))]
                        exact hrow4.out i u hu)
                      have hbr5 : Below w.heap.size w (wr.setCell ⟨w.heap.size, yn, none⟩ (.int .i64 (((r + 1 : Nat)) : Int))) := hbr4.setCell (p := ⟨w.heap.size, yn, none⟩) (Nat.le_refl _) _
                      have Hb5 := Lib.hid hbr5
                      clear hy hr hyr hu3 hc0 hN4 hrow4 hbr5 hbr4
                      go_wp2_with fail
                      rw [show ((r : Int) + 1) = ((r + 1 : Nat) : Int) by omega]
                      exact ⟨⟨s + 1, by omega, by go_num, HN5.out, Hb5.out, Hrow5⟩, by simp [intOf]; omega⟩
                    · obtain rfl : s = q := by omega
                      have HN6 : Hid (NodesAt wr w.heap.size (fun i => Pl.uses (l.take (j + 1)) (i : Int))) := Lib.hid (by
                        have e : (fun i : Nat => Pl.uses (l.take (j + 1)) (i : Int)) = fun i : Nat => Pl.uses (l.take j) (i : Int) + (E.take s).count (i : Int) := by
                          funext i
                          rw [take_snoc6 Hx.out, Pl.uses_snoc, HEe.out, hEt]
                        rw [e]; exact hN4)
                      clear hEt
                      go_wp2_with fail
                      go_roundw
                      case rel => exact (show RvR _ _ _ _ _ from ⟨j + 1, by omega, by go_num, Hf.out, HN6.out, hbr4⟩)
                      case measure => simp [intOf]; omega
        · have hsf : Pl.sound x = false := by simpa using hso
          have Hf := Lib.hid (Hgo.out.trans (vGo_bad1 Hx.out hsf))
          go_wp2_with fail
          go_ret
          exact ⟨retv Hf.out.symm, hbr1⟩
      · obtain rfl : t = n := by omega
        have Hf : Hid (Pl.vErr l = 0) := Lib.hid (by rw [Hgo.out, List.drop_of_length_le (by omega)]; rfl)
        go_wp2_with fail
        go_ret
        exact ⟨retv Hf.out.symm, hbr⟩
end Go.Proofs.YtkkpkekkaoccbaaDoor
