/- The walks of Valid of a sheet, program and reference. -/
import Derived.Test.YtiegpkbollihgaaDoorFnW6
import Derived.StillTailTactics
namespace Go.Proofs.YtiegpkbollihgaaDoor
open Go.RowKit
namespace Fn
theorem fErr_name {f : FN} (h : Pl.nameOk f.nm = false) : fErr f = 7 := by unfold fErr; rw [if_pos h]
theorem fErr_ws {f : FN} (h : Pl.nameOk f.nm = true) (h1 : wsErr f.ws ≠ 0) : fErr f = wsErr f.ws := by unfold fErr; rw [if_neg (by rw [h]; decide), if_pos h1]
theorem fErr_lim {f : FN} (h : Pl.nameOk f.nm = true) (h1 : wsErr f.ws = 0) (h2 : 16 < f.so.length) : fErr f = 3 := by unfold fErr; rw [if_neg (by rw [h]; decide), if_neg (by rw [h1]; decide), if_pos h2]
theorem fErr_end {f : FN} (h : Pl.nameOk f.nm = true) (h1 : wsErr f.ws = 0) (h2 : ¬ 16 < f.so.length) : fErr f = if (nums f).all inside = false then 2 else 0 := by unfold fErr; rw [if_neg (by rw [h]; decide), if_neg (by rw [h1]; decide), if_neg h2]
theorem so_take {l : List SO} {t : Nat} {x : SO} (h : l[t]? = some x) : (l.take (t + 1)).flatMap soL = (l.take t).flatMap soL ++ [x.st, x.wg, x.gr] := by
  obtain ⟨ht, hx⟩ := List.getElem?_eq_some_iff.1 h
  rw [List.take_succ_eq_append_getElem ht, hx]
  simp [soL]
theorem so_len (l : List SO) : (l.flatMap soL).length = 3 * l.length := by
  induction l with
  | nil => rfl
  | cons x t ih => rw [List.flatMap_cons, List.length_append, ih, List.length_cons]; show 3 + _ = _; omega
end Fn
def fnV (A : Option Addr) (n c : Nat) (B : Option Addr) (m d : Nat) (nm : ByteArray) (b0 b1 b2 b3 b4 b5 b6 : Int) : Value := .agg #[.string nm, .slice A n c, .int .i64 b0, .int .i64 b1, .int .i64 b2, .int .i64 b3, .int .i64 b4, .int .i64 b5, .int .i64 b6, .slice B m d]
/-- What a sheet's slices hold. -/
structure FR (w : World) (A : Option Addr) (n : Nat) (B : Option Addr) (m : Nat) (f : FN) : Prop where
  ws : WR w A n f.ws
  so : SR w B m f.so
  hn : n ≤ maxLen
  hm : m ≤ maxLen
  nm : f.nm.size ≤ maxLen
  hs : ∀ x ∈ f.ws, x.nu.size ≤ maxLen ∧ x.de.size ≤ maxLen
theorem FR.below {w w' : World} {A : Option Addr} {n : Nat} {B : Option Addr} {m : Nat} {f : FN} (h : FR w A n B m f) (hb : Below w.heap.size w w') : FR w' A n B m f := ⟨h.ws.below hb, h.so.below hb, h.hn, h.hm, h.nm, h.hs⟩
theorem sl_int3 : SlT Tryd.prog 22 3 1 8 := slT_of (z := .int .i64 0) Tryd.underlying22 (by kernel_rfl) rfl (by omega)
set_option maxRecDepth 100000 in
set_option maxHeartbeats 8000000 in
theorem fvalid_c (A : Option Addr) (n c : Nat) (B : Option Addr) (m d : Nat) (f : FN) (b0 b1 b2 b3 b4 b5 b6 : Int) (w : World) (hb : f.bk = [b0, b1, b2, b3, b4, b5, b6]) (h : FR w A n B m f) :
    Calls Tryd.prog 25 #[fnV A n c B m d f.nm b0 b1 b2 b3 b4 b5 b6] w fun e w' => e = .returned (.int .i64 (Fn.fErr f)) ∧ Below w.heap.size w w' := by
  obtain ⟨hA, hB, hn, hm, hz, hs⟩ := h
  have hml := hB.len
  have HN := Lib.hid (fun W => fname_c f.nm W hz)
  have hX := Blk.new w 28 #[.string f.nm, .slice A n c, .int .i64 b0, .int .i64 b1, .int .i64 b2, .int .i64 b3, .int .i64 b4, .int .i64 b5, .int .i64 b6, .slice B m d]
  have hbw : Below w.heap.size w (w.alloc (.cells #[.string f.nm, .slice A n c, .int .i64 b0, .int .i64 b1, .int .i64 b2, .int .i64 b3, .int .i64 b4, .int .i64 b5, .int .i64 b6, .slice B m d] 28)) := (Below.refl _ _).alloc (Nat.le_refl _) _
  have HT := Lib.hid (total_c A n c f.ws _ hn (hA.below hbw) hs)
  have HB := Lib.hid hB
  have Hbk := Lib.hid hb
  have Hml := Lib.hid hml
  unfold maxLen at hm
  obtain ⟨W1, hW1⟩ : ∃ W1, w.alloc (.cells #[.string f.nm, .slice A n c, .int .i64 b0, .int .i64 b1, .int .i64 b2, .int .i64 b3, .int .i64 b4, .int .i64 b5, .int .i64 b6, .slice B m d] 28) = W1 := ⟨_, rfl⟩
  have hW1s : W1.heap.size = w.heap.size + 1 := by rw [← hW1]; simp
  rw [hW1] at hX hbw HT
  have x0 : W1.cell? ⟨w.heap.size, 0, none⟩ = some (.string f.nm) := hX.cell 0
  have x1 : W1.cell? ⟨w.heap.size, 1, none⟩ = some (.slice A n c) := hX.cell 1
  clear hA hB hs hb hml
  go_enter Tryd.func25, Tryd.ntmps25
  unfold fnV
  go_wp2_with fail
  refine (HN.out _).mono ?_
  rintro e w1 ⟨rfl, rfl⟩
  cases hnm : Pl.nameOk f.nm with
  | false =>
    have Hr := Lib.hid (Fn.fErr_name hnm)
    clear hnm
    go_wp2_with fail
    go_ret
    exact ⟨retv Hr.out.symm, hbw⟩
  | true =>
    have Hnm := Lib.hid hnm
    clear hnm
    go_wp2_with fail
    refine HT.out.mono ?_
    rintro e w2 ⟨⟨p1, p2, p3, rfl⟩, hb2⟩
    have hX2 := hX.below hb2 hX.lt
    have hb2' := hbw.trans (hb2.mono (by omega))
    clear HT HN hX x0 x1
    by_cases he : Fn.wsErr f.ws = 0
    case neg =>
      have de : (Fn.wsErr f.ws != 0) = true := by simp [he]
      have Hr := Lib.hid (Fn.fErr_ws Hnm.out he)
      clear he
      go_wp2_with fail
      go_ret
      exact ⟨retv Hr.out.symm, hb2'⟩
    case pos =>
      have de : (Fn.wsErr f.ws != 0) = false := by simp [he]
      have He := Lib.hid he
      clear he
      have x2 : w2.cell? ⟨w.heap.size, 2, none⟩ = some (.int .i64 b0) := hX2.cell 2
      have x3 : w2.cell? ⟨w.heap.size, 3, none⟩ = some (.int .i64 b1) := hX2.cell 3
      have x4 : w2.cell? ⟨w.heap.size, 4, none⟩ = some (.int .i64 b2) := hX2.cell 4
      have x5 : w2.cell? ⟨w.heap.size, 5, none⟩ = some (.int .i64 b3) := hX2.cell 5
      have x6 : w2.cell? ⟨w.heap.size, 6, none⟩ = some (.int .i64 b4) := hX2.cell 6
      have x7 : w2.cell? ⟨w.heap.size, 7, none⟩ = some (.int .i64 b5) := hX2.cell 7
      have x8 : w2.cell? ⟨w.heap.size, 8, none⟩ = some (.int .i64 b6) := hX2.cell 8
      have x9 : w2.cell? ⟨w.heap.size, 9, none⟩ = some (.slice B m d) := hX2.cell 9
      by_cases hbig : 16 < m
      · have d1 : decide ((16 : Int) < (m : Int)) = true := decide_eq_true (by omega)
        have d1' : decide (16 < m) = true := decide_eq_true hbig
        have Hr := Lib.hid (Fn.fErr_lim Hnm.out He.out (by rw [Hml.out]; exact hbig))
        clear hbig
        go_wp2_with fail
        go_ret
        exact ⟨retv Hr.out.symm, hb2'⟩
      have d1 : decide ((16 : Int) < (m : Int)) = false := decide_eq_false (by omega)
      have d1' : decide (16 < m) = false := decide_eq_false hbig
      have Hr := Lib.hid (Fn.fErr_end Hnm.out He.out (by rw [Hml.out]; exact hbig))
      have hm16 : m ≤ 16 := by omega
      clear hbig
      go_wp2_with fail
      refine (fnumbers_c b0 b1 b2 b3 b4 b5 b6 w2).mono ?_
      rintro e w3 ⟨v, rfl, own3, hb3⟩
      have hX3 := hX2.below hb3 hX2.lt
      have x9' : w3.cell? ⟨w.heap.size, 9, none⟩ = some (.slice B m d) := hX3.cell 9
      have HB2 := Lib.hid (HB.out.below hb2')
      have hsz2 : w.heap.size + 1 ≤ w2.heap.size := by have := hb2.size; omega
      have hsz3 := hb3.size
      rw [← Hbk.out] at own3
      clear x2 x3 x4 x5 x6 x7 x8 x9 hX2 hb2 HB
      go_wp2_with fail
      go_loopw [7, 37] (fun vl vi wr => ∃ t : Nat, t ≤ m ∧ vi = .int .i64 (t : Int) ∧ wr.ownsRow w2.heap.size 3 1 vl (7 + 3 * t) ((f.bk ++ (f.so.take t).flatMap Fn.soL).map (Value.int .i64)) ∧ Below w2.heap.size w2 wr) (fun _ vi _ => m - (intOf vi).toNat)
      case atStart => exact ⟨0, by omega, rfl, by simpa using own3, hb3⟩
      case round =>
        obtain ⟨t, ht, rfl, own, hbr⟩ := hrel
        clear own3
        obtain ⟨Al, cl, rfl, hcl1, hcl2⟩ := own_form own
        have hle := hbr.size
        by_cases hlt : t < m
        · have hti : (t : Int) < (m : Int) := by omega
          obtain ⟨ad, x, rfl, _, hp, c0, c1, c2⟩ := (HB2.out.below hbr).at_ hlt
          have Hst := Lib.hid (Fn.so_take hp)
          clear hp
          have own1 := own.alloc (.cells #[.int .i64 x.st, .int .i64 x.wg, .int .i64 x.gr] 39)
          have hb1 := hbr.alloc hbr.size (.cells #[.int .i64 x.st, .int .i64 x.wg, .int .i64 x.gr] 39)
          go_wp2_with (at_builtin
                       go_must (
                       refine wpList_pushb sl_int3 rfl (.tmp 41) (.tmp 48) rfl w2.heap.size _ _ _ rfl own1 3 3 (wr.heap.size + 1) (by simp) rfl rfl rfl (by simp only [maxLen]; omega) (by omega) (by simp; omega) ?_
                       intro v' w5 own5 hgr
                       have hb5 := hb1.trans ((hgr.below (own_ge own1) (by simp; omega)))))
          go_roundw
          case rel => exact ⟨t + 1, by omega, by go_num, by rw [Hst.out, ← List.append_assoc, List.map_append]; exact own5, hb5⟩
          case measure => simp [intOf]; omega
        · obtain rfl : t = m := by omega
          have hnums : f.bk ++ (f.so.take t).flatMap Fn.soL = Fn.nums f := by unfold Fn.nums; rw [List.take_of_length_le (by rw [Hml.out]; exact Nat.le_refl _)]
          rw [hnums] at own
          have hI := own_IR own
          obtain ⟨N, hN⟩ : ∃ N, 7 + 3 * t = N := ⟨_, rfl⟩
          have hN2 : N ≤ 60 := by omega
          rw [hN] at hI hcl1
          have hIl := hI.len
          have HI := Lib.hid hI
          have HIl := Lib.hid hIl
          have hbf := below_step hb2' hbr
          clear hnums own hI hIl hbr
          rw [hN]
          clear hN
          go_wp2_with fail
          go_loop [53] (fun vi => ∃ i : Nat, i ≤ N ∧ vi = .int .i64 (i : Int) ∧ Hid (∀ j, j < i → Fn.inside ((Fn.nums f).getD j 0) = true)) (fun vi => N - (intOf vi).toNat)
          case atStart => exact ⟨0, by omega, rfl, Lib.hid (fun i hi => by omega)⟩
          case round =>
            obtain ⟨i, hi, rfl, HA⟩ := hrel
            by_cases hlt2 : i < N
            · have hii : (i : Int) < (N : Int) := by omega
              obtain ⟨ad, rfl, hc⟩ := ir_at HI.out hlt2
              have Hb : Hid (Fn.inside ((Fn.nums f).getD i 0) = false → (Fn.nums f).all Fn.inside = false) := Lib.hid (fun h => inside_no (by rw [HIl.out]; exact hlt2) h)
              obtain ⟨x, hx⟩ : ∃ x, (Fn.nums f).getD i 0 = x := ⟨_, rfl⟩
              have Hx := Lib.hid hx
              rw [hx] at hc Hb
              clear hx
              by_cases h1 : x < 0
              · have e1 : decide (x < 0) = true := decide_eq_true h1
                have Hv := Lib.hid (Hr.out.trans (if_pos (Hb.out (by unfold Fn.inside; rw [decide_eq_false (by omega)]; rfl))))
                clear h1
                go_wp2_with fail
                go_ret
                exact ⟨retv Hv.out.symm, hbf⟩
              · have e1 : decide (x < 0) = false := decide_eq_false h1
                by_cases h2 : 1000000 < x
                · have e2 : decide (1000000 < x) = true := decide_eq_true h2
                  have Hv := Lib.hid (Hr.out.trans (if_pos (Hb.out (by unfold Fn.inside; rw [decide_eq_false (show ¬ x ≤ 1000000 by omega), Bool.and_false]))))
                  clear h1 h2
                  go_wp2_with fail
                  go_ret
                  exact ⟨retv Hv.out.symm, hbf⟩
                · have e2 : decide (1000000 < x) = false := decide_eq_false h2
                  have Hin : Hid (Fn.inside x = true) := Lib.hid (by unfold Fn.inside; rw [decide_eq_true (show 0 ≤ x by omega), decide_eq_true (show x ≤ 1000000 by omega)]; rfl)
                  clear h1 h2
                  go_wp2_with fail
                  go_round
                  case rel => exact ⟨i + 1, by omega, by go_num, Lib.hid (fun j hj => by
                    rcases Nat.lt_or_ge j i with h' | h'
                    · exact HA.out j h'
                    · obtain rfl : j = i := by omega
                      rw [Hx.out]; exact Hin.out)⟩
                  case measure => simp [intOf]; omega
            · obtain rfl : i = N := by omega
              have Hv := Lib.hid (Hr.out.trans (if_neg (by rw [inside_all (l := Fn.nums f) (fun j hj => HA.out j (by rw [← HIl.out]; exact hj))]; decide)))
              go_wp2_with fail
              go_ret
              exact ⟨retv Hv.out.symm, hbf⟩
def RvI (f : FN) (m : Nat) (w3 : World) (vo vi : Value) (wr : World) : Prop := ∃ (t : Nat) (ok : Bool), t ≤ m ∧ vi = .int .i64 (t : Int) ∧ vo = .bool ok ∧ Hid (ok = (f.bk ++ (f.so.take t).flatMap Fn.soL).all Fn.inside) ∧ Below w3.heap.size w3 wr
set_option maxRecDepth 100000 in
set_option maxHeartbeats 8000000 in
theorem rfvalid_c (A : Option Addr) (n c : Nat) (B : Option Addr) (m d : Nat) (f : FN) (b0 b1 b2 b3 b4 b5 b6 : Int) (w : World) (hb : f.bk = [b0, b1, b2, b3, b4, b5, b6]) (h : FR w A n B m f) :
    Calls Tryd.prog 26 #[fnV A n c B m d f.nm b0 b1 b2 b3 b4 b5 b6] w fun e w' => e = .returned (.int .i64 (Fn.fErr f)) ∧ Below w.heap.size w w' := by
  obtain ⟨hA, hB, hn, hm, hz, hs⟩ := h
  have hml := hB.len
  have HN := Lib.hid (fun W => name06_c f.nm W hz)
  have hX := Blk.new w 28 #[.string f.nm, .slice A n c, .int .i64 b0, .int .i64 b1, .int .i64 b2, .int .i64 b3, .int .i64 b4, .int .i64 b5, .int .i64 b6, .slice B m d]
  have hbw : Below w.heap.size w (w.alloc (.cells #[.string f.nm, .slice A n c, .int .i64 b0, .int .i64 b1, .int .i64 b2, .int .i64 b3, .int .i64 b4, .int .i64 b5, .int .i64 b6, .slice B m d] 28)) := (Below.refl _ _).alloc (Nat.le_refl _) _
  have HT := Lib.hid (rlist_c A n c f.ws _ hn (hA.below hbw) hs)
  have HB := Lib.hid hB
  have Hbk := Lib.hid hb
  have Hml := Lib.hid hml
  unfold maxLen at hm
  obtain ⟨W1, hW1⟩ : ∃ W1, w.alloc (.cells #[.string f.nm, .slice A n c, .int .i64 b0, .int .i64 b1, .int .i64 b2, .int .i64 b3, .int .i64 b4, .int .i64 b5, .int .i64 b6, .slice B m d] 28) = W1 := ⟨_, rfl⟩
  have hW1s : W1.heap.size = w.heap.size + 1 := by rw [← hW1]; simp
  rw [hW1] at hX hbw HT
  have x0 : W1.cell? ⟨w.heap.size, 0, none⟩ = some (.string f.nm) := hX.cell 0
  have x1 : W1.cell? ⟨w.heap.size, 1, none⟩ = some (.slice A n c) := hX.cell 1
  clear hA hB hs hb hml
  go_enter Tryd.func26, Tryd.ntmps26
  unfold fnV
  go_wp2_with fail
  refine (HN.out _).mono ?_
  rintro e w1 ⟨rfl, rfl⟩
  cases hnm : Pl.nameOk f.nm with
  | false =>
    have Hr := Lib.hid (Fn.fErr_name hnm)
    clear hnm
    go_wp2_with fail
    go_ret
    exact ⟨retv Hr.out.symm, hbw⟩
  | true =>
    have Hnm := Lib.hid hnm
    clear hnm
    go_wp2_with fail
    refine HT.out.mono ?_
    rintro e w2 ⟨rfl, hb2⟩
    have hX2 := hX.below hb2 hX.lt
    have hb2' := hbw.trans (hb2.mono (by omega))
    clear HT HN hX x0 x1
    by_cases he : Fn.wsErr f.ws = 0
    case neg =>
      have de : (Fn.wsErr f.ws != 0) = true := by simp [he]
      have Hr := Lib.hid (Fn.fErr_ws Hnm.out he)
      clear he
      go_wp2_with fail
      go_ret
      exact ⟨retv Hr.out.symm, hb2'⟩
    case pos =>
      have de : (Fn.wsErr f.ws != 0) = false := by simp [he]
      have He := Lib.hid he
      clear he
      have x2 : w2.cell? ⟨w.heap.size, 2, none⟩ = some (.int .i64 b0) := hX2.cell 2
      have x3 : w2.cell? ⟨w.heap.size, 3, none⟩ = some (.int .i64 b1) := hX2.cell 3
      have x4 : w2.cell? ⟨w.heap.size, 4, none⟩ = some (.int .i64 b2) := hX2.cell 4
      have x5 : w2.cell? ⟨w.heap.size, 5, none⟩ = some (.int .i64 b3) := hX2.cell 5
      have x6 : w2.cell? ⟨w.heap.size, 6, none⟩ = some (.int .i64 b4) := hX2.cell 6
      have x7 : w2.cell? ⟨w.heap.size, 7, none⟩ = some (.int .i64 b5) := hX2.cell 7
      have x8 : w2.cell? ⟨w.heap.size, 8, none⟩ = some (.int .i64 b6) := hX2.cell 8
      have x9 : w2.cell? ⟨w.heap.size, 9, none⟩ = some (.slice B m d) := hX2.cell 9
      by_cases hbig : 16 < m
      · have d1 : decide ((16 : Int) < (m : Int)) = true := decide_eq_true (by omega)
        have d1' : decide (16 < m) = true := decide_eq_true hbig
        have Hr := Lib.hid (Fn.fErr_lim Hnm.out He.out (by rw [Hml.out]; exact hbig))
        clear hbig
        go_wp2_with fail
        go_ret
        exact ⟨retv Hr.out.symm, hb2'⟩
      have d1 : decide ((16 : Int) < (m : Int)) = false := decide_eq_false (by omega)
      have d1' : decide (16 < m) = false := decide_eq_false hbig
      have Hr := Lib.hid (Fn.fErr_end Hnm.out He.out (by rw [Hml.out]; exact hbig))
      have hm16 : m ≤ 16 := by omega
      clear hbig
      go_wp2_with fail
      refine (rnumbers_c b0 b1 b2 b3 b4 b5 b6 w2).mono ?_
      rintro e w3 ⟨v, rfl, own3, hb3⟩
      have hX3 := hX2.below hb3 hX2.lt
      have x9' : w3.cell? ⟨w.heap.size, 9, none⟩ = some (.slice B m d) := hX3.cell 9
      have hb3' := below_step hb2' hb3
      have HB3 := Lib.hid (HB.out.below hb3')
      rw [← Hbk.out] at own3
      obtain ⟨Al, cl, rfl, hcl1, hcl2⟩ := own_form own3
      have HC := Lib.hid (inside_c Al 7 cl f.bk w3 (by decide) (own_IR own3))
      clear x2 x3 x4 x5 x6 x7 x8 x9 hX2 hb2 HB own3
      go_wp2_with fail
      refine HC.out.mono ?_
      rintro e w4 ⟨rfl, rfl⟩
      go_wp2_with fail
      go_loopw [4, 5] (fun vo vi wr => RvI f m w3 vo vi wr) (fun _ vi _ => m - (intOf vi).toNat)
      case atStart => exact (show RvI _ _ _ _ _ _ from ⟨0, _, by omega, rfl, rfl, Lib.hid (by simp), Below.refl _ _⟩)
      case round =>
        obtain ⟨t, ok, ht, rfl, rfl, Hok, hbr⟩ := hrel
        have x9 : wr.cell? ⟨w.heap.size, 9, none⟩ = some (.slice B m d) := keep_cell hbr x9'
        by_cases hlt : t < m
        · have hti : (t : Int) < (m : Int) := by omega
          obtain ⟨ad, x, rfl, _, hp, c0, c1, c2⟩ := (HB3.out.below hbr).at_ hlt
          have Hst := Lib.hid (Fn.so_take hp)
          clear hp
          cases ok with
          | false =>
            have Hok2 : Hid (false = (f.bk ++ (f.so.take (t + 1)).flatMap Fn.soL).all Fn.inside) := Lib.hid (by rw [Hst.out, ← List.append_assoc, List.all_append, ← Hok.out]; rfl)
            go_wp2_with fail
            go_region
            all_goals
              go_wp2_with fail
              go_roundw
              case rel => exact (show RvI _ _ _ _ _ _ from ⟨t + 1, false, by omega, by go_num, rfl, Hok2, hbr.drew⟩)
              case measure => simp [intOf]; omega
          | true =>
            have Hok2 : Hid (([x.st, x.wg, x.gr]).all Fn.inside = (f.bk ++ (f.so.take (t + 1)).flatMap Fn.soL).all Fn.inside) := Lib.hid (by rw [Hst.out, ← List.append_assoc, List.all_append, ← Hok.out]; rfl)
            have hbd := hbr.drew
            go_wp2_with fail
            go_still_tail 20, (by kernel_rfl)
            change wpList _ _ _ _ _ wr.drew
            generalize wr.drew = w9 at hbd
            have HI := Lib.hid (inside_c (some ⟨w9.heap.size, 0, none⟩) 3 3 [x.st, x.wg, x.gr] (w9.alloc (.cells #[.int .i64 x.st, .int .i64 x.wg, .int .i64 x.gr] 3)) (by decide) (IR.new [x.st, x.wg, x.gr] 3 rfl rfl (by decide)))
            go_wp2_with fail
            refine HI.out.mono ?_
            rintro e w5 ⟨rfl, rfl⟩
            go_wp2_with fail
            go_roundw
            case rel => exact (show RvI _ _ _ _ _ _ from ⟨t + 1, ([x.st, x.wg, x.gr]).all Fn.inside, by omega, by go_num, by simp, Hok2, hbd.alloc hbd.size _⟩)
            case measure => simp [intOf]; omega
        · obtain rfl : t = m := by omega
          have hnums : f.bk ++ (f.so.take t).flatMap Fn.soL = Fn.nums f := by unfold Fn.nums; rw [List.take_of_length_le (by rw [Hml.out]; exact Nat.le_refl _)]
          have Hn := Lib.hid hnums
          have hbf := below_step hb3' hbr
          clear hnums
          cases ok with
          | false =>
            have Hv := Lib.hid (Hr.out.trans (if_pos (by rw [← Hn.out]; exact Hok.out.symm)))
            go_wp2_with fail
            go_ret
            exact ⟨retv Hv.out.symm, hbf⟩
          | true =>
            have Hv := Lib.hid (Hr.out.trans (if_neg (by rw [← Hn.out, ← Hok.out]; decide)))
            go_wp2_with fail
            go_ret
            exact ⟨retv Hv.out.symm, hbf⟩
end Go.Proofs.YtiegpkbollihgaaDoor
