/- The walks of the comparison of two sheets, and of yardgen's Place. -/
import Derived.Test.YtiegpkbollihgaaDoorFnW7
import Derived.Test.YtiegpkbollihgaaDoorMaker
import Derived.Deep.QuietTactic
import Derived.BigQuiet
namespace Go.Proofs.YtiegpkbollihgaaDoor
open Go.RowKit
set_option maxHeartbeats 2000000 in
theorem sameSO_c (A B : Option Addr) (n m c d : Nat) (l : List SO) (w : World) (hn : n ≤ maxLen) (ha : SR w A n l) (hb : SR w B m l) :
    Calls Tryd.prog 54 #[.slice A n c, .slice B m d] w fun e w' => e = .returned (.bool true) ∧ Below w.heap.size w w' := by
  unfold maxLen at hn
  obtain rfl : m = n := by rw [← ha.len, ← hb.len]
  go_enter Tryd.func54, Tryd.ntmps54
  go_wp2_with fail
  go_loopw [5] (fun p wr => ∃ k : Nat, k ≤ m ∧ p = .int .i64 k ∧ Below w.heap.size w wr) (fun p _ => m - (intOf p).toNat)
  case atStart => exact ⟨0, by omega, rfl, Below.refl _ _⟩
  case round =>
    obtain ⟨k, hk, rfl, hbr⟩ := hrel
    by_cases hlt : k < m
    · obtain ⟨ad, p, rfl, _, hp, c0, c1, c2⟩ := (ha.below hbr).at_ hlt
      obtain ⟨bd, q, rfl, _, hq, d0, d1, d2⟩ := (hb.below hbr).at_ hlt
      obtain rfl := Option.some.inj (hp.symm.trans hq)
      have hlti : (k : Int) < (m : Int) := by omega
      go_wp2_with fail
      go_region
      all_goals
        go_wp2_with fail
        go_roundw
        case rel => exact ⟨k + 1, by omega, by go_num, hbr.drew⟩
        case measure => simp [intOf]; omega
    · obtain rfl : k = m := by omega
      go_wp2_with fail
      go_ret
      exact ⟨rfl, hbr⟩
set_option maxRecDepth 100000 in
set_option maxHeartbeats 8000000 in
theorem sameFinal_c (A A' : Option Addr) (n n' c c' : Nat) (B B' : Option Addr) (m m' d d' : Nat) (f : FN) (b0 b1 b2 b3 b4 b5 b6 : Int) (w : World) (ha : FR w A n B m f) (hb : FR w A' n' B' m' f) :
    Calls Tryd.prog 32 #[fnV A n c B m d f.nm b0 b1 b2 b3 b4 b5 b6, fnV A' n' c' B' m' d' f.nm b0 b1 b2 b3 b4 b5 b6] w fun e w' => e = .returned (.bool true) ∧ Below w.heap.size w w' := by
  obtain rfl : n = n' := by rw [← ha.ws.len, ← hb.ws.len]
  obtain rfl : m = m' := by rw [← ha.so.len, ← hb.so.len]
  have hn := ha.hn
  have hm := ha.hm
  unfold maxLen at hn
  obtain ⟨W1, hW1⟩ : ∃ W1, w.alloc (.cells #[.string f.nm, .slice A n c, .int .i64 b0, .int .i64 b1, .int .i64 b2, .int .i64 b3, .int .i64 b4, .int .i64 b5, .int .i64 b6, .slice B m d] 28) = W1 := ⟨_, rfl⟩
  have hA1 : Blk W1 w.heap.size 28 #[.string f.nm, .slice A n c, .int .i64 b0, .int .i64 b1, .int .i64 b2, .int .i64 b3, .int .i64 b4, .int .i64 b5, .int .i64 b6, .slice B m d] := by rw [← hW1]; exact Blk.new w _ _
  have hs1 : W1.heap.size = w.heap.size + 1 := by rw [← hW1]; simp
  have hb1 : Below w.heap.size w W1 := by rw [← hW1]; exact (Below.refl _ _).alloc (Nat.le_refl _) _
  obtain ⟨W2, hW2⟩ : ∃ W2, W1.alloc (.cells #[.string f.nm, .slice A' n c', .int .i64 b0, .int .i64 b1, .int .i64 b2, .int .i64 b3, .int .i64 b4, .int .i64 b5, .int .i64 b6, .slice B' m d'] 28) = W2 := ⟨_, rfl⟩
  have hA2 : Blk W2 w.heap.size 28 #[.string f.nm, .slice A n c, .int .i64 b0, .int .i64 b1, .int .i64 b2, .int .i64 b3, .int .i64 b4, .int .i64 b5, .int .i64 b6, .slice B m d] := by rw [← hW2]; exact hA1.alloc _
  have hB2 : Blk W2 (w.heap.size + 1) 28 #[.string f.nm, .slice A' n c', .int .i64 b0, .int .i64 b1, .int .i64 b2, .int .i64 b3, .int .i64 b4, .int .i64 b5, .int .i64 b6, .slice B' m d'] := by rw [← hW2, ← hs1]; exact Blk.new W1 _ _
  have hb2 : Below w.heap.size w W2 := by rw [← hW2]; exact hb1.alloc (by omega) _
  have ha2 := ha.below hb2
  have hb2' := hb.below hb2
  have HW := Lib.hid (sameSO_c B B' m m d d' f.so W2 hm ha2.so hb2'.so)
  have x0 : W2.cell? ⟨w.heap.size, 0, none⟩ = some (.string f.nm) := hA2.cell 0
  have x1 : W2.cell? ⟨w.heap.size, 1, none⟩ = some (.slice A n c) := hA2.cell 1
  have x2 : W2.cell? ⟨w.heap.size, 2, none⟩ = some (.int .i64 b0) := hA2.cell 2
  have x3 : W2.cell? ⟨w.heap.size, 3, none⟩ = some (.int .i64 b1) := hA2.cell 3
  have x4 : W2.cell? ⟨w.heap.size, 4, none⟩ = some (.int .i64 b2) := hA2.cell 4
  have x5 : W2.cell? ⟨w.heap.size, 5, none⟩ = some (.int .i64 b3) := hA2.cell 5
  have x6 : W2.cell? ⟨w.heap.size, 6, none⟩ = some (.int .i64 b4) := hA2.cell 6
  have x7 : W2.cell? ⟨w.heap.size, 7, none⟩ = some (.int .i64 b5) := hA2.cell 7
  have x8 : W2.cell? ⟨w.heap.size, 8, none⟩ = some (.int .i64 b6) := hA2.cell 8
  have x9 : W2.cell? ⟨w.heap.size, 9, none⟩ = some (.slice B m d) := hA2.cell 9
  have y0 : W2.cell? ⟨w.heap.size + 1, 0, none⟩ = some (.string f.nm) := hB2.cell 0
  have y1 : W2.cell? ⟨w.heap.size + 1, 1, none⟩ = some (.slice A' n c') := hB2.cell 1
  have y2 : W2.cell? ⟨w.heap.size + 1, 2, none⟩ = some (.int .i64 b0) := hB2.cell 2
  have y3 : W2.cell? ⟨w.heap.size + 1, 3, none⟩ = some (.int .i64 b1) := hB2.cell 3
  have y4 : W2.cell? ⟨w.heap.size + 1, 4, none⟩ = some (.int .i64 b2) := hB2.cell 4
  have y5 : W2.cell? ⟨w.heap.size + 1, 5, none⟩ = some (.int .i64 b3) := hB2.cell 5
  have y6 : W2.cell? ⟨w.heap.size + 1, 6, none⟩ = some (.int .i64 b4) := hB2.cell 6
  have y7 : W2.cell? ⟨w.heap.size + 1, 7, none⟩ = some (.int .i64 b5) := hB2.cell 7
  have y8 : W2.cell? ⟨w.heap.size + 1, 8, none⟩ = some (.int .i64 b6) := hB2.cell 8
  have y9 : W2.cell? ⟨w.heap.size + 1, 9, none⟩ = some (.slice B' m d') := hB2.cell 9
  have Hs1 := Lib.hid hs1
  clear hA1 ha hb
  go_enter Tryd.func32, Tryd.ntmps32
  unfold fnV
  go_wp2_with fail
  refine HW.out.mono ?_
  rintro e w3 ⟨rfl, hb3⟩
  have hA3 := hA2.below hb3 hA2.lt
  have hB3 := hB2.below hb3 hB2.lt
  have ha3 := ha2.below hb3
  have hb3' := hb2'.below hb3
  have hbw := below_step hb2 hb3
  clear x0 y0 x1 y1 x2 y2 x3 y3 x4 y4 x5 y5 x6 y6 x7 y7 x8 y8 x9 y9 hA2 hB2 ha2 hb2' hb2 hs1 hW1 hW2 hb1
  go_wp2_with fail
  go_loopw [5] (fun p wr => ∃ k : Nat, k ≤ n ∧ p = .int .i64 k ∧ Below w3.heap.size w3 wr) (fun p _ => n - (intOf p).toNat)
  case atStart => exact ⟨0, by omega, rfl, Below.refl _ _⟩
  case round =>
    obtain ⟨k, hk, rfl, hbr⟩ := hrel
    have hA4 := hA3.below hbr hA3.lt
    have hB4 := hB3.below hbr hB3.lt
    have u1 : wr.cell? ⟨w.heap.size, 1, none⟩ = some (.slice A n c) := hA4.cell 1
    have v1 : wr.cell? ⟨w.heap.size + 1, 1, none⟩ = some (.slice A' n c') := hB4.cell 1
    by_cases hlt : k < n
    · obtain ⟨ad, p, rfl, _, hp, c0, c1, c2, c3, c4, c5, c6, c7⟩ := (ha3.ws.below hbr).at_ hlt
      obtain ⟨bd, q, rfl, _, hq, d0, d1, d2, d3, d4, d5, d6, d7⟩ := (hb3'.ws.below hbr).at_ hlt
      obtain rfl := Option.some.inj (hp.symm.trans hq)
      have hlti : (k : Int) < (n : Int) := by omega
      have h0k : (0 : Int) ≤ (k : Int) := by omega
      go_wp2_with fail
      go_quiet (fail)
      have hbq := below_drewN hbr nq
      go_wp2_with fail
      go_roundw
      case rel => exact ⟨k + 1, by omega, by go_num, hbq⟩
      case measure => simp [intOf]; omega
    · obtain rfl : k = n := by omega
      go_wp2_with fail
      go_ret
      exact ⟨rfl, below_step hbw hbr⟩
set_option maxRecDepth 100000 in
theorem sameFinals_c (A A' : Option Addr) (n n' c c' : Nat) (B B' : Option Addr) (m m' d d' : Nat) (f : FN) (b0 b1 b2 b3 b4 b5 b6 : Int) (w : World) (ha : FR w A n B m f) (hb : FR w A' n' B' m' f) :
    Calls Tryd.prog 18 #[fnV A n c B m d f.nm b0 b1 b2 b3 b4 b5 b6, fnV A' n' c' B' m' d' f.nm b0 b1 b2 b3 b4 b5 b6] w fun e w' => e = .returned (.bool true) ∧ Below w.heap.size w w' := by
  have HS := Lib.hid (fun W (h : Below w.heap.size w W) => sameFinal_c A A' n n' c c' B B' m m' d d' f b0 b1 b2 b3 b4 b5 b6 W (ha.below h) (hb.below h))
  obtain ⟨W1, hW1⟩ : ∃ W1, w.alloc (.cells #[.string f.nm, .slice A n c, .int .i64 b0, .int .i64 b1, .int .i64 b2, .int .i64 b3, .int .i64 b4, .int .i64 b5, .int .i64 b6, .slice B m d] 28) = W1 := ⟨_, rfl⟩
  have hA1 : Blk W1 w.heap.size 28 #[.string f.nm, .slice A n c, .int .i64 b0, .int .i64 b1, .int .i64 b2, .int .i64 b3, .int .i64 b4, .int .i64 b5, .int .i64 b6, .slice B m d] := by rw [← hW1]; exact Blk.new w _ _
  have hs1 : W1.heap.size = w.heap.size + 1 := by rw [← hW1]; simp
  have hb1 : Below w.heap.size w W1 := by rw [← hW1]; exact (Below.refl _ _).alloc (Nat.le_refl _) _
  obtain ⟨W2, hW2⟩ : ∃ W2, W1.alloc (.cells #[.string f.nm, .slice A' n' c', .int .i64 b0, .int .i64 b1, .int .i64 b2, .int .i64 b3, .int .i64 b4, .int .i64 b5, .int .i64 b6, .slice B' m' d'] 28) = W2 := ⟨_, rfl⟩
  have hA2 : Blk W2 w.heap.size 28 #[.string f.nm, .slice A n c, .int .i64 b0, .int .i64 b1, .int .i64 b2, .int .i64 b3, .int .i64 b4, .int .i64 b5, .int .i64 b6, .slice B m d] := by rw [← hW2]; exact hA1.alloc _
  have hB2 : Blk W2 (w.heap.size + 1) 28 #[.string f.nm, .slice A' n' c', .int .i64 b0, .int .i64 b1, .int .i64 b2, .int .i64 b3, .int .i64 b4, .int .i64 b5, .int .i64 b6, .slice B' m' d'] := by rw [← hW2, ← hs1]; exact Blk.new W1 _ _
  have hb2 : Below w.heap.size w W2 := by rw [← hW2]; exact hb1.alloc (by omega) _
  have x0 : W2.cell? ⟨w.heap.size, 0, none⟩ = some (.string f.nm) := hA2.cell 0
  have x1 : W2.cell? ⟨w.heap.size, 1, none⟩ = some (.slice A n c) := hA2.cell 1
  have x2 : W2.cell? ⟨w.heap.size, 2, none⟩ = some (.int .i64 b0) := hA2.cell 2
  have x3 : W2.cell? ⟨w.heap.size, 3, none⟩ = some (.int .i64 b1) := hA2.cell 3
  have x4 : W2.cell? ⟨w.heap.size, 4, none⟩ = some (.int .i64 b2) := hA2.cell 4
  have x5 : W2.cell? ⟨w.heap.size, 5, none⟩ = some (.int .i64 b3) := hA2.cell 5
  have x6 : W2.cell? ⟨w.heap.size, 6, none⟩ = some (.int .i64 b4) := hA2.cell 6
  have x7 : W2.cell? ⟨w.heap.size, 7, none⟩ = some (.int .i64 b5) := hA2.cell 7
  have x8 : W2.cell? ⟨w.heap.size, 8, none⟩ = some (.int .i64 b6) := hA2.cell 8
  have x9 : W2.cell? ⟨w.heap.size, 9, none⟩ = some (.slice B m d) := hA2.cell 9
  have y0 : W2.cell? ⟨w.heap.size + 1, 0, none⟩ = some (.string f.nm) := hB2.cell 0
  have y1 : W2.cell? ⟨w.heap.size + 1, 1, none⟩ = some (.slice A' n' c') := hB2.cell 1
  have y2 : W2.cell? ⟨w.heap.size + 1, 2, none⟩ = some (.int .i64 b0) := hB2.cell 2
  have y3 : W2.cell? ⟨w.heap.size + 1, 3, none⟩ = some (.int .i64 b1) := hB2.cell 3
  have y4 : W2.cell? ⟨w.heap.size + 1, 4, none⟩ = some (.int .i64 b2) := hB2.cell 4
  have y5 : W2.cell? ⟨w.heap.size + 1, 5, none⟩ = some (.int .i64 b3) := hB2.cell 5
  have y6 : W2.cell? ⟨w.heap.size + 1, 6, none⟩ = some (.int .i64 b4) := hB2.cell 6
  have y7 : W2.cell? ⟨w.heap.size + 1, 7, none⟩ = some (.int .i64 b5) := hB2.cell 7
  have y8 : W2.cell? ⟨w.heap.size + 1, 8, none⟩ = some (.int .i64 b6) := hB2.cell 8
  have y9 : W2.cell? ⟨w.heap.size + 1, 9, none⟩ = some (.slice B' m' d') := hB2.cell 9
  unfold fnV at HS
  clear hA1 ha hb
  go_enter Tryd.func18, Tryd.ntmps18
  unfold fnV
  go_wp2_with fail
  refine (HS.out W2 hb2).mono ?_
  rintro e w3 ⟨rfl, hb3⟩
  have hbw := hb2.trans (hb3.mono hb2.size)
  go_wp2_with fail
  go_ret
  exact ⟨rfl, hbw⟩
theorem place_c (v n : Int) (w : World) (hn : 1 ≤ n ∧ n ≤ 1000000) :
    Calls Tryd.prog 22 #[.int .i64 v, .int .i64 n] w fun e w' => (∃ k : Int, e = .returned (.int .i64 k) ∧ 0 ≤ k ∧ k < n) ∧ w = w' := by
  have d0 : decide (n < 1) = false := decide_eq_false (by omega)
  have hz : (n == 0) = false := by simp; omega
  have hb := tmod_bd v n (by omega)
  obtain ⟨t, ht⟩ : ∃ t, v.tmod n = t := ⟨_, rfl⟩
  rw [ht] at hb
  by_cases h0 : t < 0
  · have d1 : decide (t < 0) = true := decide_eq_true h0
    go_enter Tryd.func22, Tryd.ntmps22
    go_wp2_with fail
    go_ret
    exact ⟨⟨_, rfl, by omega, by omega⟩, rfl⟩
  · have d1 : decide (t < 0) = false := decide_eq_false h0
    go_enter Tryd.func22, Tryd.ntmps22
    go_wp2_with fail
    go_ret
    exact ⟨⟨_, rfl, by omega, by omega⟩, rfl⟩
end Go.Proofs.YtiegpkbollihgaaDoor
