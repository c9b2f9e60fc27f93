/- The walk of the reference's Format. -/
import Derived.Test.YtkkpkekkaoccbaaDoorPlF0
import Derived.Deep.RegionHeld3
import Derived.Deep.DrawnRows
namespace Go.Proofs.YtkkpkekkaoccbaaDoor
open Go.RowKit
theorem fmt_track (p : List UInt8) (x : PE) (h : x.k = 1) : bOf p ++ ((⟨#[116, 114, 97, 99, 107, 32]⟩ : ByteArray) ++ (x.nm ++ ⟨#[32]⟩ ++ bOf (Lib.itoa x.a) ++ ⟨#[32]⟩ ++ bOf (Lib.itoa x.b)) ++ ⟨#[32]⟩ ++ bOf (Lib.itoa x.len) ++ ⟨#[10]⟩) = bOf (p ++ Pl.lineF x) := by
  have he : Pl.nums x = [x.a, x.b, x.len] := by unfold Pl.nums Pl.ends; rw [if_pos (by omega), if_pos h]; rfl
  have hw : Pl.kindW x.k = [116, 114, 97, 99, 107] := by rw [h]; rfl
  unfold Pl.lineF
  rw [he, hw]
  apply ByteArray.ext
  simp [bOf, Pl.sp]
theorem fmt_switch (p : List UInt8) (x : PE) (h : x.k = 2) : bOf p ++ ((⟨#[115, 119, 105, 116, 99, 104, 32]⟩ : ByteArray) ++ (x.nm ++ ⟨#[32]⟩ ++ bOf (Lib.itoa x.a) ++ ⟨#[32]⟩ ++ bOf (Lib.itoa x.b)) ++ ⟨#[32]⟩ ++ bOf (Lib.itoa x.c) ++ ⟨#[10]⟩) = bOf (p ++ Pl.lineF x) := by
  have he : Pl.nums x = [x.a, x.b, x.c] := by unfold Pl.nums Pl.ends; rw [if_neg (by omega), if_pos h, if_neg (by omega)]; rfl
  have hw : Pl.kindW x.k = [115, 119, 105, 116, 99, 104] := by rw [h]; rfl
  unfold Pl.lineF
  rw [he, hw]
  apply ByteArray.ext
  simp [bOf, Pl.sp]
theorem fmt_derailer (p : List UInt8) (x : PE) (h : x.k = 3) : bOf p ++ ((⟨#[100, 101, 114, 97, 105, 108, 101, 114, 32]⟩ : ByteArray) ++ (x.nm ++ ⟨#[32]⟩ ++ bOf (Lib.itoa x.a) ++ ⟨#[32]⟩ ++ bOf (Lib.itoa x.b)) ++ ⟨#[10]⟩) = bOf (p ++ Pl.lineF x) := by
  have he : Pl.nums x = [x.a, x.b] := by unfold Pl.nums Pl.ends; rw [if_pos (by omega), if_neg (by omega)]; rfl
  have hw : Pl.kindW x.k = [100, 101, 114, 97, 105, 108, 101, 114] := by rw [h]; rfl
  unfold Pl.lineF
  rw [he, hw]
  apply ByteArray.ext
  simp [bOf, Pl.sp]
theorem itoa_size (n : Int) (h0 : 0 ≤ n) (h1 : n ≤ 100000) : (bOf (Lib.itoa n)).size ≤ 21 := by
  rw [bOf_size]
  exact Lib.itoa_length_le n (by omega) (by omega)
theorem keepS {w W W' : World} {b t : Nat} {cs : Array Value} {v1 v2 v3 : Value} (h : (Blk W b t cs ∧ Below w.heap.size w W) ∧ W.cell? ⟨b, 1, none⟩ = some v1 ∧ W.cell? ⟨b, 2, none⟩ = some v2 ∧ W.cell? ⟨b, 3, none⟩ = some v3) (hb : Below W.heap.size W W') :
    (Blk W' b t cs ∧ Below w.heap.size w W') ∧ W'.cell? ⟨b, 1, none⟩ = some v1 ∧ W'.cell? ⟨b, 2, none⟩ = some v2 ∧ W'.cell? ⟨b, 3, none⟩ = some v3 := by
  obtain ⟨⟨h1, h2⟩, h3, h4, h5⟩ := h
  exact ⟨⟨h1.below hb h1.lt, below_step h2 hb⟩, keep_cell hb h3, keep_cell hb h4, keep_cell hb h5⟩
set_option maxRecDepth 100000 in
set_option maxHeartbeats 4000000 in
theorem rformat_c (A : Option Addr) (n c : Nat) (l : List PE) (w : World) (hn : n ≤ maxLen) (h : PR6 w A n l) (hs : ∀ x ∈ l, x.nm.size ≤ maxLen) :
    Calls Tryd.prog 9 #[.slice A n c] w (FormatR l w) := by
  have hmx := hn
  unfold maxLen at hn
  have hl := h.len
  have HV := Lib.hid (rvalid_c A n c l w hmx h hs)
  clear hs
  by_cases h0 : Pl.vErr l = 0
  · have Hz := Lib.hid h0
    have hz := Pl.vErr_zero h0
    have hn96 : n ≤ 96 := by omega
    have Hs := Lib.hid hz.2
    have d3 : (Pl.vErr l != 0) = false := by simp [h0]
    clear h0 hz
    have HL := Lib.hid hl
    clear hl
    go_enter Tryd.func9, Tryd.ntmps9
    go_wp2_with fail
    refine HV.out.mono ?_
    rintro e w1 ⟨rfl, hb1⟩
    go_wp2_with fail
    go_loopw [5, 6] (fun vo vi wr => ∃ i : Nat, i ≤ n ∧ vi = .int .i64 i ∧ vo = .string (bOf (Pl.fmtL (l.take i))) ∧ Below w.heap.size w wr) (fun _ vi _ => n - (intOf vi).toNat)
    case atStart => exact ⟨0, by omega, rfl, rfl, hb1⟩
    case round =>
      obtain ⟨i, hin, rfl, rfl, hbr⟩ := hrel
      by_cases hlt : i < n
      · obtain ⟨ad, x, rfl, hba, hp, c0, c1, c2, c3, c4, c5⟩ := (h.below hbr).at_ (i := i) hlt
        have hx := Hs.out x (List.mem_of_getElem? hp)
        obtain ⟨hk, hnm, ⟨a0, a1⟩, ⟨b0, b1⟩, ⟨e0, e1⟩, l0, l1⟩ := Pl.sound_bd hx
        have za := itoa_size x.a a0 (by omega)
        have zb := itoa_size x.b b0 (by omega)
        have zc := itoa_size x.c e0 (by omega)
        have zl := itoa_size x.len l0 (by omega)
        have zp : (bOf (Pl.fmtL (l.take i))).size ≤ 9600 := by
          rw [bOf_size]
          have := Pl.fmtL_len (l.take i) (fun y hy => Hs.out y (List.mem_of_mem_take hy))
          have h2 : (l.take i).length ≤ i := List.length_take_le _ _
          omega
        have hlti : (i : Int) < (n : Int) := by omega
        have Hp := Lib.hid hp
        have HD : Hid (∀ (m : Int) (W : World), 0 ≤ m → m ≤ 100000 → ((Blk W wr.heap.size 40 #[.int .i64 x.k, .string x.nm, .int .i64 x.a, .int .i64 x.b, .int .i64 x.c, .int .i64 x.len] ∧ Below w.heap.size w W) ∧ W.cell? ⟨wr.heap.size, 1, none⟩ = some (.string x.nm) ∧ W.cell? ⟨wr.heap.size, 2, none⟩ = some (.int .i64 x.a) ∧ W.cell? ⟨wr.heap.size, 3, none⟩ = some (.int .i64 x.b)) → Calls Tryd.prog 26 #[.int .i64 m] W fun e W' => e = .returned (.string (bOf (Lib.itoa m))) ∧ (Blk W' wr.heap.size 40 #[.int .i64 x.k, .string x.nm, .int .i64 x.a, .int .i64 x.b, .int .i64 x.c, .int .i64 x.len] ∧ Below w.heap.size w W') ∧ W'.cell? ⟨wr.heap.size, 1, none⟩ = some (.string x.nm) ∧ W'.cell? ⟨wr.heap.size, 2, none⟩ = some (.int .i64 x.a) ∧ W'.cell? ⟨wr.heap.size, 3, none⟩ = some (.int .i64 x.b)) := Lib.hid (fun m W h1 h2 hS => (dec_int m h1 (by omega) W).mono fun e W' ⟨he, hb⟩ => ⟨he, keepS hS hb⟩)
        have a2 : x.a ≤ 100000 := by omega
        have b2 : x.b ≤ 100000 := by omega
        have HC := Lib.hid (fun w' => dec_int x.c e0 (by omega) w')
        have HLn := Lib.hid (fun w' => dec_int x.len l0 (by omega) w')
        have hS0 : (Blk (wr.alloc (.cells #[.int .i64 x.k, .string x.nm, .int .i64 x.a, .int .i64 x.b, .int .i64 x.c, .int .i64 x.len] 40)).drew wr.heap.size 40 #[.int .i64 x.k, .string x.nm, .int .i64 x.a, .int .i64 x.b, .int .i64 x.c, .int .i64 x.len] ∧ Below w.heap.size w (wr.alloc (.cells #[.int .i64 x.k, .string x.nm, .int .i64 x.a, .int .i64 x.b, .int .i64 x.c, .int .i64 x.len] 40)).drew) ∧ (wr.alloc (.cells #[.int .i64 x.k, .string x.nm, .int .i64 x.a, .int .i64 x.b, .int .i64 x.c, .int .i64 x.len] 40)).drew.cell? ⟨wr.heap.size, 1, none⟩ = some (.string x.nm) ∧ (wr.alloc (.cells #[.int .i64 x.k, .string x.nm, .int .i64 x.a, .int .i64 x.b, .int .i64 x.c, .int .i64 x.len] 40)).drew.cell? ⟨wr.heap.size, 2, none⟩ = some (.int .i64 x.a) ∧ (wr.alloc (.cells #[.int .i64 x.k, .string x.nm, .int .i64 x.a, .int .i64 x.b, .int .i64 x.c, .int .i64 x.len] 40)).drew.cell? ⟨wr.heap.size, 3, none⟩ = some (.int .i64 x.b) := ⟨⟨(Blk.new wr _ _).drew, below_todrew (hbr.alloc hbr.size _)⟩, (Blk.new wr _ _).cell 1, (Blk.new wr _ _).cell 2, (Blk.new wr _ _).cell 3⟩
        have q1 : ¬ 9223372036854775807 < x.nm.size + 1 := by omega
        have q2 : ¬ 9223372036854775807 < x.nm.size + 1 + (bOf (Lib.itoa x.a)).size := by omega
        have q3 : ¬ 9223372036854775807 < x.nm.size + 1 + (bOf (Lib.itoa x.a)).size + 1 := by omega
        have q4 : ¬ 9223372036854775807 < x.nm.size + 1 + (bOf (Lib.itoa x.a)).size + 1 + (bOf (Lib.itoa x.b)).size := by omega
        clear hp hx h
        go_wp2_with fail
        go_region_held3 (fun W => (Blk W wr.heap.size 40 #[.int .i64 x.k, .string x.nm, .int .i64 x.a, .int .i64 x.b, .int .i64 x.c, .int .i64 x.len] ∧ Below w.heap.size w W) ∧ W.cell? ⟨wr.heap.size, 1, none⟩ = some (.string x.nm) ∧ W.cell? ⟨wr.heap.size, 2, none⟩ = some (.int .i64 x.a) ∧ W.cell? ⟨wr.heap.size, 3, none⟩ = some (.int .i64 x.b)) (first | assumption | exact hS2) ((go_at_call 26; (with_reducible refine (HD.out _ _ (by assumption) (by assumption) (by assumption)).mono ?_); rintro e w2 ⟨rfl, hS2⟩))
        all_goals
          obtain ⟨⟨hB2, hb2⟩, _⟩ := hS2
          have z0 : w2.cell? ⟨wr.heap.size, 0, none⟩ = some (.int .i64 x.k) := hB2.cell 0
          have z4 : w2.cell? ⟨wr.heap.size, 4, none⟩ = some (.int .i64 x.c) := hB2.cell 4
          have z5 : w2.cell? ⟨wr.heap.size, 5, none⟩ = some (.int .i64 x.len) := hB2.cell 5
          obtain ⟨ln, hln⟩ : ∃ ln : ByteArray, x.nm ++ ⟨#[32]⟩ ++ bOf (Lib.itoa x.a) ++ ⟨#[32]⟩ ++ bOf (Lib.itoa x.b) = ln := ⟨_, rfl⟩
          have hlz : ln.size ≤ 60 := by
            rw [← hln]
            simp only [ByteArray.size_append]
            have e1 : (⟨#[32]⟩ : ByteArray).size = 1 := rfl
            omega
          have hf1 := fmt_track (Pl.fmtL (l.take i)) x
          have hf2 := fmt_switch (Pl.fmtL (l.take i)) x
          have hf3 := fmt_derailer (Pl.fmtL (l.take i)) x
          rw [hln] at hf1 hf2 hf3 ⊢
          have HF1 := Lib.hid hf1
          have HF2 := Lib.hid hf2
          have HF3 := Lib.hid hf3
          have Hsn := Lib.hid (show Pl.fmtL (l.take (i + 1)) = Pl.fmtL (l.take i) ++ Pl.lineF x by rw [take_snoc6 Hp.out, Pl.fmtL_snoc])
          clear hln hf1 hf2 hf3 hS0 q1 q2 q3 q4 HD
          rcases hk with hk | hk | hk
          · have d5 : (x.k == 1) = true := by simp [hk]
            have Hk := Lib.hid hk
            clear hk
            go_wp2_with fail
            refine (HLn.out _).mono ?_
            rintro e w3 ⟨rfl, hb3⟩
            go_wp2_with fail
            go_roundw
            case rel => exact ⟨i + 1, by omega, by go_num, by rw [Hsn.out, ← HF1.out Hk.out], below_step hb2 hb3⟩
            case measure => simp [intOf]; omega
          · have d5 : (x.k == 1) = false := by simp [hk]
            have d6 : (x.k == 2) = true := by simp [hk]
            have Hk := Lib.hid hk
            clear hk
            go_wp2_with fail
            refine (HC.out _).mono ?_
            rintro e w3 ⟨rfl, hb3⟩
            go_wp2_with fail
            go_roundw
            case rel => exact ⟨i + 1, by omega, by go_num, by rw [Hsn.out, ← HF2.out Hk.out], below_step hb2 hb3⟩
            case measure => simp [intOf]; omega
          · have d5 : (x.k == 1) = false := by simp [hk]
            have d6 : (x.k == 2) = false := by simp [hk]
            have Hk := Lib.hid hk
            clear hk
            go_wp2_with fail
            go_roundw
            case rel => exact ⟨i + 1, by omega, by go_num, by rw [Hsn.out, ← HF3.out Hk.out], hb2⟩
            case measure => simp [intOf]; omega
      · obtain rfl : i = n := by omega
        have HT := Lib.hid (show bOf (Pl.fmtL (l.take i)) = bOf (Pl.fmtL l) by rw [List.take_of_length_le (by rw [HL.out]; exact Nat.le_refl _)])
        go_wp2_with fail
        go_ret2
        exact formatR_ok Hz.out HT.out hbr
  · have d3 : (Pl.vErr l != 0) = true := by simp [h0]
    have Hz := Lib.hid h0
    clear h0
    go_enter Tryd.func9, Tryd.ntmps9
    go_wp2_with fail
    refine HV.out.mono ?_
    rintro e w1 ⟨rfl, hb1⟩
    go_wp2_with fail
    go_ret2
    exact formatR_bad Hz.out hb1
end Go.Proofs.YtkkpkekkaoccbaaDoor
