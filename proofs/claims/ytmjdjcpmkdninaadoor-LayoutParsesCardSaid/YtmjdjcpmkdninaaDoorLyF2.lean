/- The walk of a layout's Format. -/
import Derived.Test.YtmjdjcpmkdninaaDoorLyF1
import Derived.Test.YtmjdjcpmkdninaaDoorLyW4
import Derived.Deep.RegionHeld3
namespace Go.Proofs.YtmjdjcpmkdninaaDoor
open Go.RowKit
theorem below_todrew {B : Nat} {a w : World} (h : Below B a w) : Below B a w.drew := ⟨h.os, h.tape, h.output, h.size, h.block⟩
/-- The builder with its bytes, beside the element that is being written. -/
structure FS (w1 : World) (xb : Nat) (cs : Array Value) (bs : List UInt8) (W : World) : Prop where
  bd : Bd w1.heap.size w1.heap.size bs W
  blk : Blk W xb 48 cs
  bel : Below w1.heap.size w1 W
section
variable {w1 W W' : World} {xb : Nat} {cs : Array Value} {bs : List UInt8}
theorem FS.below (h : FS w1 xb cs bs W) (hb : Below W.heap.size W W') : FS w1 xb cs bs W' := ⟨h.bd.below hb, h.blk.below hb h.blk.lt, below_step h.bel hb⟩
theorem FS.drew (h : FS w1 xb cs bs W) : FS w1 xb cs bs W.drew := h.below (below_todrew (Below.refl _ _))
theorem FS.write (h : FS w1 xb cs bs W) (s : ByteArray) (hlen : bs.length + s.size ≤ 140737488355328) :
    Calls Tryd.prog 26 #[.pointer (some ⟨w1.heap.size, 0, none⟩), .string s] W fun e w' => e = .returned (.tuple #[.int .i64 s.size, .nilIface]) ∧ FS w1 xb cs (bs ++ s.data.toList) w' :=
  (writeString_c w1.heap.size w1.heap.size bs s W h.bd hlen h.bel.size).mono fun e w' ⟨he, h1, h2, h3⟩ => ⟨he, h1, h3.blk h.blk (by decide) (by decide), h.bel.trans h2⟩
theorem FS.byte (h : FS w1 xb cs bs W) (c : UInt8) (hlen : bs.length + 1 ≤ 140737488355328) :
    Calls Tryd.prog 30 #[.pointer (some ⟨w1.heap.size, 0, none⟩), .int .u8 (c.toNat : Int)] W fun e w' => e = .returned .nilIface ∧ FS w1 xb cs (bs ++ [c]) w' :=
  (writeByte_c w1.heap.size w1.heap.size bs c W h.bd hlen h.bel.size).mono fun e w' ⟨he, h1, h2, h3⟩ => ⟨he, h1, h3.blk h.blk (by decide) (by decide), h.bel.trans h2⟩
end
def LFormatR (l : List LE) (w : World) (e : Ending) (w' : World) : Prop := e = .returned (.tuple #[.string (baOf (Ly.fmt l).1), .int .i64 (Ly.fmt l).2]) ∧ Below w.heap.size w w'
theorem lformatR_bad {l : List LE} {w w' : World} (h : ¬ Ly.vErr l = 0) (hb : Below w.heap.size w w') : LFormatR l w (.returned (.tuple #[.string ⟨#[]⟩, .int .i64 (Ly.vErr l)])) w' := by
  unfold LFormatR Ly.fmt
  rw [if_neg h]
  exact ⟨rfl, hb⟩
theorem lformatR_ok {l : List LE} {w w' : World} {s : ByteArray} (h : Ly.vErr l = 0) (hs : s = baOf (Ly.fmtL l)) (hb : Below w.heap.size w w') : LFormatR l w (.returned (.tuple #[.string s, .int .i64 0])) w' := by
  unfold LFormatR Ly.fmt
  rw [if_pos h, hs]
  exact ⟨rfl, hb⟩
namespace Ly
def preF (l : List LE) (i : Nat) : List UInt8 := (l.take i).flatMap fun x => bodyF l x ++ [10]
theorem preF_len {l : List LE} (h : Fits l) (i : Nat) : (preF l i).length ≤ 128 * l.length := by
  refine Nat.le_trans (flat_len (bodyF l) _ (fun x hx => ?_)) ?_
  · obtain ⟨j, hj⟩ := mem_at (List.mem_of_mem_take hx)
    exact body_len h hj
  · rw [List.length_take]
    omega
theorem preF_step {l : List LE} {i : Nat} {x : LE} (hx : l[i]? = some x) : preF l (i + 1) = preF l i ++ (bodyF l x ++ [10]) := by
  unfold preF
  rw [List.take_add_one, hx]
  simp
theorem preF_all {l : List LE} {i : Nat} (h : l.length ≤ i) : preF l i = fmtL l := by
  unfold preF fmtL
  rw [List.take_of_length_le h]
def head1 (x : LE) : List UInt8 := kindW x.k ++ 32 :: x.nm.data.toList
def head2 (l : List LE) (x : LE) : List UInt8 := 32 :: (nmAt l x.p ++ sufW x.sd)
theorem body_crest {l : List LE} {x : LE} (h : x.k = 0) : bodyF l x = head1 x := by unfold bodyF head1; rw [if_pos h, List.append_nil]
theorem body_rest {l : List LE} {x : LE} (h : x.k ≠ 0) : bodyF l x = head1 x ++ head2 l x ++ (nums x).flatMap sp := by
  unfold bodyF head1 head2
  rw [if_neg h]
  simp
theorem w_head1 (x : LE) : (baOf (kindW x.k) ++ ⟨#[32]⟩ ++ x.nm).data.toList = head1 x := by simp [head1, baOf]
theorem w_head2 {l : List LE} {x y : LE} (hy : l[x.p.toNat]? = some y) : ((⟨#[32]⟩ : ByteArray) ++ y.nm ++ baOf (sufW x.sd)).data.toList = head2 l x := by simp [head2, baOf, nmAt_par hy]
theorem w_num (n : Int) : ((⟨#[32]⟩ : ByteArray) ++ bOf (Lib.itoa n)).data.toList = sp n := by simp [sp, bOf]
theorem kindW_size {k : Int} (h : 0 ≤ k ∧ k ≤ 4) : (baOf (kindW k)).size ≤ 8 := by
  rw [baOf_size]
  rcases kind_cases h with rfl | rfl | rfl | rfl | rfl <;> decide
theorem sufW_size (sd : Int) : (baOf (sufW sd)).size ≤ 6 := by
  rw [baOf_size]
  unfold sufW
  split
  · decide
  · split <;> decide
end Ly
theorem idx3_0 (a b c : Int) (W : World) : (Instr.index 59 (.agg #[.int .i64 a, .int .i64 b, .int .i64 c]) (.int .i64 0)).run Tryd.prog W = .ok (.int .i64 a) W := by kernel_rfl
theorem idx3_1 (a b c : Int) (W : World) : (Instr.index 59 (.agg #[.int .i64 a, .int .i64 b, .int .i64 c]) (.int .i64 1)).run Tryd.prog W = .ok (.int .i64 b) W := by kernel_rfl
theorem idx3_2 (a b c : Int) (W : World) : (Instr.index 59 (.agg #[.int .i64 a, .int .i64 b, .int .i64 c]) (.int .i64 2)).run Tryd.prog W = .ok (.int .i64 c) W := by kernel_rfl
theorem itoa_size21 (n : Int) (h0 : -9223372036854775808 ≤ n) (h1 : n ≤ 9223372036854775807) : (bOf (Lib.itoa n)).size ≤ 21 := by
  rw [bOf_size]
  exact Lib.itoa_length_le n h0 h1
set_option maxRecDepth 100000 in
set_option maxHeartbeats 8000000 in
theorem lformat_c (A : Option Addr) (n c : Nat) (l : List LE) (w : World) (hn : n ≤ maxLen) (h : LR w A n l) (hs : ∀ x ∈ l, x.nm.size ≤ maxLen) (hi : ∀ x ∈ l, (Lit.int .i64 x.p).wf = true ∧ (Lit.int .i64 x.sd).wf = true) (ht : Tab10 w) :
    Calls Tryd.prog 12 #[.slice A n c] w (LFormatR l w) := by
  have hmx := hn
  unfold maxLen at hn
  have hl := h.len
  have HV := Lib.hid (lvalid_c A n c l w hmx h hs hi)
  clear hs hi
  by_cases h0 : Ly.vErr l = 0
  case neg =>
    have d3 : (Ly.vErr l != 0) = true := by simp [h0]
    have Hz := Lib.hid h0
    clear h0
    go_enter Tryd.func12, Tryd.ntmps12
    go_wp2_with fail
    refine HV.out.mono ?_
    rintro e w1 ⟨rfl, hb1⟩
    go_wp2_with fail
    go_ret2
    exact lformatR_bad Hz.out hb1
  have Hz := Lib.hid h0
  obtain ⟨hz1, _, hz3, _⟩ := Ly.vErr_zero h0
  have hn128 : n ≤ 128 := by omega
  have HF := Lib.hid hz3
  have d3 : (Ly.vErr l != 0) = false := by simp [h0]
  clear h0 hz1 hz3
  go_enter Tryd.func12, Tryd.ntmps12
  go_wp2_with fail
  refine HV.out.mono ?_
  rintro e w1 ⟨rfl, hb1⟩
  go_wp2_with fail
  go_loopw [17] (fun vi wr => ∃ i : Nat, i ≤ n ∧ vi = .int .i64 i ∧ Bd w1.heap.size w1.heap.size (Ly.preF l i) wr ∧ Below w1.heap.size w1 wr) (fun vi _ => n - (intOf vi).toNat)
  case atStart => exact ⟨0, by omega, rfl, Lib.fresh_isBuilder _ _ _, (Below.refl _ _).alloc (Nat.le_refl _) _⟩
  case round =>
    obtain ⟨i, hin, rfl, hbd, hbr⟩ := hrel
    have hbr0 := below_step hb1 hbr
    have hsz := hbr.size
    by_cases hlt : i < n
    · obtain ⟨ad, x, rfl, hba, hp, c0, c1, c2, c3, c4, c5, c6, c7⟩ := (h.below hbr0).at_ (i := i) hlt
      have hx := HF.out.snd hp
      obtain ⟨hk, hcr, hrest⟩ := Ly.sound_bd hx
      have hnm := (Ly.nameOk_size (Ly.sound_nm hx)).2
      have zp : (Ly.preF l i).length ≤ 16384 := by have := Ly.preF_len HF.out i; omega
      have hws := Ly.kindW_size hk
      have e32 : (⟨#[32]⟩ : ByteArray).size = 1 := rfl
      have hlti : (i : Int) < (n : Int) := by omega
      have Hp := Lib.hid hp
      have hS0 : FS w1 wr.heap.size #[.int .i64 x.k, .string x.nm, .int .i64 x.p, .int .i64 x.sd, .int .i64 x.len, .int .i64 x.g, .int .i64 x.c, .int .i64 x.pw] (Ly.preF l i) (wr.alloc (.cells #[.int .i64 x.k, .string x.nm, .int .i64 x.p, .int .i64 x.sd, .int .i64 x.len, .int .i64 x.g, .int .i64 x.c, .int .i64 x.pw] 48)) :=
        ⟨hbd.below ((Below.refl wr.heap.size wr).alloc (Nat.le_refl _) _), Blk.new wr _ _, hbr.alloc hsz _⟩
      have HS0 := Lib.hid hS0.drew
      have HW1 := Lib.hid (hS0.drew.write (baOf (Ly.kindW x.k) ++ ⟨#[32]⟩ ++ x.nm) (by simp only [ByteArray.size_append]; omega))
      have q1 : ¬ 9223372036854775807 < (baOf (Ly.kindW x.k)).size + 1 := by omega
      have q2 : ¬ 9223372036854775807 < (baOf (Ly.kindW x.k)).size + 1 + x.nm.size := by omega
      have g0 : (wr.alloc (.cells #[.int .i64 x.k, .string x.nm, .int .i64 x.p, .int .i64 x.sd, .int .i64 x.len, .int .i64 x.g, .int .i64 x.c, .int .i64 x.pw] 48)).drew.cell? ⟨wr.heap.size, 0, none⟩ = some (.int .i64 x.k) := (Blk.new wr _ _).cell 0
      have g1 : (wr.alloc (.cells #[.int .i64 x.k, .string x.nm, .int .i64 x.p, .int .i64 x.sd, .int .i64 x.len, .int .i64 x.g, .int .i64 x.c, .int .i64 x.pw] 48)).drew.cell? ⟨wr.heap.size, 1, none⟩ = some (.string x.nm) := (Blk.new wr _ _).cell 1
      clear hp hx hS0 hbd
      go_wp2_with fail
      go_region_held3 (fun W => W.cell? ⟨wr.heap.size, 0, none⟩ = some (.int .i64 x.k) ∧ W.cell? ⟨wr.heap.size, 1, none⟩ = some (.string x.nm)) (first | exact ⟨g0, g1⟩ | exact ⟨hS2.blk.cell 0, hS2.blk.cell 1⟩) (first | (go_at_call 27; (with_reducible refine (lword_c x.k _).mono ?_); rintro e w2 ⟨rfl, rfl⟩) | (go_at_call 26; (with_reducible refine HW1.out.mono ?_); rintro e w2 ⟨rfl, hS2⟩))
      rw [Ly.w_head1] at hS2
      have hh1 : (Ly.head1 x).length ≤ 30 := by
        have h1 := Ly.kindW_size hk
        rw [Ly.baOf_size] at h1
        have h2 : x.nm.data.toList.length = x.nm.size := by simp
        simp only [Ly.head1, List.length_append, List.length_cons]
        omega
      clear HW1 HS0 g0 g1 c0 c1 c2 c3 c4 c5 c6 c7 q1 q2
      have g0 : w2.cell? ⟨wr.heap.size, 0, none⟩ = some (.int .i64 x.k) := hS2.blk.cell 0
      by_cases hk0 : x.k = 0
      · have d5 : (x.k != 0) = false := by simp [hk0]
        have d6 : (x.k == 2) = false := by simp [hk0]
        have Hst := Lib.hid (show Ly.preF l i ++ Ly.head1 x ++ [10] = Ly.preF l (i + 1) by rw [Ly.preF_step Hp.out, Ly.body_crest hk0]; simp)
        clear hk0
        go_wp2_with fail
        refine (hS2.byte 10 (by simp only [List.length_append]; omega)).mono ?_
        rintro e w3 ⟨rfl, hS3⟩
        rw [Hst.out] at hS3
        go_wp2_with fail
        go_roundw
        case rel => exact ⟨i + 1, by omega, by go_num, hS3.bd, hS3.bel⟩
        case measure => simp [intOf]; omega
      · have d5 : (x.k != 0) = true := by simp [hk0]
        obtain ⟨⟨l0, l1⟩, ⟨e0, e1⟩, ⟨f0, f1⟩, ⟨s0, s1⟩, hpw, hpw0⟩ := hrest hk0
        have Hpw := Lib.hid hpw
        clear hpw hpw0 hcr
        have hi1 : 1 ≤ i := by
          rcases Nat.eq_zero_or_pos i with h0' | h0'
          · exact absurd ((HF.out.first Hp.out).2 h0') hk0
          · exact h0'
        obtain ⟨y, hy, p0, p1, _⟩ := HF.out.behind hi1 Hp.out
        have hyn := (Ly.nameOk_size (Ly.sound_nm (HF.out.snd hy))).2
        have Hst0 := Lib.hid (Ly.preF_step Hp.out)
        have Hbr := Lib.hid (Ly.body_rest (l := l) hk0)
        have Hw2 := Lib.hid (Ly.w_head2 (x := x) hy)
        have Hy := Lib.hid hy
        obtain ⟨p, hpp⟩ : ∃ p : Nat, x.p = (p : Int) := ⟨x.p.toNat, by omega⟩
        have Hpp := Lib.hid hpp
        have hpn : p < n := by omega
        have hpn' : (p : Int) < (n : Int) := by omega
        have hsu := Ly.sufW_size x.sd
        have hh2 : (Ly.head2 l x).length ≤ 20 := by
          have h1 := Ly.sufW_size x.sd
          rw [Ly.baOf_size] at h1
          have h2 : y.nm.data.toList.length = y.nm.size := by simp
          simp only [Ly.head2, Ly.nmAt_par hy, List.length_append, List.length_cons]
          omega
        obtain ⟨ad', y', e', _, hy', k0, k1, _⟩ := (h.below (below_step hb1 hS2.bel)).at_ hpn
        obtain rfl := Option.some.inj e'
        obtain rfl : y' = y := by
          have h2 := Hy.out
          rw [hpp, Int.toNat_natCast, hy'] at h2
          exact Option.some.inj h2
        have g2 : w2.drew.cell? ⟨wr.heap.size, 2, none⟩ = some (.int .i64 (p : Int)) := by rw [← hpp]; exact hS2.blk.cell 2
        have g3 : w2.drew.cell? ⟨wr.heap.size, 3, none⟩ = some (.int .i64 x.sd) := hS2.blk.cell 3
        have k1d : w2.drew.cell? ⟨(ad.add (p * 8)).block, (ad.add (p * 8)).off + 1, none⟩ = some (.string y'.nm) := k1
        have HW2 := Lib.hid (hS2.drew.write (⟨#[32]⟩ ++ y'.nm ++ baOf (Ly.sufW x.sd)) (by simp only [ByteArray.size_append, List.length_append]; omega))
        have q1 : ¬ 9223372036854775807 < 1 + y'.nm.size := by omega
        have q2 : ¬ 9223372036854775807 < 1 + y'.nm.size + (baOf (Ly.sufW x.sd)).size := by omega
        clear hpp hy hy' hk0 hrest k0
        have hfz : True := trivial
        go_wp2_with fail
        go_region_held3 (fun W => W.cell? ⟨wr.heap.size, 2, none⟩ = some (.int .i64 (p : Int)) ∧ W.cell? ⟨wr.heap.size, 3, none⟩ = some (.int .i64 x.sd) ∧ W.cell? ⟨(ad.add (p * 8)).block, (ad.add (p * 8)).off + 1, none⟩ = some (.string y'.nm)) (first | exact ⟨g2, g3, k1d⟩ | exact ⟨by rw [← Hpp.out]; exact hS3.blk.cell 2, hS3.blk.cell 3, hk1.2⟩) (first | (go_at_call 28; (with_reducible refine (lsuf_c x.sd _).mono ?_); rintro e w3 ⟨rfl, rfl⟩) | (go_at_call 26; (with_reducible refine HW2.out.mono ?_); rintro e w3 ⟨rfl, hS3⟩; have hk1 : True ∧ w3.cell? ⟨(ad.add (p * 8)).block, (ad.add (p * 8)).off + 1, none⟩ = some (.string y'.nm) := ⟨trivial, by obtain ⟨ad2, y2, e2, _, hy2, _, k2, _⟩ := (h.below (below_step hb1 hS3.bel)).at_ hpn; cases e2; have h2 := Hy.out; rw [Hpp.out, Int.toNat_natCast, hy2] at h2; cases h2; exact k2⟩))
        rw [Hw2.out] at hS3
        obtain ⟨wo, hwo⟩ : ∃ wo : World, wo = wr := ⟨_, rfl⟩
        rw [← hwo] at hS3
        have hwz : wr.heap.size = wo.heap.size := by rw [hwo]
        rw [hwz]
        clear HW2 g0 g2 g3 k1 k1d q1 q2 hS2 hbr hbr0
        have z4 : w3.cell? ⟨wo.heap.size, 4, none⟩ = some (.int .i64 x.len) := hS3.blk.cell 4
        have z5 : w3.cell? ⟨wo.heap.size, 5, none⟩ = some (.int .i64 x.g) := hS3.blk.cell 5
        have z6 : w3.cell? ⟨wo.heap.size, 6, none⟩ = some (.int .i64 x.c) := hS3.blk.cell 6
        clear hwo hwz
        go_wp2_with fail
        go_loopw [51] (fun p wr => ∃ t : Int, 0 ≤ t ∧ t ≤ 3 ∧ p = .int .i64 t ∧ FS w1 wo.heap.size #[.int .i64 x.k, .string x.nm, .int .i64 x.p, .int .i64 x.sd, .int .i64 x.len, .int .i64 x.g, .int .i64 x.c, .int .i64 x.pw] (Ly.preF l i ++ Ly.head1 x ++ Ly.head2 l x ++ ([x.len, x.g, x.c].take t.toNat).flatMap Ly.sp) wr) (fun p _ => (3 - intOf p).toNat)
        case atStart => exact ⟨0, by omega, by omega, rfl, by simpa using hS3⟩
        case round =>
          obtain ⟨t, ht0, ht3, rfl, hSt⟩ := hrel
          have hb4 : ((Ly.preF l i ++ Ly.head1 x ++ Ly.head2 l x ++ ([x.len, x.g, x.c].take t.toNat).flatMap Ly.sp)).length ≤ 20000 := by
            have a1 := itoa_size21 x.len (by omega) (by omega)
            have a2 := itoa_size21 x.g (by omega) (by omega)
            have a3 := itoa_size21 x.c (by omega) (by omega)
            rw [bOf_size] at a1 a2 a3
            have a4 : (([x.len, x.g, x.c].take t.toNat).flatMap Ly.sp).length ≤ ([x.len, x.g, x.c].flatMap Ly.sp).length := by
              conv => rhs; rw [← List.take_append_drop t.toNat [x.len, x.g, x.c], List.flatMap_append, List.length_append]
              omega
            have a5 : ([x.len, x.g, x.c].flatMap Ly.sp).length ≤ 70 := by
              simp only [List.flatMap_cons, List.flatMap_nil, List.length_append, List.length_nil, Ly.sp, List.length_cons]
              omega
            simp only [List.length_append]
            omega
          have Hb4 := Lib.hid hb4
          have HSt := Lib.hid hSt
          clear hb4 hSt
          obtain rfl | rfl | rfl | rfl : t = 0 ∨ t = 1 ∨ t = 2 ∨ t = 3 := by omega
          · have hx0 := idx3_0 x.len x.g x.c
            have HI := Lib.hid (fun W hW => itoa_c x.len (by omega) (by omega) W hW)
            have zy := itoa_size21 x.len (by omega) (by omega)
            go_wp2_with fail
            refine (HI.out _ (ht.below (below_step hb1 HSt.out.bel))).mono ?_
            rintro e w5 ⟨rfl, hb5⟩
            have hS5 := HSt.out.below hb5
            go_wp2_with fail
            refine (hS5.write _ (by have := Hb4.out; simp only [ByteArray.size_append]; omega)).mono ?_
            rintro e w6 ⟨rfl, hS6⟩
            rw [Ly.w_num] at hS6
            go_wp2_with fail
            go_roundw
            case rel => exact ⟨0 + 1, by omega, by omega, by go_num, by simpa using hS6⟩
            case measure => simp [intOf]
          · have hx1 := idx3_1 x.len x.g x.c
            have HI := Lib.hid (fun W hW => itoa_c x.g (by omega) (by omega) W hW)
            have zy := itoa_size21 x.g (by omega) (by omega)
            go_wp2_with fail
            refine (HI.out _ (ht.below (below_step hb1 HSt.out.bel))).mono ?_
            rintro e w5 ⟨rfl, hb5⟩
            have hS5 := HSt.out.below hb5
            go_wp2_with fail
            refine (hS5.write _ (by have := Hb4.out; simp only [ByteArray.size_append]; omega)).mono ?_
            rintro e w6 ⟨rfl, hS6⟩
            rw [Ly.w_num] at hS6
            go_wp2_with fail
            go_roundw
            case rel => exact ⟨1 + 1, by omega, by omega, by go_num, by simpa using hS6⟩
            case measure => simp [intOf]
          · have hx2 := idx3_2 x.len x.g x.c
            have HI := Lib.hid (fun W hW => itoa_c x.c (by omega) (by omega) W hW)
            have zy := itoa_size21 x.c (by omega) (by omega)
            go_wp2_with fail
            refine (HI.out _ (ht.below (below_step hb1 HSt.out.bel))).mono ?_
            rintro e w5 ⟨rfl, hb5⟩
            have hS5 := HSt.out.below hb5
            go_wp2_with fail
            refine (hS5.write _ (by have := Hb4.out; simp only [ByteArray.size_append]; omega)).mono ?_
            rintro e w6 ⟨rfl, hS6⟩
            rw [Ly.w_num] at hS6
            go_wp2_with fail
            go_roundw
            case rel => exact ⟨2 + 1, by omega, by omega, by go_num, by simpa using hS6⟩
            case measure => simp [intOf]
          · by_cases h2 : x.k = 2
            · have d6 : (x.k == 2) = true := by simp [h2]
              obtain ⟨v0, v1⟩ := Hpw.out h2
              have Hnn := Lib.hid (show Ly.nums x = [x.len, x.g, x.c, x.pw] by unfold Ly.nums; rw [if_pos h2]; rfl)
              have HI := Lib.hid (fun W hW => itoa_c x.pw (by omega) (by omega) W hW)
              have zy := itoa_size21 x.pw (by omega) (by omega)
              have g0 : wr.cell? ⟨wo.heap.size, 0, none⟩ = some (.int .i64 x.k) := HSt.out.blk.cell 0
              have g7 : wr.cell? ⟨wo.heap.size, 7, none⟩ = some (.int .i64 x.pw) := HSt.out.blk.cell 7
              clear h2
              go_wp2_with fail
              refine (HI.out _ (ht.below (below_step hb1 HSt.out.bel))).mono ?_
              rintro e w5 ⟨rfl, hb5⟩
              have hS5 := HSt.out.below hb5
              go_wp2_with fail
              refine (hS5.write _ (by have := Hb4.out; simp only [ByteArray.size_append]; omega)).mono ?_
              rintro e w6 ⟨rfl, hS6⟩
              rw [Ly.w_num] at hS6
              have hsz6 : (Ly.sp x.pw).length ≤ 22 := by
                rw [bOf_size] at zy
                simp only [Ly.sp, List.length_cons]; omega
              go_wp2_with fail
              refine (hS6.byte 10 (by have := Hb4.out; rw [List.length_append]; omega)).mono ?_
              rintro e w7 ⟨rfl, hS7⟩
              go_wp2_with fail
              go_roundw
              case rel =>
                refine ⟨i + 1, by omega, by go_num, ?_, hS7.bel⟩
                have := hS7.bd
                rw [Hst0.out, Hbr.out, Hnn.out]
                simpa using this
              case measure => simp [intOf]; omega
            · have d6 : (x.k == 2) = false := by simp [h2]
              have Hnn := Lib.hid (show Ly.nums x = [x.len, x.g, x.c] by unfold Ly.nums; rw [if_neg h2]; rfl)
              have g0 : wr.cell? ⟨wo.heap.size, 0, none⟩ = some (.int .i64 x.k) := HSt.out.blk.cell 0
              clear h2
              go_wp2_with fail
              refine (HSt.out.byte 10 (by have := Hb4.out; omega)).mono ?_
              rintro e w7 ⟨rfl, hS7⟩
              go_wp2_with fail
              go_roundw
              case rel =>
                refine ⟨i + 1, by omega, by go_num, ?_, hS7.bel⟩
                have := hS7.bd
                rw [Hst0.out, Hbr.out, Hnn.out]
                simpa using this
              case measure => simp [intOf]; omega
    · have hie : l.length ≤ i := by omega
      have HT := Lib.hid (show baOf (Ly.preF l i) = baOf (Ly.fmtL l) by rw [Ly.preF_all hie])
      have hin' : ¬ (i : Int) < (n : Int) := by omega
      go_wp2_with fail
      refine (Tryd.Builder_String_any w1.heap.size w1.heap.size _ _ hbd hsz).mono ?_
      rintro e w6 ⟨rfl, hb6⟩
      have hb6' := below_step hb1 (hbr.trans hb6)
      go_wp2_with fail
      go_ret2
      exact lformatR_ok Hz.out HT.out hb6'
end Go.Proofs.YtmjdjcpmkdninaaDoor
