/- The walks of humpgen's word and Elements. -/
import Derived.Test.YtmjdjcpmkdninaaDoorLyMake
import Derived.Test.YtmjdjcpmkdninaaDoorLE
import Derived.Test.YtmjdjcpmkdninaaDoorGenSpoil
import Derived.Laws.StructEq
namespace Go.Proofs.YtmjdjcpmkdninaaDoor
open Go.RowKit
theorem conv_four (w : World) (x y z u : Int) : (convert 34 9 (.slice (some ⟨w.heap.size, 0, none⟩) 4 4)).run Tryd.prog (w.alloc (.cells #[.int .u8 x, .int .u8 y, .int .u8 z, .int .u8 u] 5)) = .ok (.string (strOfNums [x, y, z, u])) (w.alloc (.cells #[.int .u8 x, .int .u8 y, .int .u8 z, .int .u8 u] 5)) :=
  run_convert_bytes_arg _ 34 5 under_bytes under_u8 w.heap.size 0 4 4 [x, y, z, u] rfl (fun i hi => by
    have h : i = 0 ∨ i = 1 ∨ i = 2 ∨ i = 3 := by omega
    rcases h with rfl | rfl | rfl | rfl
    · exact (Blk.new w _ _).cell 0
    · exact (Blk.new w _ _).cell 1
    · exact (Blk.new w _ _).cell 2
    · exact (Blk.new w _ _).cell 3) 9 under_string
theorem ename_eq (i : Nat) : strOfNums [101, 48 + ((i / 100 % 10 : Nat) : Int), 48 + ((i / 10 % 10 : Nat) : Int), 48 + ((i % 10 : Nat) : Int)] = Ly.ename i := by
  show (⟨[UInt8.ofNat (101 : Int).toNat, UInt8.ofNat (48 + ((i / 100 % 10 : Nat) : Int)).toNat, UInt8.ofNat (48 + ((i / 10 % 10 : Nat) : Int)).toNat, UInt8.ofNat (48 + ((i % 10 : Nat) : Int)).toNat].toArray⟩ : ByteArray) = _
  rw [show (48 + ((i / 100 % 10 : Nat) : Int)).toNat = 48 + i / 100 % 10 by omega, show (48 + ((i / 10 % 10 : Nat) : Int)).toNat = 48 + i / 10 % 10 by omega, show (48 + ((i % 10 : Nat) : Int)).toNat = 48 + i % 10 by omega]
  rfl
set_option maxRecDepth 100000 in
set_option maxHeartbeats 2000000 in
theorem ename_c (i : Nat) (w : World) (hi : i ≤ 1000) :
    Calls Tryd.prog 36 #[.int .i64 (i : Int)] w fun e w' => e = .returned (.string (Ly.ename i)) ∧ Below w.heap.size w w' := by
  have HE := Lib.hid (ename_eq i)
  obtain ⟨p, hp⟩ : ∃ p, i / 100 = p := ⟨_, rfl⟩
  obtain ⟨s, hs⟩ : ∃ s, i / 100 % 10 = s := ⟨_, rfl⟩
  obtain ⟨q, hq⟩ : ∃ q, i / 10 = q := ⟨_, rfl⟩
  obtain ⟨r, hr⟩ : ∃ r, i / 10 % 10 = r := ⟨_, rfl⟩
  obtain ⟨t, ht⟩ : ∃ t, i % 10 = t := ⟨_, rfl⟩
  have hpi : (i : Int) / 100 = (p : Int) := by omega
  have hsi : (p : Int) % 10 = (s : Int) := by omega
  have hqi : (i : Int) / 10 = (q : Int) := by omega
  have hri : (q : Int) % 10 = (r : Int) := by omega
  have hti : (i : Int) % 10 = (t : Int) := by omega
  have hs9 : s ≤ 9 := by omega
  have hr9 : r ≤ 9 := by omega
  have ht9 : t ≤ 9 := by omega
  rw [hs, hr, ht] at HE
  have m0 : (48 + (s : Int)) % 256 = 48 + (s : Int) := by omega
  have m1 : (48 + (r : Int)) % 256 = 48 + (r : Int) := by omega
  have m2 : (48 + (t : Int)) % 256 = 48 + (t : Int) := by omega
  have hcv := conv_four
  clear hp hs hq hr ht
  go_enter Tryd.func36, Tryd.ntmps36
  go_wp2_with fail
  go_ret
  exact ⟨by rw [HE.out]; rfl, (Below.refl _ _).alloc (Nat.le_refl _) _⟩
set_option maxHeartbeats 1000000 in
theorem elems_c (A B : Option Addr) (n m c d : Nat) (l : List LE) (w : World) (hn : n ≤ maxLen) (ha : LR w A n l) (hb : LR w B m l) :
    Calls Tryd.prog 15 #[.slice A n c, .slice B m d] w fun e w' => e = .returned (.bool true) ∧ Below w.heap.size w w' := by
  unfold maxLen at hn
  obtain rfl : m = n := by rw [← ha.len, ← hb.len]
  go_enter Tryd.func15, Tryd.ntmps15
  go_wp2_with fail
  go_loopw [5] (fun p wr => ∃ k : Nat, k ≤ m ∧ p = .int .i64 k ∧ Below w.heap.size w wr) (fun p _ => m - (intOf p).toNat)
  case atStart => exact ⟨0, by omega, rfl, Below.refl _ _⟩
  case round =>
    obtain ⟨k, hk, rfl, hbr⟩ := hrel
    by_cases hlt : k < m
    · obtain ⟨ad, p, rfl, _, hp, c0, c1, c2, c3, c4, c5, c6, c7⟩ := (ha.below hbr).at_ hlt
      obtain ⟨bd, q, rfl, _, hq, d0, d1, d2, d3, d4, d5, d6, d7⟩ := (hb.below hbr).at_ hlt
      obtain rfl := Option.some.inj (hp.symm.trans hq)
      clear hp hq
      obtain ⟨pk, nm, pp, ps, pl, pg, pc, pw⟩ := p
      simp only at *
      go_wp2_with fail
      go_quiet (fail)
      go_wp2_with fail
      go_roundw
      case rel => exact ⟨k + 1, by omega, by go_num, below_drewN hbr _⟩
      case measure => simp [intOf]; omega
    · go_wp2_with fail
      go_ret
      exact ⟨rfl, hbr⟩
end Go.Proofs.YtmjdjcpmkdninaaDoor
