/- The walk of yardgen's name. -/
import Derived.Test.YtkkpkekkaoccbaaDoorPlG0
namespace Go.Proofs.YtkkpkekkaoccbaaDoor
open Go.RowKit
theorem conv_three (w : World) (x y z : Int) : (convert 51 9 (.slice (some ⟨w.heap.size, 0, none⟩) 3 3)).run Tryd.prog (w.alloc (.cells #[.int .u8 x, .int .u8 y, .int .u8 z] 5)) = .ok (.string (strOfNums [x, y, z])) (w.alloc (.cells #[.int .u8 x, .int .u8 y, .int .u8 z] 5)) :=
  run_convert_bytes_arg _ 51 5 under_bytes under_u8 w.heap.size 0 3 3 [x, y, z] rfl (fun i hi => by
    have h : i = 0 ∨ i = 1 ∨ i = 2 := by omega
    rcases h with rfl | rfl | rfl
    · exact (Blk.new w _ _).cell 0
    · exact (Blk.new w _ _).cell 1
    · exact (Blk.new w _ _).cell 2) 9 under_string
theorem pname_eq (i : Nat) : strOfNums [112, 48 + ((i / 10 % 10 : Nat) : Int), 48 + ((i % 10 : Nat) : Int)] = Pl.pname i := by
  show (⟨[UInt8.ofNat (112 : Int).toNat, UInt8.ofNat (48 + ((i / 10 % 10 : Nat) : Int)).toNat, UInt8.ofNat (48 + ((i % 10 : Nat) : Int)).toNat].toArray⟩ : ByteArray) = _
  rw [show (48 + ((i / 10 % 10 : Nat) : Int)).toNat = 48 + i / 10 % 10 by omega, show (48 + ((i % 10 : Nat) : Int)).toNat = 48 + i % 10 by omega]
  rfl
set_option maxRecDepth 100000 in
set_option maxHeartbeats 2000000 in
theorem pname_c (i : Nat) (w : World) (hi : i ≤ 1000) :
    Calls Tryd.prog 27 #[.int .i64 (i : Int)] w fun e w' => e = .returned (.string (Pl.pname i)) ∧ Below w.heap.size w w' := by
  have HE := Lib.hid (pname_eq i)
  obtain ⟨q, hq⟩ : ∃ q, i / 10 = q := ⟨_, rfl⟩
  obtain ⟨r, hr⟩ : ∃ r, i / 10 % 10 = r := ⟨_, rfl⟩
  obtain ⟨t, ht⟩ : ∃ t, i % 10 = t := ⟨_, rfl⟩
  have hqi : (i : Int) / 10 = (q : Int) := by omega
  have hri : (q : Int) % 10 = (r : Int) := by omega
  have hti : (i : Int) % 10 = (t : Int) := by omega
  have hr9 : r ≤ 9 := by omega
  have ht9 : t ≤ 9 := by omega
  rw [hr, ht] at HE
  have m1 : (48 + (r : Int)) % 256 = 48 + (r : Int) := by omega
  have m2 : (48 + (t : Int)) % 256 = 48 + (t : Int) := by omega
  have hcv := conv_three
  clear hq hr ht
  go_enter Tryd.func27, Tryd.ntmps27
  go_wp2_with fail
  go_ret
  exact ⟨by rw [HE.out]; rfl, (Below.refl _ _).alloc (Nat.le_refl _) _⟩
end Go.Proofs.YtkkpkekkaoccbaaDoor
