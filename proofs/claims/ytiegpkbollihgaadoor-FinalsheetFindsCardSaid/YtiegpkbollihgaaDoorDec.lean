/- The walk of the reference's Decimal. -/
import Derived.Test.YtiegpkbollihgaaDoorGenSpoil
import Derived.Lib.ItoaNum
import Derived.Lib.ItoaLen
namespace Go.Proofs.YtiegpkbollihgaaDoor
open Go.RowKit
def bOf (l : List UInt8) : ByteArray := ⟨l.toArray⟩
theorem bOf_size (l : List UInt8) : (bOf l).size = l.length := by simp [bOf, ByteArray.size]
/-- string(b) of a block that holds one byte. -/
theorem conv_blk {W : World} {g : Nat} {x : Int} (h : Blk W g 5 #[.int .u8 x]) : (convert 53 9 (.slice (some ⟨g, 0, none⟩) 1 1)).run Tryd.prog W = .ok (.string (strOfNums [x])) W :=
  run_convert_bytes_arg _ 53 5 under_bytes under_u8 g 0 1 1 [x] rfl (fun i hi => by
    obtain rfl : i = 0 := by omega
    exact h.cell 0) 9 under_string
theorem conv_after {w w3 : World} {x : Int} (hb : Below (w.alloc (.cells #[.int .u8 x] 5)).drew.heap.size (w.alloc (.cells #[.int .u8 x] 5)).drew w3) : (convert 53 9 (.slice (some ⟨w.heap.size, 0, none⟩) 1 1)).run Tryd.prog w3 = .ok (.string (strOfNums [x])) w3 :=
  conv_blk (((Blk.new w 5 #[.int .u8 x]).drew).below hb (by show w.heap.size < (w.alloc _).heap.size; simp))
theorem conv_drew (w : World) (x : Int) : (convert 53 9 (.slice (some ⟨w.heap.size, 0, none⟩) 1 1)).run Tryd.prog (w.alloc (.cells #[.int .u8 x] 5)).drew = .ok (.string (strOfNums [x])) (w.alloc (.cells #[.int .u8 x] 5)).drew :=
  conv_blk (Blk.new w 5 #[.int .u8 x]).drew
theorem one_dig (n : Nat) : strOfNums [48 + (n : Int)] = bOf [UInt8.ofNat (48 + n)] := by
  show (⟨[UInt8.ofNat (48 + (n : Int)).toNat].toArray⟩ : ByteArray) = ⟨[UInt8.ofNat (48 + n)].toArray⟩
  rw [show (48 + (n : Int)).toNat = 48 + n by omega]
theorem dig_append (n : Nat) (h : ¬ n < 10) : bOf (Lib.decDigits (n / 10)) ++ strOfNums [48 + ((n % 10 : Nat) : Int)] = bOf (Lib.decDigits n) := by
  rw [one_dig]
  conv => rhs; rw [Lib.decDigits, dif_neg h]
  apply ByteArray.ext
  simp [bOf]
set_option maxRecDepth 100000 in
set_option maxHeartbeats 4000000 in
theorem dec_c (n : Nat) : ∀ (w : World), n ≤ 1000000000000 → 
    Calls Tryd.prog 44 #[.int .i64 (n : Int)] w fun e w' => e = .returned (.string (bOf (Lib.decDigits n))) ∧ Below w.heap.size w w' := by
  induction n using Nat.strongRecOn with
  | ind n ih =>
    intro w hn
    have hcv := conv_one
    have hcd := conv_drew
    by_cases h10 : n < 10
    · have hd1 : decide (n < 10) = true := by simp; omega
      have hd2 : decide ((n : Int) < 10) = true := by simp; omega
      have HE := Lib.hid (show strOfNums [48 + (n : Int)] = bOf (Lib.decDigits n) by rw [one_dig, Lib.decDigits_one h10])
      have hm8 : (48 + (n : Int)) % 256 = 48 + (n : Int) := by omega
      have hd0 : decide ((n : Int) < 0) = false := by simp
      clear h10 ih
      go_enter Tryd.func44, Tryd.ntmps44
      go_wp2_with fail
      go_ret
      exact ⟨by rw [HE.out]; rfl, (Below.refl _ _).alloc (Nat.le_refl _) _⟩
    · have hd1 : decide (n < 10) = false := by simp; omega
      have hd2 : decide ((n : Int) < 10) = false := by simp; omega
      obtain ⟨q, hq⟩ : ∃ q, n / 10 = q := ⟨_, rfl⟩
      obtain ⟨r, hr⟩ : ∃ r, n % 10 = r := ⟨_, rfl⟩
      have hqi : (n : Int) / 10 = (q : Int) := by omega
      have hri : (n : Int) % 10 = (r : Int) := by omega
      have hqt : (n : Int).tdiv 10 = (q : Int) := by rw [Int.tdiv_eq_ediv_of_nonneg (by omega)]; exact hqi
      have hrt : (n : Int).tmod 10 = (r : Int) := by rw [Int.tmod_eq_emod_of_nonneg (by omega)]; exact hri
      have hr9 : r ≤ 9 := by omega
      have hrb : (r : Int) ≤ 9 := by omega
      have hw : IntKind.i64.wrap (48 + (r : Int)) = 48 + (r : Int) := IntWalk.i64_in _ ⟨by omega, by omega⟩
      have hw8 : IntKind.u8.wrap (48 + (r : Int)) = 48 + (r : Int) := IntWalk.u8_in _ ⟨by omega, by omega⟩
      have hwq : IntKind.i64.wrap (q : Int) = (q : Int) := IntWalk.i64_in _ ⟨by omega, by omega⟩
      have hd0 : decide ((n : Int) < 0) = false := by simp
      have HI := Lib.hid (fun w' => ih q (by omega) w' (by omega))
      have HE := Lib.hid (show bOf (Lib.decDigits q) ++ strOfNums [48 + (r : Int)] = bOf (Lib.decDigits n) by rw [← hq, ← hr]; exact dig_append n h10)
      have hsz : (bOf (Lib.decDigits q)).size ≤ 21 := by
        rw [bOf_size]
        have := Lib.itoa_length_le (q : Int) (by omega) (by omega)
        simpa [Lib.itoa, show ¬ ((q : Int) < 0) by omega] using this
      have hs1 : ∀ z : Int, (strOfNums [z]).size = 1 := fun z => by rw [strOfNums_size]; rfl
      clear h10 ih hq hr hqi hri
      go_enter Tryd.func44, Tryd.ntmps44
      go_wp2_with fail
      go_region_with (go_at_call 44
                      with_reducible refine (HI.out _).mono ?_
                      rintro e w3 ⟨rfl, hb3⟩
                      first | (have hcv3 := conv_after hb3) | skip)
      all_goals
        go_wp2_with fail
        go_ret
        refine ⟨by rw [HE.out]; rfl, ?_⟩
        first
        | exact (below_drew' hb3).alloc hb3.size _
        | exact ((Below.refl _ _).alloc (Nat.le_refl _) _).trans ((below_drew' hb3).mono (by simp))
theorem itoa_nat (n : Nat) : Lib.itoa (n : Int) = Lib.decDigits n := by unfold Lib.itoa; rw [if_neg (by omega)]; simp
theorem dec_int (n : Int) (h : 0 ≤ n) (h2 : n ≤ 1000000000000) (w : World) :
    Calls Tryd.prog 44 #[.int .i64 n] w fun e w' => e = .returned (.string (bOf (Lib.itoa n))) ∧ Below w.heap.size w w' := by
  obtain ⟨k, rfl⟩ := Int.eq_ofNat_of_zero_le h
  rw [itoa_nat]
  exact dec_c k w (by omega)
set_option maxRecDepth 100000 in
set_option maxHeartbeats 4000000 in
theorem decI_c (n : Int) (h : -1000000000000 ≤ n) (h2 : n ≤ 1000000000000) (w : World) :
    Calls Tryd.prog 44 #[.int .i64 n] w fun e w' => e = .returned (.string (bOf (Lib.itoa n))) ∧ Below w.heap.size w w' := by
  by_cases h0 : 0 ≤ n
  · exact dec_int n h0 h2 w
  · obtain ⟨m, hm⟩ : ∃ m : Int, -n = m := ⟨_, rfl⟩
    have hd0 : decide (n < 0) = true := by simp; omega
    have hsz : (bOf (Lib.itoa m)).size ≤ 21 := by
      rw [bOf_size]
      exact Lib.itoa_length_le m (by omega) (by omega)
    have hs1 : (⟨#[45]⟩ : ByteArray).size = 1 := rfl
    have HE := Lib.hid (show (⟨#[45]⟩ : ByteArray) ++ bOf (Lib.itoa m) = bOf (Lib.itoa n) by
      have e1 : Lib.itoa n = 45 :: Lib.decDigits n.natAbs := by unfold Lib.itoa; rw [if_pos (by omega)]
      have e2 : Lib.itoa m = Lib.decDigits n.natAbs := by
        obtain ⟨k, rfl⟩ := Int.eq_ofNat_of_zero_le (show 0 ≤ m by omega)
        rw [itoa_nat]
        congr 1
        omega
      rw [e1, e2]
      apply ByteArray.ext
      simp [bOf])
    have HD := Lib.hid (fun w' => dec_int m (by omega) (by omega) w')
    have Hm := Lib.hid hm
    go_enter Tryd.func44, Tryd.ntmps44
    go_wp2_with fail
    refine (HD.out _).mono ?_
    rintro e w1 ⟨rfl, hb⟩
    go_wp2_with fail
    go_ret
    exact ⟨by rw [HE.out]; rfl, hb⟩
end Go.Proofs.YtiegpkbollihgaaDoor
