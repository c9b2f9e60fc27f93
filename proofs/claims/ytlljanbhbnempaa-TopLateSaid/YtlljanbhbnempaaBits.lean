/- Bits of int64 numbers that are not negative, as Nat's own operations; the remainders of the laws. (The first five theorems are the guide's, turned to this claim.) -/
import Derived.Laws.BitsAllLaws
import Derived.Laws.BitsLemmas
import Derived.IntWalk
namespace Go.Proofs.Ytlljanbhbnempaa
open Go.RowKit
theorem ofInt_i64 (a : Nat) (ha : a < 9223372036854775808) : (BitVec.ofInt 64 (a : Int)).toNat = a := by
  rw [BitVec.ofInt_natCast, BitVec.toNat_ofNat]; exact Nat.mod_eq_of_lt (by omega)
theorem i64_and_nat (a b : Nat) (ha : a < 9223372036854775808) (hb : b < 9223372036854775808) : bits .and .i64 (a : Int) (b : Int) = ((a &&& b : Nat) : Int) := by
  have hx : a &&& b < 2 ^ 63 := Nat.and_lt_two_pow _ (by omega)
  show IntKind.i64.wrap ((BitVec.ofInt 64 (a : Int) &&& BitVec.ofInt 64 (b : Int)).toNat : Int) = _
  rw [BitVec.toNat_and, ofInt_i64 a ha, ofInt_i64 b hb, IntKind.wrap_i64]
  omega
theorem i64_or_nat (a b : Nat) (ha : a < 9223372036854775808) (hb : b < 9223372036854775808) : bits .or .i64 (a : Int) (b : Int) = ((a ||| b : Nat) : Int) := by
  have hx : a ||| b < 2 ^ 63 := Nat.or_lt_two_pow (by omega) (by omega)
  show IntKind.i64.wrap ((BitVec.ofInt 64 (a : Int) ||| BitVec.ofInt 64 (b : Int)).toNat : Int) = _
  rw [BitVec.toNat_or, ofInt_i64 a ha, ofInt_i64 b hb, IntKind.wrap_i64]
  omega
theorem i64_xor_nat (a b : Nat) (ha : a < 9223372036854775808) (hb : b < 9223372036854775808) : bits .xor .i64 (a : Int) (b : Int) = ((a ^^^ b : Nat) : Int) := by
  have hx : a ^^^ b < 2 ^ 63 := Nat.xor_lt_two_pow (by omega) (by omega)
  show IntKind.i64.wrap ((BitVec.ofInt 64 (a : Int) ^^^ BitVec.ofInt 64 (b : Int)).toNat : Int) = _
  rw [BitVec.toNat_xor, ofInt_i64 a ha, ofInt_i64 b hb, IntKind.wrap_i64]
  omega
/-- 'w>>k & 1' in the walk's spelling. -/
theorem i64_bit (n k : Nat) (hn : n < 9223372036854775808) : bits .and .i64 ((n : Int) / 2 ^ k) 1 = ((n / 2 ^ k % 2 : Nat) : Int) := by
  have e : ((n : Int) / 2 ^ k) = ((n / 2 ^ k : Nat) : Int) := by simp
  rw [e]
  have h := i64_and_nat (n / 2 ^ k) 1 (Nat.lt_of_le_of_lt (Nat.div_le_self _ _) hn) (by omega)
  rw [show ((1 : Nat) : Int) = 1 from rfl] at h
  rw [h, nat_mask1]
theorem i64_and1 (n : Nat) (hn : n < 9223372036854775808) : bits .and .i64 (n : Int) 1 = ((n % 2 : Nat) : Int) := by
  have h := i64_and_nat n 1 hn (by omega)
  rw [show ((1 : Nat) : Int) = 1 from rfl] at h
  rw [h, nat_mask1]
/-- 'b << p' in the walk's spelling, b and p small. -/
theorem i64_shl (b p : Nat) (hb : b < 65536) (hp : p ≤ 40) : wrap64 ((b : Int) * 2 ^ min p 64) = ((b * 2 ^ p : Nat) : Int) := by
  rw [Nat.min_eq_left (by omega)]
  have h1 : 2 ^ p ≤ 2 ^ 40 := Nat.pow_le_pow_right (by decide) hp
  have h2 : b * 2 ^ p ≤ 65536 * 2 ^ 40 := Nat.mul_le_mul (by omega) h1
  rw [show ((b : Int) * 2 ^ p) = ((b * 2 ^ p : Nat) : Int) by simp]
  exact IntWalk.wrap64_in _ ⟨by omega, by omega⟩
theorem i64_one_shl (p : Nat) (hp : p ≤ 40) : wrap64 (2 ^ min p 64) = ((2 ^ p : Nat) : Int) := by
  have h := i64_shl 1 p (by omega) hp
  simpa using h

/-- '(v%m + m) % m' is the remainder, not below 0. -/
theorem tmod_bd (v m : Int) (hm : 0 < m) : -m < v.tmod m ∧ v.tmod m < m := by
  constructor
  · have := Int.lt_tmod_of_pos v hm; omega
  · exact Int.tmod_lt_of_pos v hm
theorem mod_bd (v m : Int) (hm : 0 < m) : 0 ≤ v % m ∧ v % m < m := ⟨Int.emod_nonneg v (by omega), Int.emod_lt_of_pos v hm⟩
end Go.Proofs.Ytlljanbhbnempaa
