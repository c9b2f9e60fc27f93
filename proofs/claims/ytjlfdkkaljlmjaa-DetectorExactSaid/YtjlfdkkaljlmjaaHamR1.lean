/- The walks of layer 3's reference: places, syndrome, value, Encode, Decode, Distance. -/
import Derived.Test.YtjlfdkkaljlmjaaHamW3
namespace Go.Proofs.Ytjlfdkkaljlmjaa
open Go.RowKit
namespace Ham
def PL : List Int := [3, 5, 6, 7, 9, 10, 11, 12, 13, 14, 15]
theorem PL_at (k : Nat) (hk : k < 11) : PL.getD k 0 = (pl k : Int) := by
  match k, hk with
  | 0, _ | 1, _ | 2, _ | 3, _ | 4, _ | 5, _ | 6, _ | 7, _ | 8, _ | 9, _ | 10, _ => rfl
def oddTo (w k : Nat) : Bool := popTo w k % 2 == 1
theorem oddTo_succ (w k : Nat) : oddTo w (k + 1) = if w / 2 ^ k % 2 = 1 then !oddTo w k else oddTo w k := by
  unfold oddTo
  rw [popTo]
  rcases bit_of w k with h | h <;> rw [h] <;> rcases Nat.mod_two_eq_zero_or_one (popTo w k) with g | g
  · simp
  · simp
  · have : (popTo w k + 1) % 2 = 1 := by omega
    simp [g, this]
  · have : (popTo w k + 1) % 2 = 0 := by omega
    simp [g, this]
end Ham
theorem places_r (w : World) : Calls Try.prog 73 #[] w fun e w' => ∃ A c, e = .returned (.slice A 11 c) ∧ IR .i64 w' A 11 Ham.PL ∧ Below w.heap.size w w' := by
  go_enter Try.func73, Try.ntmps73
  go_wp2
  go_ret
  exact ⟨_, _, rfl, own_IR (World.ownsRow_lit w _ 11 (Nat.zero_le _) (by decide) rfl), (Below.refl _ _).alloc (Nat.le_refl _) _⟩
theorem xor_zero_step (n : Nat) : Ham.synTo n 1 = 0 := by simp [Ham.synTo]
set_option maxHeartbeats 400000 in
theorem syndrome_r (n : Nat) (hn : n < 65536) (w : World) :
    Calls Try.prog 74 #[.int .i64 n] w fun e w' => e = .returned (.tuple #[.int .i64 (Ham.syn n : Nat), .bool (Ham.oddTo n 16)]) ∧ w = w' := by
  go_enter Try.func74, Try.ntmps74
  go_wp2
  go_loop [4, 5, 6] (fun s o p => ∃ k : Nat, k ≤ 16 ∧ p = .int .i64 k ∧ s = .int .i64 (Ham.synTo n k : Nat) ∧ o = .bool (Ham.oddTo n k)) (fun _ _ p => 16 - (intOf p).toNat)
  case atStart => exact ⟨0, by omega, rfl, rfl, rfl⟩
  case round =>
    obtain ⟨k, hk2, rfl, rfl, rfl⟩ := hrel
    by_cases hlt : k < 16
    · have ho := Lib.hid (Ham.oddTo_succ n k)
      go_wp2
      · have h : (bits .and .i64 ((n : Int) / 2 ^ k) 1 == 1) = true := by assumption
        have h1 : n / 2 ^ k % 2 = 1 := by rw [i64_bit n k (by omega)] at h; have := eq_of_beq h; omega
        go_round
        case rel => exact ⟨k + 1, by omega, by go_num, vint (syn_step1 n k hn hlt h), by rw [ho.out, if_pos h1]⟩
        case measure => simp [intOf]; omega
      · have h : (bits .and .i64 ((n : Int) / 2 ^ k) 1 == 1) = false := by assumption
        have h1 : ¬ n / 2 ^ k % 2 = 1 := by rw [i64_bit n k (by omega)] at h; intro e; rw [e] at h; simp at h
        go_round
        case rel => exact ⟨k + 1, by omega, by go_num, by rw [syn_step0 n k hn h], by rw [ho.out, if_neg h1]⟩
        case measure => simp [intOf]; omega
    · obtain rfl : k = 16 := by omega
      go_wp2
      go_ret2
      exact ⟨rfl, rfl⟩
theorem shl_wrap (b p : Nat) (hb : b < 65536) (hp : p ≤ 40) : IntKind.i64.wrap ((b : Int) * 2 ^ p) = ((b * 2 ^ p : Nat) : Int) := by
  rw [IntWalk.i64_left]
  have h := i64_shl b p hb hp
  rwa [Nat.min_eq_left (by omega)] at h
set_option maxHeartbeats 800000 in
theorem value_r (n : Nat) (hn : n < 65536) (w : World) :
    Calls Try.prog 77 #[.int .i64 n] w fun e w' => e = .returned (.int .i64 (Ham.val n : Nat)) ∧ Below w.heap.size w w' := by
  go_enter Try.func77, Try.ntmps77
  go_wp2_with fail
  refine (places_r _).mono ?_
  rintro e w1 ⟨A, c, rfl, hpl, hb1⟩
  go_wp2_with fail
  go_loopw [3, 5] (fun s p wr => ∃ k : Nat, k ≤ 11 ∧ p = .int .i64 k ∧ s = .int .i64 (Ham.valTo n k : Nat) ∧ Below w1.heap.size w1 wr) (fun _ p _ => 11 - (intOf p).toNat)
  case atStart => exact ⟨0, by omega, rfl, rfl, Below.refl _ _⟩
  case round =>
    obtain ⟨k, hk, rfl, rfl, hbr⟩ := hrel
    by_cases hlt : k < 11
    · obtain ⟨ad, rfl, hba, hca⟩ := hpl.at_ hlt
      rw [Ham.PL_at k hlt] at hca
      have hca' := keep_cell hbr hca
      have hp := Ham.pl_le k
      have hv := val_step n k hn (by omega)
      rw [Nat.min_eq_left (show k ≤ 64 by omega)] at hv
      have Hv := Lib.hid hv
      clear hv
      clear hca
      go_wp2_with fail
      go_roundw
      case rel => exact ⟨k + 1, by omega, by go_num, vint Hv.out, hbr⟩
      case measure => simp [intOf]; omega
    · obtain rfl : k = 11 := by omega
      go_wp2_with fail
      go_ret
      exact ⟨rfl, below_step hb1 hbr⟩
theorem odd_word (d : Nat) : (if Ham.oddTo d 16 = true then d ||| 1 else d) = d ||| Ham.pop d % 2 := by
  unfold Ham.oddTo Ham.pop
  rcases Nat.mod_two_eq_zero_or_one (Ham.popTo d 16) with g | g <;> rw [g] <;> simp
theorem pow_bound (j : Nat) (hj : j ≤ 4) : 2 ^ j ≤ 16 ∧ 0 < 2 ^ j := pow_small j hj
set_option maxHeartbeats 1000000 in
theorem encode_r (v : Int) (w : World) :
    Calls Try.prog 66 #[.int .i64 v] w fun e w' => e = .returned (.tuple #[.int .i64 (Ham.encV v), .int .i64 (Ham.encE v)]) ∧ Below w.heap.size w w' := by
  by_cases h : v < 0 ∨ 2047 < v
  · have hr : Ham.encV v = 0 ∧ Ham.encE v = 2 := by simp [Ham.encV, Ham.encE, h]
    have Hr := Lib.hid hr
    clear hr
    by_cases h0 : v < 0
    · clear h
      go_enter Try.func66, Try.ntmps66
      go_wp2_with fail
      go_ret2
      exact ⟨ret2v Hr.out.1.symm Hr.out.2.symm, Below.refl _ _⟩
    · have h1 : 2047 < v := by omega
      clear h
      go_enter Try.func66, Try.ntmps66
      go_wp2_with fail
      go_ret2
      exact ⟨ret2v Hr.out.1.symm Hr.out.2.symm, Below.refl _ _⟩
  · obtain ⟨n, rfl⟩ := Int.eq_ofNat_of_zero_le (show 0 ≤ v by omega)
    have hr : Ham.encV (n : Int) = (Ham.word n : Nat) ∧ Ham.encE (n : Int) = 0 := by
      constructor
      · rw [Ham.encV, if_neg h]; rfl
      · rw [Ham.encE, if_neg h]
    have Hr := Lib.hid hr
    have hn : n < 2048 := by omega
    have hd0 : decide ((n : Int) < 0) = false := by simp
    have hd1 : decide (2047 < (n : Int)) = false := by simp; omega
    clear hr h
    go_enter Try.func66, Try.ntmps66
    go_wp2_with fail
    refine (places_r _).mono ?_
    rintro e w1 ⟨A, c, rfl, hpl, hb1⟩
    go_wp2_with fail
    go_loopw [4, 6] (fun d p wr => ∃ k : Nat, k ≤ 11 ∧ p = .int .i64 k ∧ d = .int .i64 (Ham.dataTo n k : Nat) ∧ Below w1.heap.size w1 wr) (fun _ p _ => 11 - (intOf p).toNat)
    case atStart => exact ⟨0, by omega, rfl, rfl, Below.refl _ _⟩
    case round =>
      obtain ⟨k, hk, rfl, rfl, hbr⟩ := hrel
      by_cases hlt : k < 11
      · obtain ⟨ad, rfl, hba, hca⟩ := hpl.at_ hlt
        rw [Ham.PL_at k hlt] at hca
        have hca' := keep_cell hbr hca
        have hp := Ham.pl_le k
        have e1 := i64_bit n k (by omega)
        have hbl := Ham.bit_lt n k
        have hdn := Lib.hid (show Ham.dataTo n (k + 1) = Ham.dataTo n k ||| (n / 2 ^ k % 2) * 2 ^ Ham.pl k from rfl)
        have hdl := Ham.dataTo_lt n k
        have hbp := Ham.bitpow hbl hp
        generalize n / 2 ^ k % 2 = b at e1 hbl hdn hbp
        have e2 := shl_wrap b (Ham.pl k) (by omega) (by omega)
        generalize b * 2 ^ Ham.pl k = y at e2 hdn hbp
        have e3 := i64_or_nat (Ham.dataTo n k) y (by omega) (by omega)
        clear hca
        go_wp2_with fail
        go_quiet (fail)
        go_wp2_with fail
        go_roundw
        case rel => exact ⟨k + 1, by omega, by go_num, by rw [hdn.out], below_drewN hbr _⟩
        case measure => simp [intOf]; omega
      · obtain rfl : k = 11 := by omega
        have hd := Ham.dataTo_lt n 11
        have hb1r := below_step hb1 hbr
        clear hb1 hbr hpl
        go_wp2_with fail
        refine (syndrome_r _ hd _).mono ?_
        rintro e w2 ⟨rfl, rfl⟩
        have hs := Ham.syn_lt (Ham.dataTo n 11)
        have hwc : Ham.chkTo (Ham.dataTo n 11) (Ham.syn (Ham.dataTo n 11)) 4 = Ham.wordC n := rfl
        have Hwc := Lib.hid hwc
        have Hd := Lib.hid (fun j (hj : j < 4) q hq h => chk_step (Ham.dataTo n 11) (Ham.syn (Ham.dataTo n 11)) j q hd hs hj hq h)
        have Hst := Lib.hid (fun j (hj : j < 4) q hq h => chk_stay (Ham.dataTo n 11) (Ham.syn (Ham.dataTo n 11)) j q hs hj hq h)
        go_wp2_with fail
        go_loop [4, 9] (fun d p => ∃ j : Nat, j ≤ 4 ∧ p = .int .i64 ((2 ^ j : Nat) : Int) ∧ d = .int .i64 (Ham.chkTo (Ham.dataTo n 11) (Ham.syn (Ham.dataTo n 11)) j : Nat)) (fun _ p => 16 - (intOf p).toNat)
        case atStart => exact ⟨0, by omega, rfl, rfl⟩
        case round =>
          obtain ⟨j, hj, rfl, rfl⟩ := hrel
          obtain ⟨hp1, hp2⟩ := pow_small j hj
          by_cases hj4 : j < 4
          · have hp3 : 2 ^ j ≤ 8 := by
              have : 2 ^ j ≤ 2 ^ 3 := Nat.pow_le_pow_right (by decide) (by omega)
              omega
            have hnx : (2 ^ (j + 1) : Nat) = 2 ^ j * 2 := Nat.pow_succ ..
            have Hnx := Lib.hid hnx
            clear hnx
            generalize hq : 2 ^ j = q at hp1 hp2 hp3 Hnx ⊢
            have Hq := Lib.hid hq
            clear hq
            go_wp2_with fail
            · have h : (bits .and .i64 ((Ham.syn (Ham.dataTo n 11) : Nat) : Int) (q : Int) != 0) = true := by assumption
              go_round
              case rel => exact ⟨j + 1, by omega, vint (by rw [Hnx.out]; omega), vint (Hd.out j hj4 q Hq.out h)⟩
              case measure => simp [intOf]; omega
            · have h : (bits .and .i64 ((Ham.syn (Ham.dataTo n 11) : Nat) : Int) (q : Int) != 0) = false := by assumption
              go_round
              case rel => exact ⟨j + 1, by omega, vint (by rw [Hnx.out]; omega), vint (by rw [Hst.out j hj4 q Hq.out h])⟩
              case measure => simp [intOf]; omega
          · obtain rfl : j = 4 := by omega
            have hc := Ham.wordC_lt n
            rw [Hwc.out]
            go_wp2_with fail
            refine (syndrome_r _ hc _).mono ?_
            rintro e w3 ⟨rfl, rfl⟩
            have how := Lib.hid (odd_word (Ham.wordC n))
            have hor := i64_or_nat (Ham.wordC n) 1 (by omega) (by omega)
            rw [show ((1 : Nat) : Int) = 1 from rfl] at hor
            have hor' := hor
            cases hodd : Ham.oddTo (Ham.wordC n) 16
            · have ho := how.out
              rw [hodd] at ho
              have Ho := Lib.hid ho
              clear hodd ho how
              go_wp2_with fail
              go_ret2
              exact ⟨ret2v (by rw [Hr.out.1]; exact congrArg Int.ofNat Ho.out) (by rw [Hr.out.2]), hb1r⟩
            · have ho := how.out
              rw [hodd] at ho
              have Ho := Lib.hid ho
              clear hodd ho how
              go_wp2_with fail
              go_ret2
              exact ⟨ret2v (by rw [Hr.out.1]; exact congrArg Int.ofNat Ho.out) (by rw [Hr.out.2]), hb1r⟩
end Go.Proofs.Ytjlfdkkaljlmjaa
