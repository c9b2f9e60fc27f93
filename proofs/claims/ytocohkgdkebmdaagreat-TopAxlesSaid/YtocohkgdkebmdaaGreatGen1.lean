/- The walks of humpgen's Ints and Bytes at two slices that read alike. -/
import Derived.Test.YtocohkgdkebmdaaGreatMem
import Derived.Test.YtocohkgdkebmdaaGreatTlMach
import Derived.Test.YtocohkgdkebmdaaGreatHamPlain
namespace Go.Proofs.YtocohkgdkebmdaaGreat
open Go.RowKit

/- the array of places -/
theorem places_c (w : World) : Calls Tryz.prog 65 #[] w fun e w' => e = .returned (.agg #[.int .i64 3, .int .i64 5, .int .i64 6, .int .i64 7, .int .i64 9, .int .i64 10, .int .i64 11, .int .i64 12, .int .i64 13, .int .i64 14, .int .i64 15]) ∧ Below w.heap.size w w' := by
  go_enter Tryz.func65, Tryz.ntmps65
  go_wp2
  exact bodyPost_ret (v := .agg #[.int .i64 3, .int .i64 5, .int .i64 6, .int .i64 7, .int .i64 9, .int .i64 10, .int .i64 11, .int .i64 12, .int .i64 13, .int .i64 14, .int .i64 15]) (by simp [results, Tryz.results65, go_sem]) rfl ⟨rfl, (Below.refl _ _).alloc (Nat.le_refl _) _⟩
set_option maxRecDepth 100000 in
theorem places_at (k : Nat) (hk : k < 11) : ∀ w, (Instr.index 128 (.agg #[.int .i64 3, .int .i64 5, .int .i64 6, .int .i64 7, .int .i64 9, .int .i64 10, .int .i64 11, .int .i64 12, .int .i64 13, .int .i64 14, .int .i64 15]) (.int .i64 (k : Int))).run Tryz.prog w = .ok (.int .i64 (Ham.pl k : Int)) w := by
  match k, hk with
  | 0, _ => exact fun _ => by kernel_rfl
  | 1, _ => exact fun _ => by kernel_rfl
  | 2, _ => exact fun _ => by kernel_rfl
  | 3, _ => exact fun _ => by kernel_rfl
  | 4, _ => exact fun _ => by kernel_rfl
  | 5, _ => exact fun _ => by kernel_rfl
  | 6, _ => exact fun _ => by kernel_rfl
  | 7, _ => exact fun _ => by kernel_rfl
  | 8, _ => exact fun _ => by kernel_rfl
  | 9, _ => exact fun _ => by kernel_rfl
  | 10, _ => exact fun _ => by kernel_rfl
/- syndrome -/
theorem syn_step1 (n k : Nat) (hn : n < 65536) (hk : k < 16) (h : (bits .and .i64 ((n : Int) / 2 ^ k) 1 == 1) = true) :
    bits .xor .i64 ((Ham.synTo n k : Nat) : Int) (k : Int) = ((Ham.synTo n (k + 1) : Nat) : Int) := by
  rw [i64_bit n k (by omega)] at h
  have h1 : n / 2 ^ k % 2 = 1 := by have := eq_of_beq h; omega
  have h2 := Ham.synTo_lt n k (by omega)
  rw [i64_xor_nat _ _ (by omega) (by omega), Ham.synTo, if_pos h1]
theorem syn_step0 (n k : Nat) (hn : n < 65536) (h : (bits .and .i64 ((n : Int) / 2 ^ k) 1 == 1) = false) :
    Ham.synTo n k = Ham.synTo n (k + 1) := by
  rw [i64_bit n k (by omega)] at h
  have h1 : ¬ n / 2 ^ k % 2 = 1 := by intro e; rw [e] at h; simp at h
  rw [Ham.synTo, if_neg h1]
set_option maxHeartbeats 400000 in
theorem syndrome_c (n : Nat) (hn : n < 65536) (w : World) :
    Calls Tryz.prog 66 #[.int .i64 n] w fun e w' => e = .returned (.int .i64 (Ham.syn n : Nat)) ∧ w = w' := by
  go_enter Tryz.func66, Tryz.ntmps66
  go_wp2
  go_loop [3, 4] (fun s p => ∃ k : Nat, 1 ≤ k ∧ k ≤ 16 ∧ p = .int .i64 k ∧ s = .int .i64 (Ham.synTo n k : Nat)) (fun _ p => 16 - (intOf p).toNat)
  case atStart => exact ⟨1, by omega, by omega, rfl, by simp [Ham.synTo]⟩
  case round =>
    obtain ⟨k, hk1, hk2, rfl, rfl⟩ := hrel
    by_cases hlt : k < 16
    · go_wp2
      · have h : (bits .and .i64 ((n : Int) / 2 ^ k) 1 == 1) = true := by assumption
        go_round
        case rel => exact ⟨k + 1, by omega, by omega, by go_num, vint (syn_step1 n k hn hlt h)⟩
        case measure => simp [intOf]; omega
      · have h : (bits .and .i64 ((n : Int) / 2 ^ k) 1 == 1) = false := by assumption
        go_round
        case rel => exact ⟨k + 1, by omega, by omega, by go_num, by rw [syn_step0 n k hn h]⟩
        case measure => simp [intOf]; omega
    · obtain rfl : k = 16 := by omega
      go_wp2
      go_ret
      exact ⟨rfl, rfl⟩
/- ones -/
set_option maxHeartbeats 400000 in
theorem ones_c (n : Nat) (hn : n < 65536) (w : World) :
    Calls Tryz.prog 67 #[.int .i64 n] w fun e w' => e = .returned (.int .i64 (Ham.pop n : Nat)) ∧ w = w' := by
  go_enter Tryz.func67, Tryz.ntmps67
  go_wp2
  go_loop [0, 3] (fun t c => ∃ x m : Nat, x < 65536 ∧ t = .int .i64 x ∧ c = .int .i64 m ∧ m + Ham.pop x = Ham.pop n) (fun t _ => (intOf t).toNat)
  case atStart => exact ⟨n, 0, hn, rfl, rfl, by omega⟩
  case round =>
    obtain ⟨x, m, hx, rfl, rfl, hm⟩ := hrel
    have hp := Ham.pop_le n
    have hm16 : m ≤ 16 := by omega
    have Hm := Lib.hid hm
    clear hm
    by_cases h0 : x = 0
    · subst h0
      go_wp2
      go_ret
      refine ⟨retv ?_, rfl⟩
      have := Hm.out
      rw [Ham.pop_zero] at this
      omega
    · have h1 : ((x : Int) != 0) = true := by simp; omega
      have hs : ((x : Int) - 1) = ((x - 1 : Nat) : Int) := by omega
      have ha : bits .and .i64 (x : Int) ((x : Int) - 1) = ((x &&& (x - 1) : Nat) : Int) := by rw [hs]; exact i64_and_nat _ _ (by omega) (by omega)
      have hk := Ham.pop_kern x h0 hx
      have hl := Ham.and_pred_less x h0
      have Ha := Lib.hid ha
      have Hs := Lib.hid hs
      have Hk := Lib.hid hk
      clear ha hs hk
      go_wp2
      go_round
      case rel => exact ⟨x &&& (x - 1), m + 1, by omega, vint Ha.out, by go_num, by have := Hm.out; have := Hk.out; omega⟩
      case measure => rw [Ha.out]; simp [intOf]; omega
/- word -/
theorem data_step (n k : Nat) (hn : n < 65536) :
    bits .or .i64 ((Ham.dataTo n k : Nat) : Int) (wrap64 (bits .and .i64 ((n : Int) / 2 ^ k) 1 * 2 ^ min (Ham.pl k) 64)) = ((Ham.dataTo n (k + 1) : Nat) : Int) := by
  have hb := Ham.bit_lt n k
  have hp := Ham.pl_le k
  have h1 := Ham.dataTo_lt n k
  have h2 := Ham.bitpow hb hp
  rw [i64_bit n k (by omega), i64_shl _ _ (by omega) (by omega), i64_or_nat _ _ (by omega) (by omega)]
  rfl
theorem chk_test (s j : Nat) (hs : s < 16) (hj : j < 4) : bits .and .i64 (s : Int) ((2 ^ j : Nat) : Int) = ((s &&& 2 ^ j : Nat) : Int) := by
  have h : 2 ^ j ≤ 2 ^ 4 := Nat.pow_le_pow_right (by decide) (by omega)
  exact i64_and_nat _ _ (by omega) (by omega)
theorem pow_small (j : Nat) (hj : j ≤ 4) : 2 ^ j ≤ 16 ∧ 0 < 2 ^ j := by
  refine ⟨?_, Nat.two_pow_pos j⟩
  have h : 2 ^ j ≤ 2 ^ 4 := Nat.pow_le_pow_right (by decide) hj
  omega
theorem chk_step (d s j q : Nat) (hd : d < 65536) (hs : s < 16) (hj : j < 4) (hq : 2 ^ j = q) (h : (bits .and .i64 (s : Int) (q : Int) != 0) = true) :
    bits .or .i64 ((Ham.chkTo d s j : Nat) : Int) (wrap64 (2 ^ q)) = ((Ham.chkTo d s (j + 1) : Nat) : Int) := by
  subst hq
  rw [chk_test s j hs hj] at h
  have h1 : ¬ s &&& 2 ^ j = 0 := by intro e; rw [e] at h; simp at h
  have h2 := Ham.chkTo_lt d s j hd (by omega)
  have h3 : 2 ^ j ≤ 8 := by
    have h : 2 ^ j ≤ 2 ^ 3 := Nat.pow_le_pow_right (by decide) (by omega)
    omega
  have h4 : 2 ^ 2 ^ j ≤ 2 ^ 8 := Nat.pow_le_pow_right (by decide) h3
  have h5 := i64_one_shl (2 ^ j) (by omega)
  rw [Nat.min_eq_left (by omega)] at h5
  rw [h5, i64_or_nat _ _ (by omega) (by omega), Ham.chkTo, if_neg h1]
theorem chk_stay (d s j q : Nat) (hs : s < 16) (hj : j < 4) (hq : 2 ^ j = q) (h : (bits .and .i64 (s : Int) (q : Int) != 0) = false) :
    Ham.chkTo d s j = Ham.chkTo d s (j + 1) := by
  subst hq
  rw [chk_test s j hs hj] at h
  have h1 : s &&& 2 ^ j = 0 := by
    have := of_decide_eq_true (show decide (((s &&& 2 ^ j : Nat) : Int) = 0) = true by simpa using h)
    omega
  rw [Ham.chkTo, if_pos h1]
set_option maxHeartbeats 800000 in
theorem word_c (n : Nat) (hn : n < 65536) (w : World) :
    Calls Tryz.prog 46 #[.int .i64 n] w fun e w' => e = .returned (.int .i64 (Ham.word n : Nat)) ∧ Below w.heap.size w w' := by
  go_enter Tryz.func46, Tryz.ntmps46
  go_wp2_with (go_at_call 65; refine (places_c _).mono ?_; rintro e w1 ⟨rfl, hb1⟩)
  go_loop [3, 4, 5, 9] (fun s _ _ p => ∃ k : Nat, k ≤ 11 ∧ p = .int .i64 k ∧ s = .int .i64 (Ham.dataTo n k : Nat)) (fun _ _ _ p => 11 - (intOf p).toNat)
  case atStart => exact ⟨0, by omega, rfl, rfl⟩
  case round =>
    obtain ⟨k, hk1, rfl, rfl⟩ := hrel
    by_cases hk : k < 11
    · have hpk := places_at k hk
      go_wp2
      go_round
      case rel => exact ⟨k + 1, by omega, by go_num, vint (data_step n k hn)⟩
      case measure => simp [intOf]; omega
    · obtain rfl : k = 11 := by omega
      have hd := Ham.dataTo_lt n 11
      go_wp2_with (go_at_call 66; refine (syndrome_c _ (by omega) _).mono ?_; rintro e w2 ⟨rfl, rfl⟩)
      have hs := Ham.syn_lt (Ham.dataTo n 11)
      go_loop [3, 7] (fun d p => ∃ j : Nat, j ≤ 4 ∧ p = .int .i64 ((2 ^ j : Nat) : Int) ∧ d = .int .i64 (Ham.chkTo (Ham.dataTo n 11) (Ham.syn (Ham.dataTo n 11)) j : Nat)) (fun _ p => 16 - (intOf p).toNat)
      case atStart => exact ⟨0, by omega, rfl, rfl⟩
      case round =>
        obtain ⟨j, hj, rfl, rfl⟩ := hrel
        obtain ⟨hp1, hp2⟩ := pow_small j hj
        by_cases hj4 : j < 4
        · have hp3 : 2 ^ j < 16 := Nat.pow_lt_pow_right (by decide) hj4 (m := j) (n := 4)
          have hnx : (2 ^ (j + 1) : Nat) = 2 ^ j * 2 := Nat.pow_succ ..
          have Hnx := Lib.hid hnx
          clear hnx
          generalize hq : 2 ^ j = q at hp1 hp2 hp3 Hnx ⊢
          have Hq := Lib.hid hq
          clear hq
          go_wp2
          · have h : (bits .and .i64 ((Ham.syn (Ham.dataTo n 11) : Nat) : Int) (q : Int) != 0) = true := by assumption
            go_round
            case rel => exact ⟨j + 1, by omega, vint (by rw [Hnx.out]; omega), vint (chk_step _ _ j q hd hs hj4 Hq.out h)⟩
            case measure => simp [intOf]; omega
          · have h : (bits .and .i64 ((Ham.syn (Ham.dataTo n 11) : Nat) : Int) (q : Int) != 0) = false := by assumption
            go_round
            case rel => exact ⟨j + 1, by omega, vint (by rw [Hnx.out]; omega), vint (by rw [chk_stay _ _ j q hs hj4 Hq.out h])⟩
            case measure => simp [intOf]; omega
        · obtain rfl : j = 4 := by omega
          have hc := Ham.wordC_lt n
          have hpo := Ham.pop_le (Ham.wordC n)
          have e1 : bits .and .i64 ((Ham.pop (Ham.wordC n) : Nat) : Int) 1 = ((Ham.pop (Ham.wordC n) % 2 : Nat) : Int) := i64_and1 _ (by omega)
          have e2 : bits .or .i64 ((Ham.wordC n : Nat) : Int) ((Ham.pop (Ham.wordC n) % 2 : Nat) : Int) = ((Ham.word n : Nat) : Int) := i64_or_nat _ _ (by omega) (by omega)
          have E1 := Lib.hid e1
          have E2 := Lib.hid e2
          clear e1 e2
          rw [show Ham.chkTo (Ham.dataTo n 11) (Ham.syn (Ham.dataTo n 11)) 4 = Ham.wordC n from rfl]
          go_wp2_with (go_at_call 67; refine (ones_c _ (by omega) _).mono ?_; rintro e w3 ⟨rfl, rfl⟩)
          go_ret
          exact ⟨retv (by rw [E1.out, E2.out]), hb1⟩
/- Encode, Decode, Distance -/
/- Decode -/
theorem val_step (x k : Nat) (hx : x < 65536) (hk : k < 11) :
    bits .or .i64 ((Ham.valTo x k : Nat) : Int) (wrap64 (bits .and .i64 ((x : Int) / 2 ^ Ham.pl k) 1 * 2 ^ min k 64)) = ((Ham.valTo x (k + 1) : Nat) : Int) := by
  have hb := Ham.bit_lt x (Ham.pl k)
  have h1 := Ham.valTo_lt x k (by omega)
  have h2 := Ham.bitpow hb (show k ≤ 15 by omega)
  rw [i64_bit x _ (by omega), i64_shl _ _ (by omega) (by omega), i64_or_nat _ _ (by omega) (by omega)]
  rfl
theorem val_step' (x k : Nat) (hx : x < 65536) (hk : k < 11) :
    bits .or .i64 ((Ham.valTo x k : Nat) : Int) (wrap64 (bits .and .i64 ((x : Int) / 2 ^ min (Ham.pl k) 64) 1 * 2 ^ k)) = ((Ham.valTo x (k + 1) : Nat) : Int) := by
  have h := val_step x k hx hk
  have hp := Ham.pl_le k
  rw [Nat.min_eq_left (show k ≤ 64 by omega)] at h
  rwa [Nat.min_eq_left (show Ham.pl k ≤ 64 by omega)]
set_option maxHeartbeats 800000 in
theorem decode_c (v : Int) (w : World) :
    Calls Tryz.prog 47 #[.int .i64 v] w fun e w' => e = .returned (.tuple #[.int .i64 (Ham.dV v), .int .i64 (Ham.dB v), .int .i64 (Ham.dE v)]) ∧ Below w.heap.size w w' := by
  by_cases h : v < 0 ∨ 65535 < v
  · have hr : Ham.dV v = 0 ∧ Ham.dB v = 0 ∧ Ham.dE v = 2 := by simp [Ham.dV, Ham.dB, Ham.dE, h]
    have Hr := Lib.hid hr
    clear hr
    by_cases h0 : v < 0
    · clear h
      go_enter Tryz.func47, Tryz.ntmps47
      go_wp2
      go_ret3
      exact ⟨ret3v Hr.out.1.symm Hr.out.2.1.symm Hr.out.2.2.symm, Below.refl _ _⟩
    · have h1 : 65535 < v := by omega
      clear h
      go_enter Tryz.func47, Tryz.ntmps47
      go_wp2
      go_ret3
      exact ⟨ret3v Hr.out.1.symm Hr.out.2.1.symm Hr.out.2.2.symm, Below.refl _ _⟩
  · obtain ⟨n, rfl⟩ := Int.eq_ofNat_of_zero_le (show 0 ≤ v by omega)
    have hr : Ham.dV (n : Int) = (Ham.decV n : Nat) ∧ Ham.dB (n : Int) = Ham.decB n ∧ Ham.dE (n : Int) = Ham.decE n := by
      refine ⟨?_, ?_, ?_⟩
      · rw [Ham.dV, if_neg h]; rfl
      · rw [Ham.dB, if_neg h]; rfl
      · rw [Ham.dE, if_neg h]; rfl
    have Hr := Lib.hid hr
    clear hr
    have h1 : n < 65536 := by omega
    clear h
    have hs := Ham.syn_lt n
    have hpl := Ham.pop_le n
    have hb0 : decide ((n : Int) < 0) = false := by simp
    have hb1 : decide (65535 < (n : Int)) = false := by simp; omega
    by_cases hp : Ham.pop n % 2 = 1
    · have hd : Ham.decV n = Ham.val (n ^^^ 2 ^ Ham.syn n) ∧ Ham.decB n = (Ham.syn n : Nat) ∧ Ham.decE n = 0 := by simp [Ham.decV, Ham.decB, Ham.decE, hp]
      have Hd := Lib.hid hd
      have hp' : (((Ham.pop n : Nat) : Int) % 2 == 1) = true := by simp; omega
      have hx : bits .xor .i64 (n : Int) (wrap64 (2 ^ Ham.syn n)) = ((n ^^^ 2 ^ Ham.syn n : Nat) : Int) := by
        have h5 := i64_one_shl (Ham.syn n) (by omega)
        rw [Nat.min_eq_left (by omega)] at h5
        have h6 := Ham.pow16 (show Ham.syn n ≤ 15 by omega)
        rw [h5, i64_xor_nat _ _ (by omega) (by omega)]
      have hxl := Ham.xor16 h1 (Ham.pow16 (show Ham.syn n ≤ 15 by omega))
      clear hd hp
      go_enter Tryz.func47, Tryz.ntmps47
      go_wp2_with (first
        | (go_at_call 66; refine (syndrome_c _ (by omega) _).mono ?_; rintro e w3 ⟨rfl, rfl⟩)
        | (go_at_call 67; refine (ones_c _ (by omega) _).mono ?_; rintro e w3 ⟨rfl, rfl⟩)
        | (go_at_call 65; refine (places_c _).mono ?_; rintro e w1 ⟨rfl, hb1⟩))
      go_loop [2, 6, 7, 30] (fun s _ _ p => ∃ k : Nat, k ≤ 11 ∧ p = .int .i64 k ∧ s = .int .i64 (Ham.valTo (n ^^^ 2 ^ Ham.syn n) k : Nat)) (fun _ _ _ p => 11 - (intOf p).toNat)
      case atStart => exact ⟨0, by omega, rfl, rfl⟩
      case round =>
        obtain ⟨k, hk1, rfl, rfl⟩ := hrel
        by_cases hk : k < 11
        · have hpk := places_at k hk
          go_wp2
          go_round
          case rel => exact ⟨k + 1, by omega, by go_num, vint (val_step' (n ^^^ 2 ^ Ham.syn n) k hxl hk)⟩
          case measure => simp [intOf]; omega
        · obtain rfl : k = 11 := by omega
          go_wp2
          go_ret3
          exact ⟨ret3v (by rw [Hr.out.1, Hd.out.1]; rfl) (by rw [Hr.out.2.1, Hd.out.2.1]) (by rw [Hr.out.2.2, Hd.out.2.2]), hb1⟩
    · have hp' : (((Ham.pop n : Nat) : Int) % 2 == 1) = false := by simp; omega
      by_cases h0 : Ham.syn n = 0
      · have hd : Ham.decV n = Ham.val n ∧ Ham.decB n = -1 ∧ Ham.decE n = 0 := by simp [Ham.decV, Ham.decB, Ham.decE, hp, h0]
        have Hd := Lib.hid hd
        have h0' : (((Ham.syn n : Nat) : Int) != 0) = false := by simp [h0]
        clear hd hp h0
        go_enter Tryz.func47, Tryz.ntmps47
        go_wp2_with (first
          | (go_at_call 66; refine (syndrome_c _ (by omega) _).mono ?_; rintro e w3 ⟨rfl, rfl⟩)
          | (go_at_call 67; refine (ones_c _ (by omega) _).mono ?_; rintro e w3 ⟨rfl, rfl⟩)
          | (go_at_call 65; refine (places_c _).mono ?_; rintro e w1 ⟨rfl, hb1⟩))
        go_loop [2, 6, 7, 30] (fun s _ _ p => ∃ k : Nat, k ≤ 11 ∧ p = .int .i64 k ∧ s = .int .i64 (Ham.valTo n k : Nat)) (fun _ _ _ p => 11 - (intOf p).toNat)
        case atStart => exact ⟨0, by omega, rfl, rfl⟩
        case round =>
          obtain ⟨k, hk1, rfl, rfl⟩ := hrel
          by_cases hk : k < 11
          · have hpk := places_at k hk
            go_wp2
            go_round
            case rel => exact ⟨k + 1, by omega, by go_num, vint (val_step' n k h1 hk)⟩
            case measure => simp [intOf]; omega
          · obtain rfl : k = 11 := by omega
            go_wp2
            go_ret3
            exact ⟨ret3v (by rw [Hr.out.1, Hd.out.1]; rfl) (by rw [Hr.out.2.1, Hd.out.2.1]) (by rw [Hr.out.2.2, Hd.out.2.2]), hb1⟩
      · have hd : Ham.decV n = 0 ∧ Ham.decB n = 0 ∧ Ham.decE n = 9 := by simp [Ham.decV, Ham.decB, Ham.decE, hp, h0]
        have Hd := Lib.hid hd
        have h0' : (((Ham.syn n : Nat) : Int) != 0) = true := by simp [h0]
        clear hd hp h0
        go_enter Tryz.func47, Tryz.ntmps47
        go_wp2_with (first
          | (go_at_call 66; refine (syndrome_c _ (by omega) _).mono ?_; rintro e w3 ⟨rfl, rfl⟩)
          | (go_at_call 67; refine (ones_c _ (by omega) _).mono ?_; rintro e w3 ⟨rfl, rfl⟩)
          | (go_at_call 65; refine (places_c _).mono ?_; rintro e w1 ⟨rfl, hb1⟩))
        go_ret3
        exact ⟨ret3v (by rw [Hr.out.1, Hd.out.1]; rfl) (by rw [Hr.out.2.1, Hd.out.2.1]) (by rw [Hr.out.2.2, Hd.out.2.2]), Below.refl _ _⟩
end Go.Proofs.YtocohkgdkebmdaaGreat
namespace Go.Proofs.YtocohkgdkebmdaaGreat
open Go.RowKit
theorem decode_nat (x v : Nat) (b e0 : Int) (hx : x < 65536) (h : Ham.decV x = v ∧ Ham.decB x = b ∧ Ham.decE x = e0) (w : World) :
    Calls Tryz.prog 47 #[.int .i64 x] w fun e w' => e = .returned (.tuple #[.int .i64 v, .int .i64 b, .int .i64 e0]) ∧ Below w.heap.size w w' :=
  (decode_c x w).mono fun _ _ ⟨he, hb⟩ => ⟨by
    rw [he, Ham.dV, Ham.dB, Ham.dE, if_neg (by omega), if_neg (by omega), if_neg (by omega), Int.toNat_natCast, h.1, h.2.1, h.2.2], hb⟩
end Go.Proofs.YtocohkgdkebmdaaGreat
namespace Go.Proofs.YtocohkgdkebmdaaGreat
open Go.RowKit
theorem sl_int_b : SlT Tryz.prog 22 3 1 8 := slT_of (z := .int .i64 0) Tryz.underlying22 (by kernel_rfl) rfl (by omega)
theorem sl_u8 : SlT Tryz.prog 34 5 1 1 := slT_of (z := .int .u8 0) Tryz.underlying34 (by kernel_rfl) rfl (by omega)
end Go.Proofs.YtocohkgdkebmdaaGreat
