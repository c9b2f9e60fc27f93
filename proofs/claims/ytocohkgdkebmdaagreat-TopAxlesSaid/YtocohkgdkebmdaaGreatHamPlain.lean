/- The plain mathematics of layer 3 (hamming): words of 16 bits over Nat, syndrome, weight, code word, decoding. No program in sight. -/
import Derived.Test.YtocohkgdkebmdaaGreatV3
namespace Go.Proofs.YtocohkgdkebmdaaGreat
open Go.RowKit
theorem drop_cons {l : List V3} {k : Nat} {p : V3} (h : l[k]? = some p) : l.drop k = p :: l.drop (k + 1) := by
  obtain ⟨hk, rfl⟩ := List.getElem?_eq_some_iff.1 h
  exact List.drop_eq_getElem_cons hk
def prevT (l : List V3) : Nat → Option Int
  | 0 => none
  | k + 1 => (l[k]?).map (·.b)
set_option maxHeartbeats 1000000 in
theorem valid_c (A : Option Addr) (n c : Nat) (l : List V3) (w : World) (hn : n ≤ maxLen) (h : VR w A n l) :
    Calls Tryz.prog 23 #[.slice A n c] w fun e w' => e = .returned (.int .i64 (Det.vErr l)) ∧ Below w.heap.size w w' := by
  have hl := h.len
  unfold maxLen at hn
  by_cases hbig : 4096 < n
  · have hr : Det.vErr l = 3 := by rw [Det.vErr, if_pos (by omega)]
    have Hr := Lib.hid hr
    clear hr
    go_enter Tryz.func23, Tryz.ntmps23
    go_wp2_with fail
    go_ret
    exact ⟨retv Hr.out.symm, Below.refl _ _⟩
  · have hr : Det.vErr l = Det.vGo l none := by rw [Det.vErr, if_neg (by omega)]
    have Hr := Lib.hid hr
    have hd1 : decide (4096 < (n : Int)) = false := by simp; omega
    clear hr
    go_enter Tryz.func23, Tryz.ntmps23
    go_wp2_with fail
    go_loopw [3, 4, 10] (fun _ _ p wr => ∃ k : Nat, k ≤ n ∧ p = .int .i64 k ∧ Hid (Det.vErr l = Det.vGo (l.drop k) (prevT l k)) ∧ Below w.heap.size w wr) (fun _ _ p _ => n - (intOf p).toNat)
    case atStart => exact ⟨0, by omega, rfl, Hr, Below.refl _ _⟩
    case round =>
      obtain ⟨k, hk, rfl, hgo, hbr⟩ := hrel
      by_cases hlt : k < n
      · obtain ⟨ad, ⟨pa, pb, pc⟩, rfl, hba, hp, c1, c2, c3⟩ := h.at_ hlt
        have d1 := keep_cell hbr c1
        have d2 := keep_cell hbr c2
        have d3 := keep_cell hbr c3
        have hdr := drop_cons hp
        have Hp := Lib.hid hp
        have Hdr := Lib.hid hdr
        clear hp c1 c2 c3 hdr
        simp only at d1 d2 d3
        by_cases hok : Det.okP ⟨pa, pb, pc⟩ = true
        · have hst := Lib.hid (Det.vGo_ok (prevT l k) ⟨pa, pb, pc⟩ (l.drop (k + 1)) hok)
          simp only [Det.okP, Bool.and_eq_true, Bool.or_eq_true, decide_eq_true_eq] at hok
          obtain ⟨⟨⟨⟨o1, o2⟩, o3⟩, o4⟩, o5⟩ := hok
          have e1 : decide (pa < 0) = false := by simp; omega
          have e2 : decide (32 ≤ pa) = false := by simp; omega
          have e3 : decide (pb < 0) = false := by simp; omega
          have e4 : decide (1000000000 < pb) = false := by simp; omega
          have O5 := Lib.hid o5
          have hcc : (pc != 1) = false ∨ (pc != 1) = true ∧ (pc != -1) = false := by
            rcases o5 with rfl | rfl
            · exact .inl (by decide)
            · exact .inr ⟨by decide, by decide⟩
          clear o5
          have Hpt := Lib.hid (show prevT l (k + 1) = some pb by rw [prevT, Hp.out]; rfl)
          by_cases hk0 : k = 0
          · have hfin : Det.vErr l = Det.vGo (l.drop (k + 1)) (some pb) := by rw [hgo.out, Hdr.out, hst.out, hk0]; rfl
            have Hf := Lib.hid hfin
            have hB : decide (0 < (k : Int)) = false := by simp; omega
            have hB' : decide (0 < k) = false := by simp; omega
            clear hgo hst hfin hk0
            rcases hcc with e5 | ⟨e5, e6⟩
            all_goals
              go_wp2_with fail
              go_quiet (fail)
              go_wp2_with fail
              go_roundw
              case rel => exact ⟨k + 1, by omega, by go_num, Lib.hid (by rw [Hpt.out]; exact Hf.out), below_drewN (hbr.alloc hbr.size _) _⟩
              case measure => simp [intOf]; omega
          · obtain ⟨j, hj⟩ : ∃ j, k = j + 1 := ⟨k - 1, by omega⟩
            obtain ⟨ad', q, hea, _, hq, _, g2, _⟩ := h.at_ (i := j) (by omega)
            obtain rfl := Option.some.inj hea
            have f2 := keep_cell hbr g2
            have Hpq := Lib.hid (show prevT l k = some q.b by rw [hj, prevT, hq]; rfl)
            have hB : decide (0 < (k : Int)) = true := by simp; omega
            have hB' : decide (0 < k) = true := by simp; omega
            have hkj : (k : Int) - 1 = (j : Int) := by omega
            have hkw : IntKind.i64.wrap (j : Int) = (j : Int) := IntWalk.i64_in _ ⟨by omega, by omega⟩
            have hjn : (j : Int) < (n : Int) := by omega
            clear hea hq g2 hj hk0
            generalize q.b = qb at f2 Hpq
            have f3 := cell_alloc f2
            by_cases hearly : pb < qb
            · have hfin : Det.vErr l = 12 := by
                rw [hgo.out, Hdr.out, hst.out, Hpq.out, if_pos (by simp [Det.early]; omega)]
              have Hf := Lib.hid hfin
              clear hgo hst hfin
              rcases hcc with e5 | ⟨e5, e6⟩
              all_goals
                go_wp2_with fail
                go_quiet (fail)
                go_wp2_with fail
                go_ret
                exact ⟨retv Hf.out.symm, below_drewN (hbr.alloc hbr.size _) _⟩
            · have hfin : Det.vErr l = Det.vGo (l.drop (k + 1)) (some pb) := by
                rw [hgo.out, Hdr.out, hst.out, Hpq.out, if_neg (by simp [Det.early]; omega)]
              have Hf := Lib.hid hfin
              clear hgo hst hfin
              rcases hcc with e5 | ⟨e5, e6⟩
              all_goals
                go_wp2_with fail
                go_quiet (fail)
                go_wp2_with fail
                go_roundw
                case rel => exact ⟨k + 1, by omega, by go_num, Lib.hid (by rw [Hpt.out]; exact Hf.out), below_drewN (hbr.alloc hbr.size _) _⟩
                case measure => simp [intOf]; omega
        · have hbad : Det.okP ⟨pa, pb, pc⟩ = false := by simpa using hok
          have hfin : Det.vErr l = 1 := by rw [hgo.out, Hdr.out, Det.vGo_bad _ _ _ hbad]
          have Hf := Lib.hid hfin
          simp only [Det.okP, Bool.and_eq_true, Bool.or_eq_true, decide_eq_true_eq] at hok
          clear hgo hfin hbad
          by_cases hc : pc = 1 ∨ pc = -1
          · have hB : (decide (pa < 0) || decide (32 ≤ pa) || decide (pb < 0) || decide (1000000000 < pb)) = true := by
              simp only [Bool.or_eq_true, decide_eq_true_eq]
              omega
            have hcc : (pc != 1) = false ∨ (pc != 1) = true ∧ (pc != -1) = false := by
              rcases hc with rfl | rfl
              · exact .inl (by decide)
              · exact .inr ⟨by decide, by decide⟩
            clear hok hc
            rcases hcc with e5 | ⟨e5, e6⟩
            all_goals
              go_wp2_with fail
              all_goals
                go_ret
                exact ⟨retv Hf.out.symm, hbr.alloc hbr.size _⟩
          · have e5 : (pc != 1) = true := by simp; omega
            have e6 : (pc != -1) = true := by simp; omega
            clear hok hc
            go_wp2_with fail
            all_goals
              go_ret
              exact ⟨retv Hf.out.symm, hbr.alloc hbr.size _⟩
      · obtain rfl : k = n := by omega
        go_wp2_with fail
        go_ret
        refine ⟨retv ?_, hbr⟩
        rw [hgo.out, List.drop_eq_nil_of_le (by omega)]
        rfl
end Go.Proofs.YtocohkgdkebmdaaGreat
namespace Go.Proofs.YtocohkgdkebmdaaGreat.Ham

/-- The exclusive or of the numbers below k of the bits that are set. -/
def synTo (w : Nat) : Nat → Nat
  | 0 => 0
  | k + 1 => if w / 2 ^ k % 2 = 1 then synTo w k ^^^ k else synTo w k
def syn (w : Nat) : Nat := synTo w 16
/-- The number of bits below k that are set. -/
def popTo (w : Nat) : Nat → Nat
  | 0 => 0
  | k + 1 => popTo w k + w / 2 ^ k % 2
def pop (w : Nat) : Nat := popTo w 16
/-- The places of the data bits. -/
def pl (k : Nat) : Nat := [3, 5, 6, 7, 9, 10, 11, 12, 13, 14, 15].getD k 0
def dataTo (v : Nat) : Nat → Nat
  | 0 => 0
  | k + 1 => dataTo v k ||| (v / 2 ^ k % 2) * 2 ^ pl k
def chkTo (w s : Nat) : Nat → Nat
  | 0 => w
  | j + 1 => if s &&& 2 ^ j = 0 then chkTo w s j else chkTo w s j ||| 2 ^ (2 ^ j)
def wordC (v : Nat) : Nat := chkTo (dataTo v 11) (syn (dataTo v 11)) 4
def word (v : Nat) : Nat := wordC v ||| pop (wordC v) % 2
def valTo (w : Nat) : Nat → Nat
  | 0 => 0
  | k + 1 => valTo w k ||| (w / 2 ^ pl k % 2) * 2 ^ k
def val (w : Nat) : Nat := valTo w 11
theorem pl_le (k : Nat) : pl k ≤ 15 := by
  match k with
  | 0 | 1 | 2 | 3 | 4 | 5 | 6 | 7 | 8 | 9 | 10 => decide
  | n + 11 => simp [pl]
theorem bit_lt (w k : Nat) : w / 2 ^ k % 2 < 2 := Nat.mod_lt _ (by decide)
theorem bit_of (w k : Nat) : w / 2 ^ k % 2 = 0 ∨ w / 2 ^ k % 2 = 1 := by have := bit_lt w k; omega
theorem or16 {a b : Nat} (ha : a < 65536) (hb : b < 65536) : a ||| b < 65536 := Nat.or_lt_two_pow (n := 16) ha hb
theorem xor16 {a b : Nat} (ha : a < 65536) (hb : b < 65536) : a ^^^ b < 65536 := Nat.xor_lt_two_pow (n := 16) ha hb
theorem pow16 {k : Nat} (hk : k ≤ 15) : 2 ^ k < 65536 := Nat.pow_lt_pow_right (a := 2) (by decide) (show k < 16 by omega)
theorem bitpow {b k : Nat} (hb : b < 2) (hk : k ≤ 15) : b * 2 ^ k < 65536 := by
  have h := pow16 hk
  have : b = 0 ∨ b = 1 := by omega
  rcases this with rfl | rfl <;> omega
theorem synTo_lt (w k : Nat) (hk : k ≤ 16) : synTo w k < 16 := by
  induction k with
  | zero => simp [synTo]
  | succ k ih =>
    unfold synTo
    have h1 := ih (by omega)
    split
    · exact Nat.xor_lt_two_pow (n := 4) h1 (show k < 16 by omega)
    · exact h1
theorem syn_lt (w : Nat) : syn w < 16 := synTo_lt w 16 (by omega)
theorem popTo_le (w k : Nat) : popTo w k ≤ k := by
  induction k with
  | zero => simp [popTo]
  | succ k ih => unfold popTo; have := bit_lt w k; omega
theorem pop_le (w : Nat) : pop w ≤ 16 := popTo_le w 16
theorem dataTo_lt (v k : Nat) : dataTo v k < 65536 := by
  induction k with
  | zero => simp [dataTo]
  | succ k ih => exact or16 ih (bitpow (bit_lt _ _) (pl_le k))
theorem chkTo_lt (w s j : Nat) (hw : w < 65536) (hj : j ≤ 4) : chkTo w s j < 65536 := by
  induction j with
  | zero => exact hw
  | succ j ih =>
    have h1 := ih (by omega)
    unfold chkTo
    split
    · exact h1
    · refine or16 h1 (pow16 ?_)
      have : j = 0 ∨ j = 1 ∨ j = 2 ∨ j = 3 := by omega
      rcases this with rfl | rfl | rfl | rfl <;> decide
theorem wordC_lt (v : Nat) : wordC v < 65536 := chkTo_lt _ _ _ (dataTo_lt _ _) (by omega)
theorem word_lt (v : Nat) : word v < 65536 := or16 (wordC_lt v) (by omega)
theorem valTo_lt (w k : Nat) (hk : k ≤ 11) : valTo w k < 2048 := by
  induction k with
  | zero => simp [valTo]
  | succ k ih =>
    refine Nat.or_lt_two_pow (n := 11) (ih (by omega)) ?_
    have h := bit_lt w (pl k)
    have h2 : 2 ^ k < 2 ^ 11 := Nat.pow_lt_pow_right (by decide) (by omega)
    have : w / 2 ^ pl k % 2 = 0 ∨ w / 2 ^ pl k % 2 = 1 := by omega
    rcases this with h | h <;> rw [h] <;> omega
theorem val_lt (w : Nat) : val w < 2048 := valTo_lt w 11 (by omega)
/- the weight, counted from the lowest bit -/
theorem popTo_half (x f : Nat) : popTo x (f + 1) = x % 2 + popTo (x / 2) f := by
  induction f with
  | zero => simp [popTo]
  | succ f ih =>
    show popTo x (f + 1) + x / 2 ^ (f + 1) % 2 = x % 2 + (popTo (x / 2) f + x / 2 / 2 ^ f % 2)
    rw [ih, Nat.div_div_eq_div_mul, Nat.pow_succ, Nat.mul_comm 2 (2 ^ f)]
    omega
theorem popTo_zero (f : Nat) : popTo 0 f = 0 := by
  induction f with
  | zero => rfl
  | succ f ih => simp [popTo, ih]
theorem and_half (a b : Nat) : (a &&& b) / 2 = a / 2 &&& b / 2 := by
  have := Nat.shiftRight_and_distrib (a := a) (b := b) (i := 1)
  simpa [Nat.shiftRight_eq_div_pow] using this
theorem and_bit (a b : Nat) : (a &&& b) % 2 = a % 2 * (b % 2) := by
  have h : (a &&& b) % 2 = a % 2 &&& b % 2 := Nat.and_mod_two_pow (n := 1)
  rw [h]
  rcases Nat.mod_two_eq_zero_or_one a with h | h <;> rcases Nat.mod_two_eq_zero_or_one b with h' | h' <;> rw [h, h'] <;> decide
theorem xor_bit (a b : Nat) : (a ^^^ b) % 2 = (a % 2 + b % 2) % 2 := by
  have h : (a ^^^ b) % 2 = a % 2 ^^^ b % 2 := Nat.xor_mod_two_pow (n := 1)
  rw [h]
  rcases Nat.mod_two_eq_zero_or_one a with h | h <;> rcases Nat.mod_two_eq_zero_or_one b with h' | h' <;> rw [h, h'] <;> decide
/-- Clearing the lowest bit that is set lowers the weight by one. -/
theorem popTo_kern (f : Nat) : ∀ x : Nat, 0 < x → x < 2 ^ f → popTo (x &&& (x - 1)) f + 1 = popTo x f := by
  induction f with
  | zero => intro x h0 h1; simp at h1; omega
  | succ f ih =>
    intro x h0 h1
    rw [popTo_half, popTo_half, and_half, and_bit]
    rw [Nat.pow_succ] at h1
    rcases Nat.mod_two_eq_zero_or_one x with h | h
    · have e : (x - 1) / 2 = x / 2 - 1 := by omega
      have := ih (x / 2) (by omega) (by omega)
      rw [e, h]
      omega
    · have e : (x - 1) / 2 = x / 2 := by omega
      have e2 : (x - 1) % 2 = 0 := by omega
      rw [e, e2, h, Nat.and_self]
      omega
theorem pop_kern (x : Nat) (h0 : x ≠ 0) (h1 : x < 65536) : pop (x &&& (x - 1)) + 1 = pop x := popTo_kern 16 x (by omega) h1
theorem pop_zero : pop 0 = 0 := popTo_zero 16
theorem and_pred_less (x : Nat) (h : x ≠ 0) : x &&& (x - 1) < x := Nat.lt_of_le_of_lt Nat.and_le_right (by omega)
/- exclusive or -/
theorem bit_xor (a b k : Nat) : (a ^^^ b) / 2 ^ k % 2 = (a / 2 ^ k % 2 + b / 2 ^ k % 2) % 2 := by
  have := Nat.shiftRight_xor_distrib (a := a) (b := b) (i := k)
  simp only [Nat.shiftRight_eq_div_pow] at this
  rw [this, xor_bit]
theorem synTo_xor (a b k : Nat) : synTo (a ^^^ b) k = synTo a k ^^^ synTo b k := by
  induction k with
  | zero => simp [synTo]
  | succ k ih =>
    unfold synTo
    rw [bit_xor, ih]
    rcases bit_of a k with h | h <;> rcases bit_of b k with h' | h' <;> simp only [h, h'] <;> simp
    · rw [Nat.xor_assoc]
    · rw [Nat.xor_assoc, Nat.xor_comm (synTo b k) k, ← Nat.xor_assoc]
    · rw [Nat.xor_comm (synTo b k) k, ← Nat.xor_assoc, Nat.xor_assoc (synTo a k) k k]; simp
theorem popTo_xor (a b k : Nat) : popTo (a ^^^ b) k % 2 = (popTo a k + popTo b k) % 2 := by
  induction k with
  | zero => simp [popTo]
  | succ k ih => unfold popTo; rw [bit_xor]; omega
theorem syn_xor (a b : Nat) : syn (a ^^^ b) = syn a ^^^ syn b := synTo_xor a b 16
theorem pop_xor (a b : Nat) : pop (a ^^^ b) % 2 = (pop a + pop b) % 2 := popTo_xor a b 16
theorem syn_pow (p : Nat) (h : p < 16) : syn (2 ^ p) = p := by
  have : ∀ p, p < 16 → syn (2 ^ p) = p := by decide +kernel
  exact this p h
theorem pop_pow (p : Nat) (h : p < 16) : pop (2 ^ p) = 1 := by
  have : ∀ p, p < 16 → pop (2 ^ p) = 1 := by decide +kernel
  exact this p h
/-- What is true of every code word. -/
theorem word_ok (v : Nat) (h : v < 2048) : syn (word v) = 0 ∧ pop (word v) % 2 = 0 ∧ val (word v) = v := by
  have : ∀ a < 32, ∀ b < 64, syn (word (64 * a + b)) = 0 ∧ pop (word (64 * a + b)) % 2 = 0 ∧ val (word (64 * a + b)) = 64 * a + b := by decide +kernel
  have e := this (v / 64) (by omega) (v % 64) (by omega)
  rwa [show 64 * (v / 64) + v % 64 = v by omega] at e
/- decoding: value, bit (16 for none, 17 for an error) -/
def decV (w : Nat) : Nat := if pop w % 2 = 1 then val (w ^^^ 2 ^ syn w) else if syn w = 0 then val w else 0
def decB (w : Nat) : Int := if pop w % 2 = 1 then (syn w : Int) else if syn w = 0 then -1 else 0
def decE (w : Nat) : Int := if pop w % 2 = 1 then 0 else if syn w = 0 then 0 else 9
theorem decV_lt (w : Nat) : decV w < 2048 := by unfold decV; split; · exact val_lt _
                                                split; · exact val_lt _
                                                decide
theorem dec_clean (v : Nat) (h : v < 2048) : decV (word v) = v ∧ decB (word v) = -1 ∧ decE (word v) = 0 := by
  obtain ⟨h1, h2, h3⟩ := word_ok v h
  simp [decV, decB, decE, h1, h2, h3]
theorem dec_one (v p : Nat) (h : v < 2048) (hp : p < 16) : decV (word v ^^^ 2 ^ p) = v ∧ decB (word v ^^^ 2 ^ p) = p ∧ decE (word v ^^^ 2 ^ p) = 0 := by
  obtain ⟨h1, h2, h3⟩ := word_ok v h
  have e1 : pop (word v ^^^ 2 ^ p) % 2 = 1 := by rw [pop_xor, pop_pow p hp]; omega
  have e2 : syn (word v ^^^ 2 ^ p) = p := by rw [syn_xor, h1, syn_pow p hp]; simp
  have e3 : word v ^^^ 2 ^ p ^^^ 2 ^ p = word v := by rw [Nat.xor_assoc]; simp
  simp [decV, decB, decE, e1, e2, e3, h3]
/- the distance of two code words: the words are closed under exclusive or -/
/- the results as the functions give them, over all integers -/
def dV (w : Int) : Int := if w < 0 ∨ 65535 < w then 0 else (decV w.toNat : Int)
def dB (w : Int) : Int := if w < 0 ∨ 65535 < w then 0 else decB w.toNat
def dE (w : Int) : Int := if w < 0 ∨ 65535 < w then 2 else decE w.toNat
end Go.Proofs.YtocohkgdkebmdaaGreat.Ham
