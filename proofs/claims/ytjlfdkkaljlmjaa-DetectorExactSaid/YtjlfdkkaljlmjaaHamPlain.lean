/- The plain mathematics of layer 3 (hamming): words of 16 bits over Nat, syndrome, weight, code word, decoding. No program in sight. -/
namespace Go.Proofs.Ytjlfdkkaljlmjaa.Ham

/-- The exclusive or of the numbers below k of the bits that are set. -/
def synTo (w : Nat) : Nat → Nat
  | 0 => 0
  | k + 1 => if w / 2 ^ k % 2 = 1 then synTo w k ^^^ k else synTo w k
def syn (w : Nat) : Nat := synTo w 16

/-- The number of bits below k that are set. -/
def popTo (w : Nat) : Nat → Nat
  | 0 => 0
  | k + 1 => popTo w k + w / 2 ^ k % 2
def pop (w : Nat) : Nat := popTo w 16

/-- The places of the data bits. -/
def pl (k : Nat) : Nat := [3, 5, 6, 7, 9, 10, 11, 12, 13, 14, 15].getD k 0

def dataTo (v : Nat) : Nat → Nat
  | 0 => 0
  | k + 1 => dataTo v k ||| (v / 2 ^ k % 2) * 2 ^ pl k
def chkTo (w s : Nat) : Nat → Nat
  | 0 => w
  | j + 1 => if s &&& 2 ^ j = 0 then chkTo w s j else chkTo w s j ||| 2 ^ (2 ^ j)
def wordC (v : Nat) : Nat := chkTo (dataTo v 11) (syn (dataTo v 11)) 4
def word (v : Nat) : Nat := wordC v ||| pop (wordC v) % 2
def valTo (w : Nat) : Nat → Nat
  | 0 => 0
  | k + 1 => valTo w k ||| (w / 2 ^ pl k % 2) * 2 ^ k
def val (w : Nat) : Nat := valTo w 11

theorem pl_le (k : Nat) : pl k ≤ 15 := by
  match k with
  | 0 | 1 | 2 | 3 | 4 | 5 | 6 | 7 | 8 | 9 | 10 => decide
  | n + 11 => simp [pl]

theorem bit_lt (w k : Nat) : w / 2 ^ k % 2 < 2 := Nat.mod_lt _ (by decide)
theorem bit_of (w k : Nat) : w / 2 ^ k % 2 = 0 ∨ w / 2 ^ k % 2 = 1 := by have := bit_lt w k; omega

theorem or16 {a b : Nat} (ha : a < 65536) (hb : b < 65536) : a ||| b < 65536 := Nat.or_lt_two_pow (n := 16) ha hb
theorem xor16 {a b : Nat} (ha : a < 65536) (hb : b < 65536) : a ^^^ b < 65536 := Nat.xor_lt_two_pow (n := 16) ha hb
theorem pow16 {k : Nat} (hk : k ≤ 15) : 2 ^ k < 65536 := Nat.pow_lt_pow_right (a := 2) (by decide) (show k < 16 by omega)
theorem bitpow {b k : Nat} (hb : b < 2) (hk : k ≤ 15) : b * 2 ^ k < 65536 := by
  have h := pow16 hk
  have : b = 0 ∨ b = 1 := by omega
  rcases this with rfl | rfl <;> omega

theorem synTo_lt (w k : Nat) (hk : k ≤ 16) : synTo w k < 16 := by
  induction k with
  | zero => simp [synTo]
  | succ k ih =>
    unfold synTo
    have h1 := ih (by omega)
    split
    · exact Nat.xor_lt_two_pow (n := 4) h1 (show k < 16 by omega)
    · exact h1
theorem syn_lt (w : Nat) : syn w < 16 := synTo_lt w 16 (by omega)
theorem popTo_le (w k : Nat) : popTo w k ≤ k := by
  induction k with
  | zero => simp [popTo]
  | succ k ih => unfold popTo; have := bit_lt w k; omega
theorem pop_le (w : Nat) : pop w ≤ 16 := popTo_le w 16
theorem dataTo_lt (v k : Nat) : dataTo v k < 65536 := by
  induction k with
  | zero => simp [dataTo]
  | succ k ih => exact or16 ih (bitpow (bit_lt _ _) (pl_le k))
theorem chkTo_lt (w s j : Nat) (hw : w < 65536) (hj : j ≤ 4) : chkTo w s j < 65536 := by
  induction j with
  | zero => exact hw
  | succ j ih =>
    have h1 := ih (by omega)
    unfold chkTo
    split
    · exact h1
    · refine or16 h1 (pow16 ?_)
      have : j = 0 ∨ j = 1 ∨ j = 2 ∨ j = 3 := by omega
      rcases this with rfl | rfl | rfl | rfl <;> decide
theorem wordC_lt (v : Nat) : wordC v < 65536 := chkTo_lt _ _ _ (dataTo_lt _ _) (by omega)
theorem word_lt (v : Nat) : word v < 65536 := or16 (wordC_lt v) (by omega)
theorem valTo_lt (w k : Nat) (hk : k ≤ 11) : valTo w k < 2048 := by
  induction k with
  | zero => simp [valTo]
  | succ k ih =>
    refine Nat.or_lt_two_pow (n := 11) (ih (by omega)) ?_
    have h := bit_lt w (pl k)
    have h2 : 2 ^ k < 2 ^ 11 := Nat.pow_lt_pow_right (by decide) (by omega)
    have : w / 2 ^ pl k % 2 = 0 ∨ w / 2 ^ pl k % 2 = 1 := by omega
    rcases this with h | h <;> rw [h] <;> omega
theorem val_lt (w : Nat) : val w < 2048 := valTo_lt w 11 (by omega)

/- the weight, counted from the lowest bit -/
theorem popTo_half (x f : Nat) : popTo x (f + 1) = x % 2 + popTo (x / 2) f := by
  induction f with
  | zero => simp [popTo]
  | succ f ih =>
    show popTo x (f + 1) + x / 2 ^ (f + 1) % 2 = x % 2 + (popTo (x / 2) f + x / 2 / 2 ^ f % 2)
    rw [ih, Nat.div_div_eq_div_mul, Nat.pow_succ, Nat.mul_comm 2 (2 ^ f)]
    omega
theorem popTo_zero (f : Nat) : popTo 0 f = 0 := by
  induction f with
  | zero => rfl
  | succ f ih => simp [popTo, ih]

theorem and_half (a b : Nat) : (a &&& b) / 2 = a / 2 &&& b / 2 := by
  have := Nat.shiftRight_and_distrib (a := a) (b := b) (i := 1)
  simpa [Nat.shiftRight_eq_div_pow] using this
theorem xor_half (a b : Nat) : (a ^^^ b) / 2 = a / 2 ^^^ b / 2 := by
  have := Nat.shiftRight_xor_distrib (a := a) (b := b) (i := 1)
  simpa [Nat.shiftRight_eq_div_pow] using this
theorem and_bit (a b : Nat) : (a &&& b) % 2 = a % 2 * (b % 2) := by
  have h : (a &&& b) % 2 = a % 2 &&& b % 2 := Nat.and_mod_two_pow (n := 1)
  rw [h]
  rcases Nat.mod_two_eq_zero_or_one a with h | h <;> rcases Nat.mod_two_eq_zero_or_one b with h' | h' <;> rw [h, h'] <;> decide
theorem xor_bit (a b : Nat) : (a ^^^ b) % 2 = (a % 2 + b % 2) % 2 := by
  have h : (a ^^^ b) % 2 = a % 2 ^^^ b % 2 := Nat.xor_mod_two_pow (n := 1)
  rw [h]
  rcases Nat.mod_two_eq_zero_or_one a with h | h <;> rcases Nat.mod_two_eq_zero_or_one b with h' | h' <;> rw [h, h'] <;> decide

/-- Clearing the lowest bit that is set lowers the weight by one. -/
theorem popTo_kern (f : Nat) : ∀ x : Nat, 0 < x → x < 2 ^ f → popTo (x &&& (x - 1)) f + 1 = popTo x f := by
  induction f with
  | zero => intro x h0 h1; simp at h1; omega
  | succ f ih =>
    intro x h0 h1
    rw [popTo_half, popTo_half, and_half, and_bit]
    rw [Nat.pow_succ] at h1
    rcases Nat.mod_two_eq_zero_or_one x with h | h
    · have e : (x - 1) / 2 = x / 2 - 1 := by omega
      have := ih (x / 2) (by omega) (by omega)
      rw [e, h]
      omega
    · have e : (x - 1) / 2 = x / 2 := by omega
      have e2 : (x - 1) % 2 = 0 := by omega
      rw [e, e2, h, Nat.and_self]
      omega
theorem pop_kern (x : Nat) (h0 : x ≠ 0) (h1 : x < 65536) : pop (x &&& (x - 1)) + 1 = pop x := popTo_kern 16 x (by omega) h1
theorem pop_zero : pop 0 = 0 := popTo_zero 16
theorem and_pred_lt (x : Nat) (h1 : x < 65536) : x &&& (x - 1) < 65536 := Nat.lt_of_le_of_lt Nat.and_le_left h1
theorem and_pred_less (x : Nat) (h : x ≠ 0) : x &&& (x - 1) < x := Nat.lt_of_le_of_lt Nat.and_le_right (by omega)

/- exclusive or -/
theorem bit_xor (a b k : Nat) : (a ^^^ b) / 2 ^ k % 2 = (a / 2 ^ k % 2 + b / 2 ^ k % 2) % 2 := by
  have := Nat.shiftRight_xor_distrib (a := a) (b := b) (i := k)
  simp only [Nat.shiftRight_eq_div_pow] at this
  rw [this, xor_bit]
theorem synTo_xor (a b k : Nat) : synTo (a ^^^ b) k = synTo a k ^^^ synTo b k := by
  induction k with
  | zero => simp [synTo]
  | succ k ih =>
    unfold synTo
    rw [bit_xor, ih]
    rcases bit_of a k with h | h <;> rcases bit_of b k with h' | h' <;> simp only [h, h'] <;> simp
    · rw [Nat.xor_assoc]
    · rw [Nat.xor_assoc, Nat.xor_comm (synTo b k) k, ← Nat.xor_assoc]
    · rw [Nat.xor_comm (synTo b k) k, ← Nat.xor_assoc, Nat.xor_assoc (synTo a k) k k]; simp
theorem popTo_xor (a b k : Nat) : popTo (a ^^^ b) k % 2 = (popTo a k + popTo b k) % 2 := by
  induction k with
  | zero => simp [popTo]
  | succ k ih => unfold popTo; rw [bit_xor]; omega
theorem syn_xor (a b : Nat) : syn (a ^^^ b) = syn a ^^^ syn b := synTo_xor a b 16
theorem pop_xor (a b : Nat) : pop (a ^^^ b) % 2 = (pop a + pop b) % 2 := popTo_xor a b 16

theorem syn_pow (p : Nat) (h : p < 16) : syn (2 ^ p) = p := by
  have : ∀ p, p < 16 → syn (2 ^ p) = p := by decide +kernel
  exact this p h
theorem pop_pow (p : Nat) (h : p < 16) : pop (2 ^ p) = 1 := by
  have : ∀ p, p < 16 → pop (2 ^ p) = 1 := by decide +kernel
  exact this p h

/-- What is true of every code word. -/
theorem word_ok (v : Nat) (h : v < 2048) : syn (word v) = 0 ∧ pop (word v) % 2 = 0 ∧ val (word v) = v := by
  have : ∀ a < 32, ∀ b < 64, syn (word (64 * a + b)) = 0 ∧ pop (word (64 * a + b)) % 2 = 0 ∧ val (word (64 * a + b)) = 64 * a + b := by decide +kernel
  have e := this (v / 64) (by omega) (v % 64) (by omega)
  rwa [show 64 * (v / 64) + v % 64 = v by omega] at e

/- decoding: value, bit (16 for none, 17 for an error) -/
def isOk (w : Nat) : Bool := pop w % 2 == 1 || syn w == 0
def decV (w : Nat) : Nat := if pop w % 2 = 1 then val (w ^^^ 2 ^ syn w) else if syn w = 0 then val w else 0
def decB (w : Nat) : Int := if pop w % 2 = 1 then (syn w : Int) else if syn w = 0 then -1 else 0
def decE (w : Nat) : Int := if pop w % 2 = 1 then 0 else if syn w = 0 then 0 else 9

theorem decV_lt (w : Nat) : decV w < 2048 := by unfold decV; split; · exact val_lt _
                                                split; · exact val_lt _
                                                decide
theorem dec_clean (v : Nat) (h : v < 2048) : decV (word v) = v ∧ decB (word v) = -1 ∧ decE (word v) = 0 := by
  obtain ⟨h1, h2, h3⟩ := word_ok v h
  simp [decV, decB, decE, h1, h2, h3]
theorem dec_one (v p : Nat) (h : v < 2048) (hp : p < 16) : decV (word v ^^^ 2 ^ p) = v ∧ decB (word v ^^^ 2 ^ p) = p ∧ decE (word v ^^^ 2 ^ p) = 0 := by
  obtain ⟨h1, h2, h3⟩ := word_ok v h
  have e1 : pop (word v ^^^ 2 ^ p) % 2 = 1 := by rw [pop_xor, pop_pow p hp]; omega
  have e2 : syn (word v ^^^ 2 ^ p) = p := by rw [syn_xor, h1, syn_pow p hp]; simp
  have e3 : word v ^^^ 2 ^ p ^^^ 2 ^ p = word v := by rw [Nat.xor_assoc]; simp
  simp [decV, decB, decE, e1, e2, e3, h3]
theorem xor_ne (p q : Nat) (h : p ≠ q) : p ^^^ q ≠ 0 := by
  intro e
  apply h
  have : p ^^^ q ^^^ q = 0 ^^^ q := by rw [e]
  rw [Nat.xor_assoc] at this
  simpa using this
theorem dec_two (v p q : Nat) (h : v < 2048) (hp : p < 16) (hq : q < 16) (hne : p ≠ q) :
    decV (word v ^^^ 2 ^ p ^^^ 2 ^ q) = 0 ∧ decB (word v ^^^ 2 ^ p ^^^ 2 ^ q) = 0 ∧ decE (word v ^^^ 2 ^ p ^^^ 2 ^ q) = 9 := by
  obtain ⟨h1, h2, _⟩ := word_ok v h
  have e1 : pop (word v ^^^ 2 ^ p ^^^ 2 ^ q) % 2 = 0 := by
    have a := pop_xor (word v ^^^ 2 ^ p) (2 ^ q)
    have b := pop_xor (word v) (2 ^ p)
    rw [pop_pow q hq] at a
    rw [pop_pow p hp] at b
    omega
  have e2 : syn (word v ^^^ 2 ^ p ^^^ 2 ^ q) = p ^^^ q := by rw [syn_xor, syn_xor, h1, syn_pow p hp, syn_pow q hq]; simp
  have e3 := xor_ne p q hne
  simp [decV, decB, decE, e1, e2, e3]

/- the distance of two code words: the words are closed under exclusive or -/
/-- The code word of v as an exclusive or of eleven words. -/
def gw (k : Nat) : Nat := [15, 51, 85, 150, 771, 1285, 2310, 4369, 8466, 16660, 33047].getD k 0
def gen (v : Nat) : Nat → Nat
  | 0 => 0
  | k + 1 => gen v k ^^^ (v / 2 ^ k % 2) * gw k
theorem gen_word (v : Nat) (h : v < 2048) : gen v 11 = word v := by
  have : ∀ a < 32, ∀ b < 64, gen (64 * a + b) 11 = word (64 * a + b) := by decide +kernel
  have e := this (v / 64) (by omega) (v % 64) (by omega)
  rwa [show 64 * (v / 64) + v % 64 = v by omega] at e
theorem gen_xor (a b k : Nat) : gen (a ^^^ b) k = gen a k ^^^ gen b k := by
  induction k with
  | zero => simp [gen]
  | succ k ih =>
    unfold gen
    rw [bit_xor, ih]
    generalize gw k = g
    generalize gen a k = x
    generalize gen b k = y
    rcases bit_of a k with h | h <;> rcases bit_of b k with h' | h' <;> simp only [h, h'] <;> simp
    · rw [Nat.xor_assoc]
    · rw [Nat.xor_assoc, Nat.xor_comm y g, ← Nat.xor_assoc]
    · rw [Nat.xor_comm y g, ← Nat.xor_assoc, Nat.xor_assoc x g g]; simp
theorem word_xor (a b : Nat) (ha : a < 2048) (hb : b < 2048) : word a ^^^ word b = word (a ^^^ b) := by
  rw [← gen_word a ha, ← gen_word b hb, ← gen_word (a ^^^ b) (Nat.xor_lt_two_pow (n := 11) ha hb), gen_xor]
theorem word_weight (v : Nat) (h : v < 2048) (h0 : v ≠ 0) : 4 ≤ pop (word v) := by
  have : ∀ a < 32, ∀ b < 64, 64 * a + b ≠ 0 → 4 ≤ pop (word (64 * a + b)) := by decide +kernel
  have e := this (v / 64) (by omega) (v % 64) (by omega)
  rw [show 64 * (v / 64) + v % 64 = v by omega] at e
  exact e h0
theorem word_dist (a b : Nat) (ha : a < 2048) (hb : b < 2048) (hne : a ≠ b) : 4 ≤ pop (word a ^^^ word b) := by
  rw [word_xor a b ha hb]
  exact word_weight _ (Nat.xor_lt_two_pow (n := 11) ha hb) (xor_ne a b hne)

/- the results as the functions give them, over all integers -/
def encV (v : Int) : Int := if v < 0 ∨ 2047 < v then 0 else (word v.toNat : Int)
def encE (v : Int) : Int := if v < 0 ∨ 2047 < v then 2 else 0
def dV (w : Int) : Int := if w < 0 ∨ 65535 < w then 0 else (decV w.toNat : Int)
def dB (w : Int) : Int := if w < 0 ∨ 65535 < w then 0 else decB w.toNat
def dE (w : Int) : Int := if w < 0 ∨ 65535 < w then 2 else decE w.toNat
def disV (a b : Int) : Int := if a < 0 ∨ 65535 < a ∨ b < 0 ∨ 65535 < b then 0 else (pop (a.toNat ^^^ b.toNat) : Int)
def disE (a b : Int) : Int := if a < 0 ∨ 65535 < a ∨ b < 0 ∨ 65535 < b then 2 else 0
end Go.Proofs.Ytjlfdkkaljlmjaa.Ham
