/- The walks of Is (at codes) and of job.Valid (at valid jobs). -/
import Derived.Test.YtocohkgdkebmdaaGreatMem
import Derived.Test.YtocohkgdkebmdaaGreatTlMach
import Derived.Test.YtocohkgdkebmdaaGreatTlSolve
import Derived.Deep.DeepMust
import Derived.BigQuiet
namespace Go.Proofs.YtocohkgdkebmdaaGreat
open Go.RowKit
namespace Tl
theorem and_double (a c : Nat) : (2 * a) &&& (2 * c + 1) = 2 * (a &&& c) := by
  have h1 : ((2 * a) &&& (2 * c + 1)) / 2 = a &&& c := by rw [Nat.and_div_two]; congr 1 <;> omega
  have h2 : ((2 * a) &&& (2 * c + 1)) % 2 = 0 := by
    have := Nat.and_mod_two_pow (n := 1) (a := 2 * a) (b := 2 * c + 1)
    rw [Nat.pow_one] at this
    rw [this, show 2 * a % 2 = 0 by omega, Nat.zero_and]
  omega
theorem and_odd (a : Nat) : (2 * a + 1) &&& (2 * a) = 2 * a := by
  rw [Nat.and_comm, and_double, Nat.and_self]
theorem ones_kern : ∀ (f x : Nat), 0 < x → x < 2 ^ f → ones f (x &&& (x - 1)) + 1 = ones f x
  | 0, x, h0, h => by simp at h; omega
  | f + 1, x, h0, h => by
    rw [Nat.pow_succ] at h
    rcases Nat.mod_two_eq_zero_or_one x with e | e
    · obtain ⟨q, rfl⟩ : ∃ q, x = 2 * q := ⟨x / 2, by omega⟩
      have ih := ones_kern f q (by omega) (by omega)
      rw [show 2 * q - 1 = 2 * (q - 1) + 1 by omega, and_double]
      unfold ones
      rw [show 2 * (q &&& (q - 1)) % 2 = 0 by omega, show 2 * (q &&& (q - 1)) / 2 = q &&& (q - 1) by omega, show 2 * q % 2 = 0 by omega, show 2 * q / 2 = q by omega]
      omega
    · obtain ⟨q, rfl⟩ : ∃ q, x = 2 * q + 1 := ⟨x / 2, by omega⟩
      rw [show 2 * q + 1 - 1 = 2 * q by omega, and_odd]
      unfold ones
      rw [show 2 * q % 2 = 0 by omega, show 2 * q / 2 = q by omega, show (2 * q + 1) % 2 = 1 by omega, show (2 * q + 1) / 2 = q by omega]
      omega
theorem pop_kern {x : Nat} (h0 : 0 < x) (h : x < 65536) : pop (x &&& (x - 1)) + 1 = pop x :=
  ones_kern 64 x h0 (by omega)
theorem pop_zero : pop 0 = 0 := ones_zero 64
theorem and_less {x : Nat} (h : 0 < x) : (x &&& (x - 1)) < x := Nat.lt_of_le_of_lt Nat.and_le_right (by omega)
theorem pop_le64 (x : Nat) : pop x ≤ 64 := ones_le 64 x
/-- The bit length of a code. -/
def blenGo : Nat → Nat → Nat
  | 0, _ => 0
  | f + 1, k => if k = 0 then 0 else blenGo f (k / 2) + 1
def blen (k : Nat) : Nat := blenGo 64 k
theorem blenGo_spec : ∀ (f k S : Nat), k < 2 ^ f → (blenGo f k ≤ S ↔ k < 2 ^ S)
  | 0, k, S, h => by
    have : k = 0 := by simpa using h
    subst this
    simp [blenGo, Nat.two_pow_pos]
  | f + 1, k, S, h => by
    unfold blenGo
    by_cases e : k = 0
    · rw [if_pos e]; simp [e, Nat.two_pow_pos]
    · rw [if_neg e]
      rw [Nat.pow_succ] at h
      cases S with
      | zero => simp; omega
      | succ S =>
        have := blenGo_spec f (k / 2) S (by omega)
        rw [Nat.pow_succ]
        omega
theorem blen_spec {k : Nat} (h : k < 65536) (S : Nat) : blen k ≤ S ↔ k < 2 ^ S := blenGo_spec 64 k S (by omega)
theorem blen_le {k : Nat} (h : k < 4096) : blen k ≤ 12 := (blen_spec (by omega) 12).2 h
end Tl
theorem jin_c (n lo hi : Int) (w : World) : Calls Tryz.prog 70 #[.int .i64 n, .int .i64 lo, .int .i64 hi] w fun e w' => e = .returned (.bool (decide (lo ≤ n ∧ n ≤ hi))) ∧ w = w' := by
  by_cases h : lo ≤ n
  · by_cases h2 : n ≤ hi
    · have e : decide (lo ≤ n ∧ n ≤ hi) = true := by simp; omega
      rw [e]
      go_enter Tryz.func70, Tryz.ntmps70
      go_wp2
      go_ret
      exact ⟨rfl, rfl⟩
    · have e : decide (lo ≤ n ∧ n ≤ hi) = false := by simp; omega
      rw [e]
      go_enter Tryz.func70, Tryz.ntmps70
      go_wp2
      go_ret
      exact ⟨rfl, rfl⟩
  · have e : decide (lo ≤ n ∧ n ≤ hi) = false := by simp; omega
    rw [e]
    go_enter Tryz.func70, Tryz.ntmps70
    go_wp2
    go_ret
    exact ⟨rfl, rfl⟩
theorem cin_c (n lo hi : Int) (w : World) : Calls Tryz.prog 80 #[.int .i64 n, .int .i64 lo, .int .i64 hi] w fun e w' => e = .returned (.bool (decide (lo ≤ n ∧ n ≤ hi))) ∧ w = w' := by
  by_cases h : lo ≤ n
  · by_cases h2 : n ≤ hi
    · have e : decide (lo ≤ n ∧ n ≤ hi) = true := by simp; omega
      rw [e]
      go_enter Tryz.func80, Tryz.ntmps80
      go_wp2
      go_ret
      exact ⟨rfl, rfl⟩
    · have e : decide (lo ≤ n ∧ n ≤ hi) = false := by simp; omega
      rw [e]
      go_enter Tryz.func80, Tryz.ntmps80
      go_wp2
      go_ret
      exact ⟨rfl, rfl⟩
  · have e : decide (lo ≤ n ∧ n ≤ hi) = false := by simp; omega
    rw [e]
    go_enter Tryz.func80, Tryz.ntmps80
    go_wp2
    go_ret
    exact ⟨rfl, rfl⟩
/-- The test of a form, at weights and rounds in their ranges. -/
theorem form_c (r : Int) (k : Nat) (hk : k ≤ 12) (w : World) : Calls Tryz.prog 79 #[.int .i64 r, .int .i64 k] w fun e w' => e = .returned (.bool (decide (0 ≤ r ∧ r ≤ 12))) ∧ w = w' := by
  have e1 : decide ((0 : Int) ≤ (k : Int) ∧ (k : Int) ≤ 12) = true := by simp; omega
  by_cases h : 0 ≤ r ∧ r ≤ 12
  · have e : decide (0 ≤ r ∧ r ≤ 12) = true := by simp; omega
    have H := Lib.hid (cin_c r 0 12)
    rw [e]
    rw [e] at H
    go_enter Tryz.func79, Tryz.ntmps79
    go_wp2_with (first
      | (go_at_call 80; with_reducible refine (H.out _).mono ?_; rintro e w1 ⟨rfl, rfl⟩)
      | (go_at_call 80; refine (cin_c _ _ _ _).mono ?_; rintro e w1 ⟨rfl, rfl⟩))
    go_ret
    refine ⟨?_, rfl⟩
    first
      | rfl
      | (simp; omega)
  · have e : decide (0 ≤ r ∧ r ≤ 12) = false := by simp; omega
    have H := Lib.hid (cin_c r 0 12)
    rw [e]
    rw [e] at H
    go_enter Tryz.func79, Tryz.ntmps79
    go_wp2_with (first
      | (go_at_call 80; with_reducible refine (H.out _).mono ?_; rintro e w1 ⟨rfl, rfl⟩)
      | (go_at_call 80; refine (cin_c _ _ _ _).mono ?_; rintro e w1 ⟨rfl, rfl⟩))
    go_ret
    exact ⟨rfl, rfl⟩
theorem missed_c (r : Nat) (hr : r ≤ 12) (w : World) : Calls Tryz.prog 81 #[.int .i64 r] w fun e w' => e = .returned (.int .i64 (Tl.mis r : Nat)) ∧ w' = w := by
  have h1 : wrap64 (2 ^ r) = ((2 ^ r : Nat) : Int) := by
    have := i64_one_shl r (by omega)
    rwa [Nat.min_eq_left (by omega)] at this
  have h2 := Tl.mis_pos r
  have h3 : 2 ^ r ≤ 2 ^ 12 := Nat.pow_le_pow_right (by decide) hr
  have H1 := Lib.hid h1
  have H2 := Lib.hid h2
  have H3 := Lib.hid h3
  clear h1 h2 h3
  go_enter Tryz.func81, Tryz.ntmps81
  go_wp2
  go_ret
  refine ⟨retv ?_, rfl⟩
  have h2 := H2.out
  have h3 := H3.out
  rw [H1.out, show (((2 ^ r : Nat) : Int) - 1) = ((Tl.mis r : Nat) : Int) by omega]
  exact IntWalk.wrap64_in _ ⟨by omega, by omega⟩
set_option maxHeartbeats 400000 in
theorem cones_c (n : Nat) (hn : n < 65536) (w : World) :
    Calls Tryz.prog 82 #[.int .i64 n] w fun e w' => e = .returned (.int .i64 (Tl.pop n : Nat)) ∧ w = w' := by
  go_enter Tryz.func82, Tryz.ntmps82
  go_wp2
  go_loop [0, 3] (fun t c => ∃ x m : Nat, x < 65536 ∧ t = .int .i64 x ∧ c = .int .i64 m ∧ m + Tl.pop x = Tl.pop n) (fun t _ => (intOf t).toNat)
  case atStart => exact ⟨n, 0, hn, rfl, rfl, by omega⟩
  case round =>
    obtain ⟨x, m, hx, rfl, rfl, hm⟩ := hrel
    have hp := Tl.pop_le64 n
    have hm16 : m ≤ 64 := by omega
    have Hm := Lib.hid hm
    clear hm
    by_cases h0 : x = 0
    · subst h0
      go_wp2
      go_ret
      refine ⟨retv ?_, rfl⟩
      have := Hm.out
      rw [Tl.pop_zero] at this
      omega
    · have h1 : ((x : Int) != 0) = true := by simp; omega
      have hs : ((x : Int) - 1) = ((x - 1 : Nat) : Int) := by omega
      have ha : bits .and .i64 (x : Int) ((x : Int) - 1) = ((x &&& (x - 1) : Nat) : Int) := by rw [hs]; exact i64_and_nat _ _ (by omega) (by omega)
      have hk := Tl.pop_kern (x := x) (by omega) hx
      have hl := Tl.and_less (x := x) (by omega)
      have Ha := Lib.hid ha
      have Hs := Lib.hid hs
      have Hk := Lib.hid hk
      clear ha hs hk
      go_wp2
      go_round
      case rel => exact ⟨x &&& (x - 1), m + 1, by omega, vint Ha.out, by go_num, by have := Hm.out; have := Hk.out; omega⟩
      case measure => rw [Ha.out]; simp [intOf]; omega
end Go.Proofs.YtocohkgdkebmdaaGreat
namespace Go.Proofs.YtocohkgdkebmdaaGreat
open Go.RowKit
set_option maxHeartbeats 400000 in
theorem steps_c (n : Nat) (hn : n < 4096) (w : World) :
    Calls Tryz.prog 88 #[.int .i64 n] w fun e w' => e = .returned (.tuple #[.int .i64 (Tl.blen n : Nat), .int .i64 0]) ∧ w = w' := by
  have hb := Tl.blen_le hn
  have e0 : decide ((0 : Int) ≤ (n : Int) ∧ (n : Int) ≤ 4095) = true := by simp; omega
  have H := Lib.hid (cin_c n 0 4095)
  rw [e0] at H
  clear e0
  go_enter Tryz.func88, Tryz.ntmps88
  go_wp2_with (go_at_call 80; with_reducible refine (H.out _).mono ?_; rintro e w1 ⟨rfl, rfl⟩)
  go_loop [0, 4] (fun t c => ∃ x m f : Nat, x < 4096 ∧ x < 2 ^ f ∧ t = .int .i64 x ∧ c = .int .i64 m ∧ m + Tl.blenGo f x = Tl.blen n) (fun t _ => (intOf t).toNat)
  case atStart => exact ⟨n, 0, 64, hn, by omega, rfl, rfl, by unfold Tl.blen; omega⟩
  case round =>
    obtain ⟨x, m, f, hx, hf, rfl, rfl, hm⟩ := hrel
    have hm16 : m ≤ 12 := by omega
    by_cases h0 : x = 0
    · subst h0
      have hz : Tl.blenGo f 0 = 0 := by cases f <;> rfl
      have Hm := Lib.hid hm
      have Hz := Lib.hid hz
      clear hm hz
      go_wp2
      go_ret2
      refine ⟨ret2v ?_ rfl, rfl⟩
      have := Hm.out
      rw [Hz.out] at this
      omega
    · have hs : (x : Int) / 2 = ((x / 2 : Nat) : Int) := by omega
      obtain ⟨g, rfl⟩ : ∃ g, f = g + 1 := ⟨f - 1, by cases f with | zero => simp at hf; omega | succ g => omega⟩
      have hk : Tl.blenGo (g + 1) x = Tl.blenGo g (x / 2) + 1 := by rw [Tl.blenGo, if_neg h0]
      have hf2 : x / 2 < 2 ^ g := by rw [Nat.pow_succ] at hf; omega
      have Hs := Lib.hid hs
      have Hk := Lib.hid hk
      have Hm := Lib.hid hm
      have Hf := Lib.hid hf2
      clear hs hk hm hf hf2
      have h1 : (0 : Int) < (x : Int) := by omega
      go_wp2
      go_round
      case rel => exact ⟨x / 2, m + 1, g, by omega, Hf.out, vint Hs.out, by go_num, by have := Hm.out; have := Hk.out; omega⟩
      case measure => simp [intOf]; omega
namespace Tl
def nextV (a r k : Nat) : Nat := (next a r k).getD 0
def nextE (a r k : Nat) : Int := if (next a r k).isSome then 0 else 15
theorem next_none {a r k : Nat} (h : next a r k = none) : nextV a r k = 0 ∧ nextE a r k = 15 := by
  unfold nextV nextE
  rw [h]
  exact ⟨rfl, rfl⟩
theorem next_some {a r k c : Nat} (h : next a r k = some c) : nextV a r k = c ∧ nextE a r k = 0 := by
  unfold nextV nextE
  rw [h]
  exact ⟨rfl, rfl⟩
end Tl
theorem low_tab : ((List.range 64).all fun a => (List.range 64).all fun b => decide (bits .and .i64 ((64 * a + b : Nat) : Int) (-((64 * a + b : Nat) : Int)) = ((Tl.low (64 * a + b) : Nat) : Int)) && (decide (Tl.low (64 * a + b) ≤ 64 * a + b) && (decide (64 * a + b = 0) || decide (0 < Tl.low (64 * a + b))))) = true := by kernel_rfl
theorem low_at {x : Nat} (hx : x < 4096) (h0 : 0 < x) : bits .and .i64 (x : Int) (-(x : Int)) = ((Tl.low x : Nat) : Int) ∧ Tl.low x ≤ x ∧ 0 < Tl.low x := by
  have h1 := List.all_eq_true.1 low_tab (x / 64) (by simp; omega)
  have h2 := List.all_eq_true.1 h1 (x % 64) (by simp; omega)
  rw [show 64 * (x / 64) + x % 64 = x by omega] at h2
  simp only [Bool.and_eq_true, Bool.or_eq_true, decide_eq_true_eq] at h2
  exact ⟨h2.1, h2.2.1, by omega⟩
theorem real0_at {a r : Nat} (ha : a < 4096) (hr : r ≤ 12) : Tl.real0 a r < 4096 ∧ (Tl.mis r < a → wrap64 (wrap64 ((a : Int) - (Tl.mis r : Nat) + wrap64 (2 ^ r)) - 1) / 2 ^ r = ((Tl.real0 a r : Nat) : Int)) ∧ (a ≤ Tl.mis r → (0 : Int) = ((Tl.real0 a r : Nat) : Int)) := by
  have h2 := Tl.mis_pos r
  have h3 : 2 ^ r ≤ 2 ^ 12 := Nat.pow_le_pow_right (by decide) hr
  have h4 : ((2 : Int) ^ r) = ((2 ^ r : Nat) : Int) := by push_cast; rfl
  have hp := Nat.two_pow_pos r
  unfold Tl.real0
  by_cases h : Tl.mis r < a
  · rw [if_pos h]
    refine ⟨?_, fun _ => ?_, fun h' => by omega⟩
    · rw [Nat.div_lt_iff_lt_mul hp]
      have : 4096 * 1 ≤ 4096 * 2 ^ r := Nat.mul_le_mul_left _ hp
      have h7 : a - Tl.mis r + (2 ^ r - 1) = a := by omega
      omega
    · rw [h4, IntWalk.wrap64_in ((2 ^ r : Nat) : Int) ⟨by omega, by omega⟩, IntWalk.wrap64_in ((a : Int) - (Tl.mis r : Nat) + (2 ^ r : Nat)) ⟨by omega, by omega⟩, IntWalk.wrap64_in _ ⟨by omega, by omega⟩]
      rw [show (a : Int) - (Tl.mis r : Nat) + (2 ^ r : Nat) - 1 = ((a - Tl.mis r + (2 ^ r - 1) : Nat) : Int) by omega]
      rfl
  · rw [if_neg h]
    exact ⟨by omega, fun h' => absurd h' h, fun _ => rfl⟩
@[irreducible] def bumpAll (w p : Nat) : Option Nat := Tl.bump w 4097 p
theorem bumpAll_eq (w p : Nat) : bumpAll w p = Tl.bump w 4097 p := by rw [bumpAll]
theorem next_over {a r k : Nat} (ha : a < 4096) (h : bumpAll k (Tl.real0 a r) = none) : Tl.next a r k = none := by
  unfold Tl.next
  rw [if_neg (by omega), ← bumpAll_eq, h]
theorem next_hit {a r k q : Nat} (ha : a < 4096) (h : bumpAll k (Tl.real0 a r) = some q) : Tl.next a r k = if q * 2 ^ r + Tl.mis r < 4096 then some (q * 2 ^ r + Tl.mis r) else none := by
  unfold Tl.next
  rw [if_neg (by omega), ← bumpAll_eq, h]
theorem code_at {x r : Nat} (hx : x < 4096) (hr : r ≤ 12) : IntKind.i64.wrap ((x : Int) * 2 ^ r) = ((x * 2 ^ r : Nat) : Int) ∧ bits .or .i64 ((x * 2 ^ r : Nat) : Int) (Tl.mis r : Nat) = ((x * 2 ^ r + Tl.mis r : Nat) : Int) := by
  have h2 := Tl.mis_pos r
  have h3 : 2 ^ r ≤ 2 ^ 12 := Nat.pow_le_pow_right (by decide) hr
  have h5 : x * 2 ^ r ≤ 4096 * 2 ^ 12 := Nat.mul_le_mul (by omega) h3
  constructor
  · have h := i64_shl x r (by omega) (by omega)
    rw [Nat.min_eq_left (by omega)] at h
    rw [IntWalk.i64_left]
    exact h
  · rw [i64_or_nat _ _ (by omega) (by omega)]
    congr 1
    rw [Nat.mul_comm, ← Nat.two_pow_add_eq_or_of_lt (by omega)]
theorem code_at2 {x r : Nat} (hx : x < 4096) (hr : r ≤ 12) : bits .or .i64 ((x : Int) * 2 ^ r) (Tl.mis r : Nat) = ((x * 2 ^ r + Tl.mis r : Nat) : Int) := by
  rw [← (code_at hx hr).2]
  congr 1
attribute [local irreducible] Tl.pop Tl.low Tl.next Tl.bump Tl.real0 Tl.mis
end Go.Proofs.YtocohkgdkebmdaaGreat
namespace Go.Proofs.YtocohkgdkebmdaaGreat
open Go.RowKit
def cells4 (p : IT) : List Value := [.int .i64 p.tr, .int .i64 p.bl, .int .i64 p.rd, .int .i64 p.ln]
def flat4 (l : List IT) : List Value := l.flatMap cells4
theorem flat4_cons (p : IT) (r : List IT) : flat4 (p :: r) = .int .i64 p.tr :: .int .i64 p.bl :: .int .i64 p.rd :: .int .i64 p.ln :: flat4 r := rfl
theorem flat4_len (l : List IT) : (flat4 l).length = l.length * 4 := by
  induction l with
  | nil => rfl
  | cons p r ih => rw [flat4_cons]; simp only [List.length_cons, ih]; omega
theorem one_flat4 (l : List IT) : ∀ u ∈ flat4 l, u.oneCell' = true := by
  intro u hu
  obtain ⟨p, _, hp⟩ := List.mem_flatMap.1 hu
  simp only [cells4, List.mem_cons, List.not_mem_nil, or_false] at hp
  rcases hp with rfl | rfl | rfl | rfl <;> rfl
theorem flat4_at (l : List IT) : ∀ (i : Nat) (p : IT), l[i]? = some p → ∀ j u, (cells4 p)[j]? = some u → (flat4 l)[i * 4 + j]? = some u := by
  induction l with
  | nil => intro i p h; simp at h
  | cons q r ih =>
    intro i p h j u hu
    have hj : j < 4 := (List.getElem?_eq_some_iff.1 hu).1
    cases i with
    | zero =>
      simp at h
      subst h
      have e : flat4 (q :: r) = cells4 q ++ flat4 r := rfl
      rw [e, Nat.zero_mul, Nat.zero_add, List.getElem?_append_left (by simpa [cells4] using hj)]
      exact hu
    | succ i =>
      have e : flat4 (q :: r) = cells4 q ++ flat4 r := rfl
      rw [e, List.getElem?_append_right (by simp [cells4]; omega)]
      have := ih i p (by simpa using h) j u hu
      rw [show (i + 1) * 4 + j - (cells4 q).length = i * 4 + j by simp [cells4]; omega]
      exact this
/-- The slice (address A, n items) reads as l. -/
def IR4 (w : World) (A : Option Addr) (n : Nat) (l : List IT) : Prop := Reads w w.heap.size 4 A n (flat4 l)
section
variable {w w' : World} {A : Option Addr} {n : Nat} {l : List IT}
theorem IR4.len (h : IR4 w A n l) : l.length = n := by have := h.1; rw [flat4_len] at this; omega
theorem add_ne {ad : Addr} (j : Nat) (hj : j ≠ 0) : ad.add j = ⟨ad.block, ad.off + j, none⟩ := by simp [Addr.add, hj]
theorem IR4.at_ (h : IR4 w A n l) {i : Nat} (hi : i < n) : ∃ ad p, A = some ad ∧ ad.block < w.heap.size ∧ l[i]? = some p ∧ w.cell? (ad.add (i * 4)) = some (.int .i64 p.tr) ∧
    w.cell? ⟨(ad.add (i * 4)).block, (ad.add (i * 4)).off + 1, none⟩ = some (.int .i64 p.bl) ∧ w.cell? ⟨(ad.add (i * 4)).block, (ad.add (i * 4)).off + 2, none⟩ = some (.int .i64 p.rd) ∧
    w.cell? ⟨(ad.add (i * 4)).block, (ad.add (i * 4)).off + 3, none⟩ = some (.int .i64 p.ln) := by
  have hl := h.len
  obtain ⟨ad, e, hb, hc⟩ := h.2 (by omega)
  have hp : l[i]? = some l[i] := List.getElem?_eq_getElem (by omega)
  have key := fun j u hu => hc _ _ (flat4_at l i _ hp j u hu)
  have k0 := key 0 _ rfl
  rw [Nat.add_zero] at k0
  have kj : ∀ j, j ≠ 0 → ∀ u, (cells4 l[i])[j]? = some u → w.cell? ⟨(ad.add (i * 4)).block, (ad.add (i * 4)).off + j, none⟩ = some u := by
    intro j hj u hu
    have := key j u hu
    rw [← add_of_add, add_ne j hj] at this
    exact this
  exact ⟨ad, _, e, hb, hp, k0, kj 1 (by decide) _ rfl, kj 2 (by decide) _ rfl, kj 3 (by decide) _ rfl⟩
theorem IR4.below (h : IR4 w A n l) (hb : Below w.heap.size w w') : IR4 w' A n l := (Reads.below h hb).more hb.size
theorem IR4.nil_ : IR4 w A 0 [] := ⟨by simp [flat4], fun h => absurd h (by omega)⟩
end
theorem own_IR4 {w0 : World} {B e n c : Nat} {A : Option Addr} {l : List IT} (h : w0.ownsRow B e 4 (.slice A n c) n (flat4 l)) : IR4 w0 A n l := Reads.of_own h
/-- What a job is. -/
def jobV (A : Option Addr) (n c : Nat) (k : Nat) : Value := .agg #[.slice A n c, .int .i64 k]
end Go.Proofs.YtocohkgdkebmdaaGreat
namespace Go.Proofs.YtocohkgdkebmdaaGreat
open Go.RowKit
theorem is_bits {q r : Nat} (hk : q * 2 ^ r + Tl.mis r < 4096) (hr : r ≤ 12) : bits .and .i64 ((q * 2 ^ r + Tl.mis r : Nat) : Int) (Tl.mis r : Nat) = ((Tl.mis r : Nat) : Int) ∧ ((q * 2 ^ r + Tl.mis r : Nat) : Int) / 2 ^ r = ((q : Nat) : Int) := by
  have h2 := Tl.mis_pos r
  have h3 : 2 ^ r ≤ 2 ^ 12 := Nat.pow_le_pow_right (by decide) hr
  have hp := Nat.two_pow_pos r
  constructor
  · rw [i64_and_nat _ _ (by omega) (by omega)]
    congr 1
    have h : Tl.mis r = 2 ^ r - 1 := rfl
    rw [h, Nat.and_two_pow_sub_one_eq_mod, Nat.mul_comm, Nat.mul_add_mod, Nat.mod_eq_of_lt (by omega)]
  · have h4 : ((2 : Int) ^ r) = ((2 ^ r : Nat) : Int) := by push_cast; rfl
    rw [h4, ← Int.natCast_ediv]
    congr 1
    rw [Nat.mul_comm, Nat.mul_add_div hp, Nat.div_eq_of_lt (by omega), Nat.add_zero]
attribute [local irreducible] Tl.pop Tl.mis
theorem itm_at {l : List IT} {i : Nat} {p : IT} (h : l[i]? = some p) : Tl.it l i = p ∧ p ∈ l := by
  constructor
  · unfold Tl.it
    rw [List.getD_eq_getElem?_getD, h]
    rfl
  · exact List.mem_of_getElem? h
theorem jin_yes (n lo hi : Int) (w : World) (h1 : lo ≤ n) (h2 : n ≤ hi) : Calls Tryz.prog 70 #[.int .i64 n, .int .i64 lo, .int .i64 hi] w fun e w' => e = .returned (.bool true) ∧ w = w' := by
  have := jin_c n lo hi w
  rwa [decide_eq_true ⟨h1, h2⟩] at this
set_option maxRecDepth 100000 in
set_option maxHeartbeats 2000000 in
theorem jvalid_c (A : Option Addr) (n c k : Nat) (l : List IT) (w : World) (hj : Tl.JobOk l k) (h : IR4 w A n l) :
    Calls Tryz.prog 52 #[jobV A n c k] w fun e w' => e = .returned (.int .i64 0) ∧ Below w.heap.size w w' := by
  have hl := h.len
  have hn := hj.len
  have hk := hj.wt
  have hd1 : decide (96 < (n : Int)) = false := by simp; omega
  unfold jobV
  go_enter Tryz.func52, Tryz.ntmps52
  go_wp2_with (go_at_call 70; refine (jin_yes _ _ _ _ (by omega) (by omega)).mono ?_; rintro e w1 ⟨rfl, rfl⟩)
  go_loopw [3, 4, 16] (fun _ _ p wr => ∃ i : Nat, i ≤ n ∧ p = .int .i64 i ∧ wr.cell? ⟨w.heap.size, 0, none⟩ = some (.slice A n c) ∧ w.heap.size < wr.heap.size ∧ Below w.heap.size w wr) (fun _ _ p _ => n - (intOf p).toNat)
  case atStart => exact ⟨0, by omega, rfl, by go_simp, by simp, (Below.refl _ _).alloc (Nat.le_refl _) _⟩
  case round =>
    obtain ⟨i, hi, rfl, hc, hsz, hbr⟩ := hrel
    by_cases hlt : i < n
    · obtain ⟨ad, ⟨pa, pb, pc, pd⟩, rfl, hba, hp, c1, c2, c3, c4⟩ := h.at_ hlt
      have d1 := keep_cell hbr c1
      have d2 := keep_cell hbr c2
      have d3 := keep_cell hbr c3
      have d4 := keep_cell hbr c4
      obtain ⟨hit, hmem⟩ := itm_at hp
      obtain ⟨g1, g2, g3, g4, g5⟩ := hj.its _ hmem
      have hca := fun o => cell_alloc hc o
      simp only at d1 d2 d3 d4 g1 g2 g3 g4 g5
      clear c1 c2 c3 c4 hp hmem
      by_cases h0 : i = 0
      · have hB : decide (0 < (i : Int)) = false := by simp; omega
        have hB' : decide (0 < i) = false := by simp; omega
        clear h0 hit
        go_wp2_with (go_at_call 70; refine (jin_yes _ _ _ _ (by omega) (by omega)).mono ?_; rintro e w1 ⟨rfl, rfl⟩)
        go_quiet (fail)
        go_wp2_with fail
        go_roundw
        case rel => exact ⟨i + 1, by omega, by go_num, hca _, by have := hbr.size; simp; omega, below_drewN (hbr.alloc hbr.size _) _⟩
        case measure => simp [intOf]; omega
      · obtain ⟨j, hjj⟩ : ∃ j, i = j + 1 := ⟨i - 1, by omega⟩
        obtain ⟨ad', q, hea, _, hq, _, _, f3, _⟩ := h.at_ (i := j) (by omega)
        obtain rfl := Option.some.inj hea
        have hm := hj.mono j i (by omega) (by omega)
        rw [hit, (itm_at hq).1] at hm
        have hB : decide (0 < (i : Int)) = true := by simp; omega
        have hB' : decide (0 < i) = true := by simp; omega
        have hkj : (i : Int) - 1 = (j : Int) := by omega
        have hkw : IntKind.i64.wrap (j : Int) = (j : Int) := IntWalk.i64_in _ ⟨by omega, by omega⟩
        have hjn : (j : Int) < (n : Int) := by omega
        have e3 := keep_cell hbr f3
        clear hea hq f3 hjj hit
        generalize q.rd = qc at e3 hm
        simp only at hm
        have e3a := fun o => cell_alloc e3 o
        have hlt2 : decide ((pc : Int) < (qc : Int)) = false := by simp; omega
        have hlt3 : decide (pc < qc) = false := by simp; omega
        go_wp2_with (go_at_call 70; refine (jin_yes _ _ _ _ (by omega) (by omega)).mono ?_; rintro e w1 ⟨rfl, rfl⟩)
        go_quiet (fail)
        go_wp2_with fail
        go_roundw
        case rel => exact ⟨i + 1, by omega, by go_num, hca _, by have := hbr.size; simp; omega, below_drewN (hbr.alloc hbr.size _) _⟩
        case measure => simp [intOf]; omega
    · obtain rfl : i = n := by omega
      go_wp2_with fail
      go_ret
      exact ⟨rfl, hbr⟩
end Go.Proofs.YtocohkgdkebmdaaGreat
