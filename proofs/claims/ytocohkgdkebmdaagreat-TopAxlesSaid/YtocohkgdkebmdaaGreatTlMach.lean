/- The machine of a sorting plan, plainly: passes by one bit after the other; what it leaves is in the order of the codes. -/
import Derived.Laws.BitsAllLaws
import Derived.Laws.BitsLemmas
import Derived.IntWalk
import Derived.Test.YtocohkgdkebmdaaGreatDetPlain
namespace Go.Proofs.YtocohkgdkebmdaaGreat
open Go.RowKit
theorem ofInt_i64 (a : Nat) (ha : a < 9223372036854775808) : (BitVec.ofInt 64 (a : Int)).toNat = a := by
  rw [BitVec.ofInt_natCast, BitVec.toNat_ofNat]; exact Nat.mod_eq_of_lt (by omega)
theorem i64_and_nat (a b : Nat) (ha : a < 9223372036854775808) (hb : b < 9223372036854775808) : bits .and .i64 (a : Int) (b : Int) = ((a &&& b : Nat) : Int) := by
  have hx : a &&& b < 2 ^ 63 := Nat.and_lt_two_pow _ (by omega)
  show IntKind.i64.wrap ((BitVec.ofInt 64 (a : Int) &&& BitVec.ofInt 64 (b : Int)).toNat : Int) = _
  rw [BitVec.toNat_and, ofInt_i64 a ha, ofInt_i64 b hb, IntKind.wrap_i64]
  omega
theorem i64_or_nat (a b : Nat) (ha : a < 9223372036854775808) (hb : b < 9223372036854775808) : bits .or .i64 (a : Int) (b : Int) = ((a ||| b : Nat) : Int) := by
  have hx : a ||| b < 2 ^ 63 := Nat.or_lt_two_pow (by omega) (by omega)
  show IntKind.i64.wrap ((BitVec.ofInt 64 (a : Int) ||| BitVec.ofInt 64 (b : Int)).toNat : Int) = _
  rw [BitVec.toNat_or, ofInt_i64 a ha, ofInt_i64 b hb, IntKind.wrap_i64]
  omega
theorem i64_xor_nat (a b : Nat) (ha : a < 9223372036854775808) (hb : b < 9223372036854775808) : bits .xor .i64 (a : Int) (b : Int) = ((a ^^^ b : Nat) : Int) := by
  have hx : a ^^^ b < 2 ^ 63 := Nat.xor_lt_two_pow (by omega) (by omega)
  show IntKind.i64.wrap ((BitVec.ofInt 64 (a : Int) ^^^ BitVec.ofInt 64 (b : Int)).toNat : Int) = _
  rw [BitVec.toNat_xor, ofInt_i64 a ha, ofInt_i64 b hb, IntKind.wrap_i64]
  omega
/-- 'w>>k & 1' in the walk's spelling. -/
theorem i64_bit (n k : Nat) (hn : n < 9223372036854775808) : bits .and .i64 ((n : Int) / 2 ^ k) 1 = ((n / 2 ^ k % 2 : Nat) : Int) := by
  have e : ((n : Int) / 2 ^ k) = ((n / 2 ^ k : Nat) : Int) := by simp
  rw [e]
  have h := i64_and_nat (n / 2 ^ k) 1 (Nat.lt_of_le_of_lt (Nat.div_le_self _ _) hn) (by omega)
  rw [show ((1 : Nat) : Int) = 1 from rfl] at h
  rw [h, nat_mask1]
theorem i64_and1 (n : Nat) (hn : n < 9223372036854775808) : bits .and .i64 (n : Int) 1 = ((n % 2 : Nat) : Int) := by
  have h := i64_and_nat n 1 hn (by omega)
  rw [show ((1 : Nat) : Int) = 1 from rfl] at h
  rw [h, nat_mask1]
/-- 'b << p' in the walk's spelling, b and p small. -/
theorem i64_shl (b p : Nat) (hb : b < 65536) (hp : p ≤ 40) : wrap64 ((b : Int) * 2 ^ min p 64) = ((b * 2 ^ p : Nat) : Int) := by
  rw [Nat.min_eq_left (by omega)]
  have h1 : 2 ^ p ≤ 2 ^ 40 := Nat.pow_le_pow_right (by decide) hp
  have h2 : b * 2 ^ p ≤ 65536 * 2 ^ 40 := Nat.mul_le_mul (by omega) h1
  rw [show ((b : Int) * 2 ^ p) = ((b * 2 ^ p : Nat) : Int) by simp]
  exact IntWalk.wrap64_in _ ⟨by omega, by omega⟩
theorem i64_one_shl (p : Nat) (hp : p ≤ 40) : wrap64 (2 ^ min p 64) = ((2 ^ p : Nat) : Int) := by
  have h := i64_shl 1 p (by omega) hp
  simpa using h
/-- '(v%m + m) % m' is the remainder, not below 0. -/
theorem tmod_bd (v m : Int) (hm : 0 < m) : -m < v.tmod m ∧ v.tmod m < m := by
  constructor
  · have := Int.lt_tmod_of_pos v hm; omega
  · exact Int.tmod_lt_of_pos v hm
theorem mod_bd (v m : Int) (hm : 0 < m) : 0 ≤ v % m ∧ v % m < m := ⟨Int.emod_nonneg v (by omega), Int.emod_lt_of_pos v hm⟩
end Go.Proofs.YtocohkgdkebmdaaGreat
namespace Go.Proofs.YtocohkgdkebmdaaGreat
/-- An item: train, block, round, length. -/
structure IT where
  tr : Nat
  bl : Nat
  rd : Nat
  ln : Nat
namespace Tl
def itZ : IT := ⟨0, 0, 0, 0⟩
def it (l : List IT) (x : Nat) : IT := l.getD x itZ
def kAt (K : List Nat) (x : Nat) : Nat := K.getD x 0
/-- The first bit that is set, from a time on, below the steps. -/
def nbit (k : Nat) : Nat → Nat → Option Nat
  | _, 0 => none
  | t, f + 1 => if k.testBit t = true then some t else nbit k (t + 1) f
/-- The machine: sorting tracks, trains, moves, pushes. -/
structure MC where
  st : List (List Nat)
  tn : List (List Nat)
  mv : Nat
  pu : Nat
def addAt (L : List (List Nat)) (i x : Nat) : List (List Nat) := L.set i (L.getD i [] ++ [x])
def pushM (l : List IT) (K : List Nat) (S : Nat) (t : Nat) (m : MC) (x : Nat) : MC :=
  match nbit (kAt K x) t (S - t) with
  | some b => { m with st := addAt m.st b x, mv := m.mv + 1 }
  | none => { m with tn := addAt m.tn (it l x).tr x, mv := m.mv + 1 }
def newAt (l : List IT) (t : Nat) : List Nat := (List.range l.length).filter fun x => decide ((it l x).rd = t)
def oldAt (m : MC) (t : Nat) : List Nat := if t = 0 then [] else m.st.getD (t - 1) []
def clr (m : MC) (t : Nat) : MC := if t = 0 then m else { m with st := m.st.set (t - 1) [] }
def atM (l : List IT) (K : List Nat) (S : Nat) (m : MC) (t : Nat) : MC :=
  let m2 := (oldAt m t ++ newAt l t).foldl (pushM l K S t) (clr m t)
  if m.mv < m2.mv then { m2 with pu := m2.pu + 1 } else m2
/-- The trains that there are. -/
def nTn (l : List IT) : Nat := l.foldl (fun n x => max n (x.tr + 1)) 0
def start (l : List IT) (S : Nat) : MC := ⟨List.replicate S [], List.replicate (nTn l) [], 0, 0⟩
def runTo (l : List IT) (K : List Nat) (S : Nat) : Nat → MC
  | 0 => start l S
  | t + 1 => atM l K S (runTo l K S t) t
/-- All pushes up to the last one. -/
def run (l : List IT) (K : List Nat) (S : Nat) : MC := runTo l K S (S + 1)
/- ### The order by bits. -/
def bitOf (K : List Nat) (t x : Nat) : Bool := (kAt K x).testBit t
def ord (K : List Nat) (n : Nat) : Nat → List Nat
  | 0 => List.range n
  | t + 1 => (ord K n t).filter (fun x => !bitOf K t x) ++ (ord K n t).filter (fun x => bitOf K t x)
theorem ord_perm (K : List Nat) (n : Nat) : ∀ t, (ord K n t).Perm (List.range n)
  | 0 => List.Perm.refl _
  | t + 1 => by
    unfold ord
    refine List.Perm.trans ?_ (ord_perm K n t)
    refine List.Perm.trans List.perm_append_comm ?_
    have := List.filter_append_perm (fun x => bitOf K t x) (ord K n t)
    exact this
/-- Some behind all others of a list. -/
theorem filter_or {l : List Nat} {Q R : Nat → Bool} (h : l.Pairwise fun x y => ¬ (R x = true ∧ Q y = true)) (hd : ∀ x, ¬ (Q x = true ∧ R x = true)) : l.filter (fun x => Q x || R x) = l.filter Q ++ l.filter R := by
  induction l with
  | nil => rfl
  | cons a r ih =>
    rw [List.pairwise_cons] at h
    have ih := ih h.2
    rw [List.filter_cons, List.filter_cons, List.filter_cons, ih]
    cases hq : Q a with
    | true =>
      have hr : R a = false := by
        cases hr : R a with
        | false => rfl
        | true => exact absurd ⟨hq, hr⟩ (hd a)
      rw [hr]
      simp
    | false =>
      cases hr : R a with
      | false => simp
      | true =>
        have hnil : r.filter Q = [] := by
          rw [List.filter_eq_nil_iff]
          intro y hy hqy
          exact h.1 y hy ⟨hr, hqy⟩
        rw [hnil]
        simp
/-- Items of a round, the bits of which below it are set. -/
structure Fit (l : List IT) (K : List Nat) (S : Nat) : Prop where
  len : K.length = l.length
  low : ∀ x b, x < l.length → b < (it l x).rd → (kAt K x).testBit b = true
  top : ∀ x, x < l.length → kAt K x < 2 ^ S
  mono : ∀ x y, x < y → y < l.length → (it l x).rd ≤ (it l y).rd
theorem ord_new {l : List IT} {K : List Nat} {S : Nat} (h : Fit l K S) (t : Nat) (P : Nat → Bool) : ∀ s, s ≤ t → (ord K l.length s).filter (fun x => decide ((it l x).rd = t) && P x) = (List.range l.length).filter fun x => decide ((it l x).rd = t) && P x := by
  intro s
  induction s with
  | zero => intro _; rfl
  | succ s ih =>
    intro hs
    have ih := ih (by omega)
    unfold ord
    rw [List.filter_append, List.filter_filter, List.filter_filter]
    have hm : ∀ x, x ∈ ord K l.length s → (it l x).rd = t → bitOf K s x = true := fun x hx hr => h.low x s (by have := (ord_perm K l.length s).mem_iff.1 hx; simpa using this) (by omega)
    have e1 : (ord K l.length s).filter (fun x => (decide ((it l x).rd = t) && P x) && !bitOf K s x) = [] := by
      rw [List.filter_eq_nil_iff]
      intro x hx hc
      simp only [Bool.and_eq_true, decide_eq_true_eq, Bool.not_eq_true'] at hc
      rw [hm x hx hc.1.1] at hc
      cases hc.2
    have e2 : (ord K l.length s).filter (fun x => (decide ((it l x).rd = t) && P x) && bitOf K s x) = (ord K l.length s).filter (fun x => decide ((it l x).rd = t) && P x) := by
      refine List.filter_congr fun x hx => ?_
      by_cases hr : (it l x).rd = t
      · rw [hm x hx hr, Bool.and_true]
      · simp [hr]
    rw [e1, e2, List.nil_append, ih]
theorem ord_split {l : List IT} {K : List Nat} {S : Nat} (h : Fit l K S) (t : Nat) : ∀ s, s ≤ t → ∀ (Q P : Nat → Bool), (∀ x, Q x = true → (it l x).rd < t) →
    (ord K l.length s).filter (fun x => Q x || (decide ((it l x).rd = t) && P x)) = (ord K l.length s).filter Q ++ (ord K l.length s).filter (fun x => decide ((it l x).rd = t) && P x) := by
  intro s
  induction s with
  | zero =>
    intro _ Q P hQ
    unfold ord
    refine filter_or ?_ ?_
    · refine List.Pairwise.imp_of_mem ?_ (List.pairwise_lt_range (n := l.length))
      intro x y hx hy hxy hc
      have := h.mono x y hxy (by simpa using hy)
      have h2 := hQ y hc.2
      simp only [Bool.and_eq_true, decide_eq_true_eq] at hc
      omega
    · intro x hc
      have h2 := hQ x hc.1
      simp only [Bool.and_eq_true, decide_eq_true_eq] at hc
      omega
  | succ s ih =>
    intro hs Q P hQ
    have ih := ih (by omega)
    have hm : ∀ x, x ∈ ord K l.length s → (it l x).rd = t → bitOf K s x = true := fun x hx hr => h.low x s (by have := (ord_perm K l.length s).mem_iff.1 hx; simpa using this) (by omega)
    have hR : ∀ u, u ≤ s + 1 → (ord K l.length u).filter (fun x => decide ((it l x).rd = t) && P x) = (List.range l.length).filter fun x => decide ((it l x).rd = t) && P x := fun u hu => ord_new h t P u (by omega)
    rw [hR (s + 1) (Nat.le_refl _)]
    unfold ord
    rw [List.filter_append, List.filter_append, List.filter_filter, List.filter_filter, List.filter_filter, List.filter_filter]
    have e1 : (ord K l.length s).filter (fun x => (Q x || (decide ((it l x).rd = t) && P x)) && !bitOf K s x) = (ord K l.length s).filter (fun x => Q x && !bitOf K s x) := by
      refine List.filter_congr fun x hx => ?_
      by_cases hr : (it l x).rd = t
      · rw [hm x hx hr]; simp
      · simp [hr]
    have e2 : (ord K l.length s).filter (fun x => (Q x || (decide ((it l x).rd = t) && P x)) && bitOf K s x) = (ord K l.length s).filter (fun x => (Q x && bitOf K s x) || (decide ((it l x).rd = t) && P x)) := by
      refine List.filter_congr fun x hx => ?_
      by_cases hr : (it l x).rd = t
      · rw [hm x hx hr]; simp
      · simp [hr]
    rw [e1, e2, ih (fun x => Q x && bitOf K s x) P (fun x hx => hQ x (by simp only [Bool.and_eq_true] at hx; exact hx.1)), hR s (by omega), List.append_assoc]
end Tl
end Go.Proofs.YtocohkgdkebmdaaGreat
