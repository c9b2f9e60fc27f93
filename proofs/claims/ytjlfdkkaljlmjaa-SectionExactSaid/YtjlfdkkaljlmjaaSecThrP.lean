/- The plain law of 'SectionThrough': the balance of a chain is 0. -/
import Derived.Test.YtjlfdkkaljlmjaaSecLaws
import Derived.Test.YtjlfdkkaljlmjaaGenBorders
namespace Go.Proofs.Ytjlfdkkaljlmjaa
namespace Sec
theorem cnt_snoc1 (l p : List V3) (x : V3) (s r : Int) : (cnt l (p ++ [x]) s r).1 = (cnt l p s r).1 + cs l s r x := by
  rw [cnt_snoc, cstep, cs]
  split <;> simp
/-- The sum of the senses of the first k sections at a detector. -/
def ssum (l : List V3) (d : Int) : Nat → Int
  | 0 => 0
  | k + 1 => ssum l d k + sense l k d
theorem balTo_snoc (l p : List V3) (x : V3) (h : 0 ≤ x.b) : ∀ k, balTo l (p ++ [x]) k = balTo l p k + x.c * ssum l x.a k := by
  intro k
  induction k with
  | zero => simp [balTo, ssum]
  | succ k ih =>
    rw [balTo, ih, cnt_snoc1, balTo, ssum, cs, if_neg (by omega), Int.mul_add]
    omega
theorem bal_zero (l : List V3) : ∀ (n : Nat) (p : List V3), p.length = n → (∀ x ∈ p, 0 ≤ x.b ∧ ssum l x.a 32 = 0) → bal l p = 0 := by
  intro n
  induction n with
  | zero =>
    intro p hp _
    rw [List.length_eq_zero_iff.1 hp]
    have : ∀ k, balTo l [] k = 0 := by
      intro k
      induction k with
      | zero => rfl
      | succ k ih => rw [balTo, ih]; rfl
    exact this 32
  | succ n ih =>
    intro p hp h
    obtain ⟨q, x, rfl⟩ : ∃ q x, p = q ++ [x] := ⟨p.dropLast, p.getLast (by intro e; simp [e] at hp), (List.dropLast_concat_getLast _).symm⟩
    have h1 := ih q (by simpa using hp) (fun y hy => h y (by simp [hy]))
    have h2 := h x (by simp)
    unfold bal at h1 ⊢
    rw [balTo_snoc l q x h2.1, h1, h2.2]
    simp
theorem ssum_chain : ∀ n, n < 7 → 2 ≤ n → ∀ d, d < n → 1 ≤ d → ssum (chain n) (d : Int) 32 = 0 := by decide +kernel
theorem chain_ok : ∀ n, n < 7 → vErr (chain n) = 0 ∧ vGo (chain n) [] = 0 := by decide +kernel
theorem chain_thr : ∀ n, n < 7 → 2 ≤ n → (thr (chain n)).length + 1 = n := by decide +kernel
theorem vGo_map (f : V3 → V3) (hf : ∀ x, Det.okP x = true → x.a < 6 → Det.okP (f x) = true ∧ (f x).b = x.b) : ∀ (l : List V3) (o : Option Int), Det.vGo l o = 0 → (∀ x ∈ l, x.a < 6) → Det.vGo (l.map f) o = 0 := by
  intro l
  induction l with
  | nil => intro _ _ _; rfl
  | cons q r ih =>
    intro o h h6
    obtain ⟨h1, h2, h3⟩ := Det.vGo_cons h
    obtain ⟨g1, g2⟩ := hf q h1 (h6 q (by simp))
    rw [List.map_cons, Det.vGo_ok o _ _ g1, g2, if_neg (by rw [h2]; simp)]
    exact ih _ h3 (fun x hx => h6 x (by simp [hx]))
/-- A pulse at one of the detectors 1 .. m. -/
def inner (m : Nat) (x : V3) : V3 := ⟨1 + x.a % (m : Int), x.b, x.c⟩
theorem inner_ok (m : Nat) (h1 : 1 ≤ m) (x : V3) (h : Det.okP x = true) (h6 : x.a < 6) : Det.okP (inner m x) = true ∧ (inner m x).b = x.b := by
  obtain ⟨o1, o2, o3, o4, o5⟩ := Det.okP_all h
  have h3 : 0 ≤ x.a % (m : Int) := Int.emod_nonneg _ (by omega)
  have h4 : x.a % (m : Int) ≤ x.a := by
    obtain ⟨a, ha⟩ := Int.eq_ofNat_of_zero_le o1
    rw [ha]
    exact Int.ofNat_le.2 (Nat.mod_le a m)
  refine ⟨?_, rfl⟩
  unfold inner
  generalize x.a % (m : Int) = y at h3 h4 ⊢
  have k1 : (0 ≤ 1 + y ∧ 1 + y < 32 ∧ 0 ≤ x.b ∧ x.b ≤ 1000000000) := by omega
  unfold Det.okP
  simp only [Bool.and_eq_true, Bool.or_eq_true, decide_eq_true_eq]
  exact ⟨⟨⟨⟨k1.1, k1.2.1⟩, k1.2.2.1⟩, k1.2.2.2⟩, o5⟩
theorem inner_bal (n : Nat) (h2 : 2 ≤ n) (h7 : n < 7) (q : List V3) (hq : Det.vGo q none = 0) : ∀ k, bal (chain n) ((q.map (inner (n - 1))).take k) = 0 := by
  intro k
  refine bal_zero _ _ _ rfl fun x hx => ?_
  obtain ⟨y, hy, rfl⟩ := List.mem_map.1 (List.mem_of_mem_take hx)
  obtain ⟨o1, _, o3, _, _⟩ := Det.okP_all (Det.vGo_valid q none hq y hy)
  refine ⟨o3, ?_⟩
  have h3 : 0 ≤ y.a % ((n - 1 : Nat) : Int) := Int.emod_nonneg _ (by omega)
  have h4 : y.a % ((n - 1 : Nat) : Int) < ((n - 1 : Nat) : Int) := Int.emod_lt_of_pos _ (by omega)
  show ssum (chain n) (1 + y.a % ((n - 1 : Nat) : Int)) 32 = 0
  obtain ⟨d, hd⟩ := Int.eq_ofNat_of_zero_le h3
  rw [hd] at h4 ⊢
  have := ssum_chain n h7 h2 (1 + d) (by omega) (by omega)
  rwa [Int.natCast_add] at this
end Sec
end Go.Proofs.Ytjlfdkkaljlmjaa
