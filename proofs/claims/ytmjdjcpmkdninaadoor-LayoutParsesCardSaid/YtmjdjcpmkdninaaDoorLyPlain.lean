/- Layouts, plainly: elements, soundness, what is wrong with a list. -/
import Derived.Test.YtmjdjcpmkdninaaDoorPlPlain
namespace Go.Proofs.YtmjdjcpmkdninaaDoor
structure LE where
  k : Int
  nm : ByteArray
  p : Int
  sd : Int
  len : Int
  g : Int
  c : Int
  pw : Int
namespace Ly
def crestOk (x : LE) : Bool := decide (x.p = -1) && decide (x.sd = 0) && decide (x.len = 0) && decide (x.g = 0) && decide (x.c = 0) && decide (x.pw = 0)
def restOk (x : LE) : Bool := decide (1 ≤ x.k) && decide (x.k ≤ 4) && decide (1 ≤ x.len) && decide (x.len ≤ 1000000) && decide (-10000 ≤ x.g) && decide (x.g ≤ 10000) && decide (0 ≤ x.c) && decide (x.c ≤ 5000) && decide (0 ≤ x.sd) && decide (x.sd ≤ 2) && (if x.k = 2 then decide (1 ≤ x.pw) && decide (x.pw ≤ 1000000000) else decide (x.pw = 0))
def sound (x : LE) : Bool := Pl.nameOk x.nm && (if x.k = 0 then crestOk x else restOk x)
def named (l : List LE) (s : ByteArray) : Bool := l.any fun y => decide (y.nm = s)
/-- A place behind the crest is taken. -/
def taken (l : List LE) (p sd : Int) : Bool := (l.drop 1).any fun y => decide (y.p = p) && decide (y.sd = sd)
def kAt (l : List LE) (p : Int) : Int := match l[p.toNat]? with | some y => y.k | none => 0
/-- What is wrong with an element behind some others. -/
def fitE (prev : List LE) (x : LE) : Int :=
  if sound x = false ∨ ¬ (x.k = 0 ↔ prev = []) then 1
  else if named prev x.nm = true then 8
  else if prev = [] then 0
  else if x.p < 0 ∨ (prev.length : Int) ≤ x.p then 12
  else if kAt prev x.p = 4 ∨ (kAt prev x.p = 3 ↔ x.sd = 0) ∨ taken prev x.p x.sd = true then 17
  else 0
def vGo : List LE → List LE → Int
  | [], _ => 0
  | x :: r, prev => if fitE prev x ≠ 0 then fitE prev x else vGo r (prev ++ [x])
def kids (l : List LE) (i : Nat) : Nat := (l.drop 1).countP fun y => decide (y.p = (i : Int))
def want (k : Int) : Nat := if k = 3 then 2 else if k = 4 then 0 else 1
/-- Somebody lacks a child. -/
def lacks (l : List LE) : List LE → Nat → Bool
  | [], _ => false
  | x :: r, i => decide (kids l i < want x.k) || lacks l r (i + 1)
def tracks (l : List LE) : Nat := l.countP fun x => decide (x.k = 4)
def switches (l : List LE) : Nat := l.countP fun x => decide (x.k = 3)
def vErr (l : List LE) : Int :=
  if 128 < l.length then 3 else if l = [] then 13 else if vGo l [] ≠ 0 then vGo l [] else if lacks l l 0 = true then 13 else if 32 < tracks l then 3 else 0
/- ### A valid layout has one more track than switches. -/
/-- All elements fit behind those before them. -/
def Fits (l : List LE) : Prop := ∀ i x, l[i]? = some x → fitE (l.take i) x = 0
theorem vGo_fits : ∀ (r prev : List LE), vGo r prev = 0 → ∀ i x, r[i]? = some x → fitE (prev ++ r.take i) x = 0 := by
  intro r
  induction r with
  | nil => intro _ _ i x h; simp at h
  | cons y t ih =>
    intro prev h i x hx
    unfold vGo at h
    split at h
    · contradiction
    · rename_i h1
      rcases i with _ | i
      · simp at hx
        subst hx
        simpa using h1
      · have := ih _ h i x (by simpa using hx)
        simpa using this
theorem lacks_no (l : List LE) : ∀ (r : List LE) (i : Nat), lacks l r i = false → ∀ j x, r[j]? = some x → want x.k ≤ kids l (i + j) := by
  intro r
  induction r with
  | nil => intro i _ j x h; simp at h
  | cons y t ih =>
    intro i h j x hx
    simp only [lacks, Bool.or_eq_false_iff, decide_eq_false_iff_not] at h
    rcases j with _ | j
    · simp at hx
      subst hx
      rw [Nat.add_zero]; omega
    · rw [show i + (j + 1) = i + 1 + j by omega]
      exact ih (i + 1) h.2 j x (by simpa using hx)
theorem vErr_zero {l : List LE} (h : vErr l = 0) : l.length ≤ 128 ∧ l ≠ [] ∧ Fits l ∧ (∀ j x, l[j]? = some x → want x.k ≤ kids l j) ∧ tracks l ≤ 32 := by
  unfold vErr at h
  split at h
  · omega
  · rename_i h0
    split at h
    · omega
    · rename_i h1
      split at h
      · rename_i h2; exact absurd h h2
      · rename_i h2
        split at h
        · omega
        · rename_i h3
          split at h
          · omega
          · rename_i h4
            refine ⟨by omega, h1, fun i x hx => ?_, fun j x hx => ?_, by omega⟩
            · have := vGo_fits l [] (by simpa using h2) i x hx
              simpa using this
            · have := lacks_no l l 0 (by simpa using h3) j x hx
              simpa using this
theorem fitE_parts {prev : List LE} {x : LE} (h : fitE prev x = 0) : sound x = true ∧ (x.k = 0 ↔ prev = []) ∧ named prev x.nm = false ∧ (prev ≠ [] → 0 ≤ x.p ∧ x.p < (prev.length : Int) ∧ kAt prev x.p ≠ 4 ∧ (kAt prev x.p = 3 ↔ x.sd ≠ 0) ∧ taken prev x.p x.sd = false) := by
  unfold fitE at h
  split at h
  · omega
  · rename_i h1
    split at h
    · omega
    · rename_i h2
      have h1a : sound x = true := by
        cases hs : sound x with
        | true => rfl
        | false => exact absurd (Or.inl hs) h1
      have h1b : x.k = 0 ↔ prev = [] := Classical.byContradiction fun hn => h1 (Or.inr hn)
      refine ⟨h1a, h1b, by simpa using h2, fun hp => ?_⟩
      split at h
      · contradiction
      · split at h
        · omega
        · rename_i h4
          split at h
          · omega
          · rename_i h5
            simp only [not_or] at h4 h5
            refine ⟨by omega, by omega, h5.1, ?_, by simpa using h5.2.2⟩
            have := h5.2.1
            constructor
            · intro h3 h0; exact this ⟨fun _ => h0, fun _ => h3⟩
            · intro hs
              by_cases h3 : kAt prev x.p = 3
              · exact h3
              · exact absurd ⟨fun e => absurd e h3, fun e => absurd e hs⟩ this
end Ly
end Go.Proofs.YtmjdjcpmkdninaaDoor
