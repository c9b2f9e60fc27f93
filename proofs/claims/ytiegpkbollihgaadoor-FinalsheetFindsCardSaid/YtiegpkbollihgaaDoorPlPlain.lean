/- Plants, plainly: elements, ends, soundness, what is wrong with a list. -/
namespace Go.Proofs.YtiegpkbollihgaaDoor
structure PE where
  k : Int
  nm : ByteArray
  a : Int
  b : Int
  c : Int
  len : Int
namespace Pl
def nameC (c : UInt8) : Bool := decide (97 ≤ c.toNat) && decide (c.toNat ≤ 122) || decide (48 ≤ c.toNat) && decide (c.toNat ≤ 57)
def nameOk (s : ByteArray) : Bool := decide (1 ≤ s.size) && decide (s.size ≤ 12) && s.data.toList.all nameC
def ends (x : PE) : List Int := if x.k = 1 ∨ x.k = 3 then [x.a, x.b] else if x.k = 2 then [x.a, x.b, x.c] else []
theorem ends_len (x : PE) : (ends x).length ≤ 3 := by unfold ends; split <;> (try split) <;> simp
/-- The ends are nodes, and no two of them the same. -/
def nodes : List Int → List Int → Bool
  | [], _ => true
  | n :: r, prev => decide (0 ≤ n) && decide (n < 64) && !prev.contains n && nodes r (prev ++ [n])
def rest (x : PE) : Bool := if x.k = 1 then decide (x.c = 0) && decide (1 ≤ x.len) && decide (x.len ≤ 100000) else decide (x.len = 0) && (decide (x.k = 2) || decide (x.c = 0))
def sound (x : PE) : Bool := !(ends x).isEmpty && nameOk x.nm && nodes (ends x) [] && rest x
/-- How many ends of a list stand at a node. -/
def uses (l : List PE) (n : Int) : Nat := (l.flatMap ends).count n
def named (l : List PE) (s : ByteArray) : Bool := l.any fun y => decide (y.nm = s)
/-- What is wrong with the rest, behind what stands ahead of it. -/
def vGo : List PE → List PE → Int
  | [], _ => 0
  | x :: r, prev => if sound x = false then 1 else if named prev x.nm = true then 8 else if (ends x).any (fun n => decide (uses prev n = 2)) = true then 17 else vGo r (prev ++ [x])
def vErr (l : List PE) : Int := if 96 < l.length then 3 else vGo l []
theorem vGo_cons (x : PE) (r prev : List PE) : vGo (x :: r) prev = if sound x = false then 1 else if named prev x.nm = true then 8 else if (ends x).any (fun n => decide (uses prev n = 2)) = true then 17 else vGo r (prev ++ [x]) := rfl
theorem uses_snoc (l : List PE) (x : PE) (n : Int) : uses (l ++ [x]) n = uses l n + (ends x).count n := by simp [uses]
theorem named_snoc (l : List PE) (x : PE) (s : ByteArray) : named (l ++ [x]) s = (named l s || decide (x.nm = s)) := by simp [named]
theorem nodes_iff (l : List Int) : ∀ prev, nodes l prev = true ↔ (∀ n ∈ l, 0 ≤ n ∧ n < 64 ∧ n ∉ prev) ∧ l.Nodup := by
  induction l with
  | nil => intro prev; simp [nodes]
  | cons n r ih =>
    intro prev
    simp only [nodes, Bool.and_eq_true, decide_eq_true_eq, Bool.not_eq_true', ih, List.mem_append, List.mem_cons, List.nodup_cons, not_or, List.not_mem_nil, not_false_eq_true, and_true]
    constructor
    · rintro ⟨⟨⟨h1, h2⟩, h3⟩, h4, h5⟩
      have h3' : n ∉ prev := by simpa using h3
      refine ⟨?_, fun hm => (h4 n hm).2.2.2 rfl, h5⟩
      rintro m (rfl | hm)
      · exact ⟨h1, h2, h3'⟩
      · exact ⟨(h4 m hm).1, (h4 m hm).2.1, (h4 m hm).2.2.1⟩
    · rintro ⟨h1, h2, h3⟩
      obtain ⟨a1, a2, a3⟩ := h1 n (Or.inl rfl)
      exact ⟨⟨⟨a1, a2⟩, by simpa using a3⟩, fun m hm => ⟨(h1 m (Or.inr hm)).1, (h1 m (Or.inr hm)).2.1, (h1 m (Or.inr hm)).2.2, fun e => h2 (by rw [← e]; exact hm)⟩, h3⟩
/-- The first other element with an end at a node. -/
def nbGo (i node : Int) : List PE → Nat → Int
  | [], _ => -1
  | x :: r, k => if (k : Int) ≠ i ∧ (ends x).contains node = true then (k : Int) else nbGo i node r (k + 1)
def nb (l : List PE) (i node : Int) : Int := nbGo i node l 0
def endsAt (l : List PE) (i : Int) : List Int := if i < 0 then [] else match l[i.toNat]? with | some x => ends x | none => []
def thruGo (inn : Int) : List Int → List Int
  | [] => []
  | n :: r => if n = inn then r else if r.contains inn = true then [n] else []
def thru (l : List PE) (i inn : Int) : List Int := thruGo inn (endsAt l i)
end Pl
end Go.Proofs.YtiegpkbollihgaaDoor
