/- Slices of structs of two integers; append of one slice to a row of the call's own. -/
import Derived.Test.YtkkpkekkaoccbaaDoorMem
namespace Go.Proofs.YtkkpkekkaoccbaaDoor
open Go.RowKit
def cells2 (p : Int × Int) : List Value := [.int .i64 p.1, .int .i64 p.2]
def flat2 (l : List (Int × Int)) : List Value := l.flatMap cells2
theorem flat2_len (l : List (Int × Int)) : (flat2 l).length = l.length * 2 := by
  induction l with
  | nil => rfl
  | cons p r ih => simp only [flat2, List.flatMap_cons, List.length_append] at *; rw [ih]; simp [cells2]; omega
theorem flat2_append (l m : List (Int × Int)) : flat2 (l ++ m) = flat2 l ++ flat2 m := by simp [flat2]
theorem flat2_snoc (l : List (Int × Int)) (p : Int × Int) : flat2 (l ++ [p]) = flat2 l ++ cells2 p := by simp [flat2]
theorem flat2_at (l : List (Int × Int)) : ∀ (i : Nat) (p : Int × Int), l[i]? = some p → (flat2 l)[i * 2]? = some (.int .i64 p.1) ∧ (flat2 l)[i * 2 + 1]? = some (.int .i64 p.2) := by
  induction l with
  | nil => intro i p h; simp at h
  | cons q r ih =>
    intro i p h
    have e : flat2 (q :: r) = .int .i64 q.1 :: .int .i64 q.2 :: flat2 r := rfl
    rw [e]
    cases i with
    | zero => simp at h; subst h; exact ⟨rfl, rfl⟩
    | succ i =>
      simp only [List.getElem?_cons_succ] at h
      obtain ⟨h1, h2⟩ := ih i p h
      have e1 : (i + 1) * 2 = i * 2 + 2 := by omega
      rw [e1]
      exact ⟨h1, h2⟩
def PR (w : World) (A : Option Addr) (n : Nat) (l : List (Int × Int)) : Prop := Reads w w.heap.size 2 A n (flat2 l)
section
variable {w w' : World} {A : Option Addr} {n : Nat} {l : List (Int × Int)}
theorem PR.len (h : PR w A n l) : l.length = n := by have := h.1; rw [flat2_len] at this; omega
theorem PR.at_ (h : PR w A n l) {i : Nat} (hi : i < n) :
    ∃ ad p, A = some ad ∧ ad.block < w.heap.size ∧ l[i]? = some p ∧ w.cell? (ad.add (i * 2)) = some (.int .i64 p.1) ∧ w.cell? ⟨(ad.add (i * 2)).block, (ad.add (i * 2)).off + 1, none⟩ = some (.int .i64 p.2) := by
  have hl := h.len
  obtain ⟨ad, e, hb, hc⟩ := h.2 (by omega)
  have hp : l[i]? = some l[i] := List.getElem?_eq_getElem (by omega)
  obtain ⟨h1, h2⟩ := flat2_at l i _ hp
  have e1 := hc _ _ h2
  rw [← add_of_add] at e1
  exact ⟨ad, _, e, hb, hp, hc _ _ h1, by simpa [Addr.add] using e1⟩
theorem PR.below (h : PR w A n l) (hb : Below w.heap.size w w') : PR w' A n l := (Reads.below h hb).more hb.size
end
theorem own_PR {w0 : World} {B e n c : Nat} {A : Option Addr} {l : List (Int × Int)} (h : w0.ownsRow B e 2 (.slice A n c) n (flat2 l)) : PR w0 A n l := Reads.of_own h
theorem IR.cut {k : IntKind} {w : World} {ad : Addr} {n g cap : Nat} {l : List Int} (h : IR k w (some ad) n l) (hg : g < n) (hc : n ≤ cap) : IR k w (some (ad.add g)) (n - g) (l.drop g) := by
  have := Reads.cut h (k := g) (by omega) hc
  rw [if_neg (by omega), Nat.mul_one, ← List.map_drop] at this
  exact this
theorem one_ints (k : IntKind) (l : List Int) : ∀ u ∈ l.map (Value.int k), u.oneCell' = true := by
  intro u hu
  obtain ⟨x, _, rfl⟩ := List.mem_map.1 hu
  rfl
section
variable {P : Program}
theorem wpList_cat {w : World} {ops : Array Oper} {rest : List Oper} {o : Oper} {a : Act} {Q : Exit → Act → World → Prop} {t e : TypeId} {size bytes : Nat} (S : SlT P t e size bytes)
    (hgd : o.guard = none) (s x : Operand) (ho : o.op = .call { callee := .builtin .append, args := #[s, x], argTypes := #[t, t] })
    (B : Nat) (v : Value) (n : Nat) (xs : List Value) (hs : a.eval s = v) (hown : w.ownsRow B e size v n xs)
    (B2 : Nat) (A : Option Addr) (m c : Nat) (news : List Value) (hx : a.eval x = .slice A m c) (hr : Reads w B2 size A m news) (h1 : ∀ u ∈ news, u.oneCell' = true)
    (h63 : n + m ≤ maxLen) (hbytes : (n + m) * bytes ≤ 140737488355328) (hbase : B ≤ w.heap.size)
    (h : ∀ v' w', w'.ownsRow B e size v' (n + m) (xs ++ news) → Grew w v v' w' → wpList P ops Q rest (a.put o.dst v') w') : wpList P ops Q (o :: rest) a w := by
  obtain ⟨i, z, hi, hz, hsize, hby, hzs⟩ := S.info
  refine wpList_append_any w hgd s x t ho B e i z size bytes S.under hi hz hsize hby hzs S.pos v n xs hs hown B2 A m c news hx hr h1 h63 hbytes hbase fun v' w' h2 h3 h4 => h v' w' h2 ⟨h3, ?_⟩
  rcases h4 with h4 | h4
  · exact .inl h4
  · exact .inr ⟨_, h4, Nat.le_refl _⟩
end
end Go.Proofs.YtkkpkekkaoccbaaDoor
