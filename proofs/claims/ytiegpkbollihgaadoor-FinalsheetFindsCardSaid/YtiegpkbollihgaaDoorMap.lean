/- Maps that the call makes, as functions of the key: for any type of keys that can be read; elements int and bool. -/
import Derived.Test.YtiegpkbollihgaaDoorMem
import Derived.Maps.OwnSet
import Derived.Lib.Hide
namespace Go.Proofs.YtiegpkbollihgaaDoor
open Go.RowKit Go.Maps
structure KeyT (P : Program) (K : TypeId) (κ : Type) where
  val : κ → Value
  lit : κ → Lit
  ok : κ → Prop
  keyed : Keyed P K
  key : ∀ x, ok x → keyOf P K (val x) = some (lit x)
  inj : ∀ x y, ok x → ok y → lit x = lit y → x = y
theorem plainElem_bool_inv' {H : Type} {P : Program} {e : TypeId} (he : P.underlying e = some .bool) {v : Value} {z : DataW H × List MemPlace} (h : plainElem P e v = some z) : ∃ x, v = .bool x ∧ z = (.lit (.bool x), []) := by
  unfold plainElem at h
  rw [he] at h
  cases v <;> simp at h
  exact ⟨_, rfl, h.symm⟩
section
variable {P : Program} {K E T : TypeId} {κ : Type} {k : KeyT P K κ}
/-- Block b is a map that holds g (0 where nothing is stored). -/
def MapI (k : KeyT P K κ) (E : TypeId) (w : World) (b n : Nat) (g : κ → Int) : Prop :=
  ∃ D : DataW Unit, w.ownsMap P K (plainElem P E) b n D ∧ ∀ x, k.ok x → D.atKey (k.lit x) (.lit (.int .i64 0)) = .lit (.int .i64 (g x))
def MapB (k : KeyT P K κ) (E : TypeId) (w : World) (b n : Nat) (g : κ → Bool) : Prop :=
  ∃ D : DataW Unit, w.ownsMap P K (plainElem P E) b n D ∧ ∀ x, k.ok x → D.atKey (k.lit x) (.lit (.bool false)) = .lit (.bool (g x))
theorem MapI.made (w : World) : MapI k E (w.alloc (.map #[] 0)) w.heap.size 0 (fun _ => 0) := ⟨_, World.ownsMap_made w _ _ _, fun _ _ => rfl⟩
theorem MapB.made (w : World) : MapB k E (w.alloc (.map #[] 0)) w.heap.size 0 (fun _ => false) := ⟨_, World.ownsMap_made w _ _ _, fun _ _ => rfl⟩
variable {w w' : World} {b n : Nat} {g : κ → Int} {gb : κ → Bool}
theorem MapI.kept {row : Option Nat} (h : MapI k E w b n g) (hg : w.grownBy w' row) (hne : some b ≠ row) : MapI k E w' b n g := let ⟨D, h1, h2⟩ := h; ⟨D, h1.kept hg hne, h2⟩
theorem MapB.kept {row : Option Nat} (h : MapB k E w b n gb) (hg : w.grownBy w' row) (hne : some b ≠ row) : MapB k E w' b n gb := let ⟨D, h1, h2⟩ := h; ⟨D, h1.kept hg hne, h2⟩
theorem below_grown (h : Below w.heap.size w w') (row : Option Nat) : w.grownBy w' row := ⟨h.os, h.tape, h.output, h.size, fun i hi _ => h.block i hi⟩
theorem MapI.lt (h : MapI k E w b n g) : b < w.heap.size := let ⟨_, h1, _⟩ := h; h1.lt
theorem MapB.lt (h : MapB k E w b n gb) : b < w.heap.size := let ⟨_, h1, _⟩ := h; h1.lt
theorem MapI.below (h : MapI k E w b n g) (hb : Below w.heap.size w w') : MapI k E w' b n g := h.kept (below_grown hb none) (by simp)
theorem MapB.below (h : MapB k E w b n gb) (hb : Below w.heap.size w w') : MapB k E w' b n gb := h.kept (below_grown hb none) (by simp)
theorem MapI.alloc (h : MapI k E w b n g) (o : Obj) : MapI k E (w.alloc o) b n g := let ⟨D, h1, h2⟩ := h; ⟨D, h1.alloc o, h2⟩
theorem MapB.alloc (h : MapB k E w b n gb) (o : Obj) : MapB k E (w.alloc o) b n gb := let ⟨D, h1, h2⟩ := h; ⟨D, h1.alloc o, h2⟩
theorem MapI.drewN (h : MapI k E w b n g) (j : Nat) : MapI k E (w.drewN j) b n g := h
theorem MapB.drewN (h : MapB k E w b n gb) (j : Nat) : MapB k E (w.drewN j) b n gb := h
theorem MapI.setCell (h : MapI k E w b n g) {a : Addr} (ha : b ≠ a.block) (u : Value) : MapI k E (w.setCell a u) b n g := let ⟨D, h1, h2⟩ := h; ⟨D, h1.setCell ha u, h2⟩
theorem MapB.setCell (h : MapB k E w b n gb) {a : Addr} (ha : b ≠ a.block) (u : Value) : MapB k E (w.setCell a u) b n gb := let ⟨D, h1, h2⟩ := h; ⟨D, h1.setCell ha u, h2⟩
variable {ops : Array Oper} {rest : List Oper} {o : Oper} {a : Act} {Q : Exit → Act → World → Prop}
theorem wpList_mapI_look (hT : P.underlying T = some (.map K E)) (hE : P.underlying E = some (.int .i64)) (hz : (zeroValue E).run P w = .ok (.int .i64 0) w) (hg : o.guard = none) (m x : Operand) (hop : o.op = Op.lookup T m x false)
    (hm : a.eval m = .map (some b)) (hM : MapI k E w b n g) (s : κ) (hx : a.eval x = k.val s) (hs : k.ok s) (h : wpList P ops Q rest (a.put o.dst (.int .i64 (g s))) w) : wpList P ops Q (o :: rest) a w := by
  obtain ⟨D, hown, hat⟩ := hM
  refine wpList_lookup_own_int w hg m x _ hop _ _ .i64 k.keyed hT hE hz b n D hm hown _ _ hx (k.key s hs) fun c hc _ => ?_
  have e := hc.symm.trans (hat s hs)
  simp only [DataW.lit.injEq, Lit.int.injEq, true_and] at e
  rw [e]
  exact h
theorem wpList_mapB_look (hT : P.underlying T = some (.map K E)) (hE : P.underlying E = some .bool) (hz : (zeroValue E).run P w = .ok (.bool false) w) (hg : o.guard = none) (m x : Operand) (hop : o.op = Op.lookup T m x false)
    (hm : a.eval m = .map (some b)) (hM : MapB k E w b n gb) (s : κ) (hx : a.eval x = k.val s) (hs : k.ok s) (h : wpList P ops Q rest (a.put o.dst (.bool (gb s))) w) : wpList P ops Q (o :: rest) a w := by
  obtain ⟨D, hown, hat⟩ := hM
  refine wpList_plain hg fun K' hK' => ?_
  obtain ⟨v, ps, hrun, hv⟩ := hown.lookup k.keyed hT hz (plainElem_bool hE false) (k.key s hs)
  obtain ⟨c, rfl, hc⟩ := plainElem_bool_inv' hE hv
  rw [hat s hs] at hc
  simp only [Prod.mk.injEq, DataW.lit.injEq, Lit.bool.injEq] at hc
  obtain ⟨rfl, _⟩ := hc
  unfold Oper.wp
  simp [execOp, hop, hm, hx, hrun, Result.andThen]
  exact hK' _ _ h
theorem wpList_mapI_put (hT : P.underlying T = some (.map K E)) (hE : P.underlying E = some (.int .i64)) (hg : o.guard = none) (m x v : Operand) (hop : o.op = Op.mapUpdate T m x v)
    (hm : a.eval m = .map (some b)) (hM : MapI k E w b n g) (hn : n < maxLen) (s : κ) (c : Int) (hx : a.eval x = k.val s) (hv : a.eval v = .int .i64 c) (hs : k.ok s) (hc : (Lit.int .i64 c).wf = true)
    (g' : κ → Int) (hs1 : g' s = c) (hs2 : ∀ s', s' ≠ s → g' s' = g s') (h : ∀ w', MapI k E w' b (n + 1) g' → w.grownBy w' (some b) → wpList P ops Q rest (a.put o.dst undef) w') : wpList P ops Q (o :: rest) a w := by
  obtain ⟨D, hown, hat⟩ := hM
  refine wpList_mapUpdate_own w hg m x v _ hop _ _ k.keyed hT _ b n D hm hown hn _ _ _ hx hv (k.key s hs) _ [] (plainElem_int hE hc) fun w' h1 h2 => h w' ⟨_, h1, fun s' hs' => ?_⟩ h2
  by_cases e : s' = s
  · subst e
    rw [hs1]
    exact atKey_put_same hown.isMap (k.keyed.key (k.key s' hs)) _ _
  · rw [hs2 s' e, atKey_put_other (fun he => e (k.inj _ _ hs' hs he))]
    exact hat s' hs'
theorem wpList_mapB_put (hT : P.underlying T = some (.map K E)) (hE : P.underlying E = some .bool) (hg : o.guard = none) (m x v : Operand) (hop : o.op = Op.mapUpdate T m x v)
    (hm : a.eval m = .map (some b)) (hM : MapB k E w b n gb) (hn : n < maxLen) (s : κ) (c : Bool) (hx : a.eval x = k.val s) (hv : a.eval v = .bool c) (hs : k.ok s)
    (g' : κ → Bool) (hs1 : g' s = c) (hs2 : ∀ s', s' ≠ s → g' s' = gb s') (h : ∀ w', MapB k E w' b (n + 1) g' → w.grownBy w' (some b) → wpList P ops Q rest (a.put o.dst undef) w') : wpList P ops Q (o :: rest) a w := by
  obtain ⟨D, hown, hat⟩ := hM
  refine wpList_mapUpdate_own w hg m x v _ hop _ _ k.keyed hT _ b n D hm hown hn _ _ _ hx hv (k.key s hs) _ [] (plainElem_bool hE c) fun w' h1 h2 => h w' ⟨_, h1, fun s' hs' => ?_⟩ h2
  by_cases e : s' = s
  · subst e
    rw [hs1]
    exact atKey_put_same hown.isMap (k.keyed.key (k.key s' hs)) _ _
  · rw [hs2 s' e, atKey_put_other (fun he => e (k.inj _ _ hs' hs he))]
    exact hat s' hs'
end
end Go.Proofs.YtiegpkbollihgaaDoor
