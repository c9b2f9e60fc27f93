/- Maps that the call makes, looked up with 'v, ok': as functions from the key to what is stored, if anything. -/
import Derived.Test.YtmjdjcpmkdninaaDoorMap
namespace Go.Proofs.YtmjdjcpmkdninaaDoor
open Go.RowKit Go.Maps
section
variable {P : Program} {K E T : TypeId} {κ : Type} {k : KeyT P K κ}
def MapO (k : KeyT P K κ) (E : TypeId) (w : World) (b n : Nat) (g : κ → Option Int) : Prop :=
  ∃ D : DataW Unit, w.ownsMap P K (plainElem P E) b n D ∧ ∀ x, k.ok x → D.atKey (k.lit x) (.lit (.int .i64 0)) = .lit (.int .i64 ((g x).getD 0)) ∧ Maps.has D (k.lit x) = (g x).isSome
theorem MapO.made (w : World) : MapO k E (w.alloc (.map #[] 0)) w.heap.size 0 (fun _ => none) := ⟨_, World.ownsMap_made w _ _ _, fun _ _ => ⟨rfl, rfl⟩⟩
variable {w w' : World} {b n : Nat} {g : κ → Option Int}
theorem MapO.kept {row : Option Nat} (h : MapO k E w b n g) (hg : w.grownBy w' row) (hne : some b ≠ row) : MapO k E w' b n g := let ⟨D, h1, h2⟩ := h; ⟨D, h1.kept hg hne, h2⟩
theorem MapO.lt (h : MapO k E w b n g) : b < w.heap.size := let ⟨_, h1, _⟩ := h; h1.lt
theorem MapO.below (h : MapO k E w b n g) (hb : Below w.heap.size w w') : MapO k E w' b n g := h.kept (below_grown hb none) (by simp)
theorem MapO.alloc (h : MapO k E w b n g) (o : Obj) : MapO k E (w.alloc o) b n g := let ⟨D, h1, h2⟩ := h; ⟨D, h1.alloc o, h2⟩
theorem MapO.drewN (h : MapO k E w b n g) (j : Nat) : MapO k E (w.drewN j) b n g := h
theorem MapO.setCell (h : MapO k E w b n g) {a : Addr} (ha : b ≠ a.block) (u : Value) : MapO k E (w.setCell a u) b n g := let ⟨D, h1, h2⟩ := h; ⟨D, h1.setCell ha u, h2⟩
variable {ops : Array Oper} {rest : List Oper} {o : Oper} {a : Act} {Q : Exit → Act → World → Prop}
theorem wpList_mapO_look (hT : P.underlying T = some (.map K E)) (hE : P.underlying E = some (.int .i64)) (hz : (zeroValue E).run P w = .ok (.int .i64 0) w) (hg : o.guard = none) (m x : Operand) (hop : o.op = Op.lookup T m x true)
    (hm : a.eval m = .map (some b)) (hM : MapO k E w b n g) (s : κ) (hx : a.eval x = k.val s) (hs : k.ok s) (h : wpList P ops Q rest (a.put o.dst (.tuple #[.int .i64 ((g s).getD 0), .bool (g s).isSome])) w) : wpList P ops Q (o :: rest) a w := by
  obtain ⟨D, hown, hat⟩ := hM
  refine wpList_lookup_own_ok_int w hg m x _ hop _ _ .i64 k.keyed hT hE hz b n D hm hown _ _ hx (k.key s hs) fun c hc _ => ?_
  have e := hc.symm.trans (hat s hs).1
  simp only [DataW.lit.injEq, Lit.int.injEq, true_and] at e
  rw [e, (hat s hs).2]
  exact h
theorem wpList_mapO_put (hT : P.underlying T = some (.map K E)) (hE : P.underlying E = some (.int .i64)) (hg : o.guard = none) (m x v : Operand) (hop : o.op = Op.mapUpdate T m x v)
    (hm : a.eval m = .map (some b)) (hM : MapO k E w b n g) (hn : n < maxLen) (s : κ) (c : Int) (hx : a.eval x = k.val s) (hv : a.eval v = .int .i64 c) (hs : k.ok s) (hc : (Lit.int .i64 c).wf = true)
    (g' : κ → Option Int) (hs1 : g' s = some c) (hs2 : ∀ s', s' ≠ s → g' s' = g s') (h : ∀ w', MapO k E w' b (n + 1) g' → w.grownBy w' (some b) → wpList P ops Q rest (a.put o.dst undef) w') : wpList P ops Q (o :: rest) a w := by
  obtain ⟨D, hown, hat⟩ := hM
  refine wpList_mapUpdate_own w hg m x v _ hop _ _ k.keyed hT _ b n D hm hown hn _ _ _ hx hv (k.key s hs) _ [] (plainElem_int hE hc) fun w' h1 h2 => h w' ⟨_, h1, fun s' hs' => ?_⟩ h2
  by_cases e : s' = s
  · subst e
    rw [hs1]
    exact ⟨atKey_put_same hown.isMap (k.keyed.key (k.key s' hs)) _ _, Maps.has_put_same hown.isMap (k.keyed.key (k.key s' hs)) _⟩
  · rw [hs2 s' e, atKey_put_other (fun he => e (k.inj _ _ hs' hs he)), Maps.has_put_other (fun he => e (k.inj _ _ hs' hs he))]
    exact hat s' hs'
end
end Go.Proofs.YtmjdjcpmkdninaaDoor
