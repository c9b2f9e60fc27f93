/- Maps keyed by a pair of integers: what they hold as a function of the pair. -/
import Derived.Test.YtjlfdkkaljlmjaaV3
import Derived.Maps.OwnSet
import Derived.DeepKeys4
import Derived.Lib.Hide
namespace Go.Proofs.Ytjlfdkkaljlmjaa
open Go.RowKit Go.Maps
theorem placeLaid : laidOutB Try.prog = true := by kernel_rfl
theorem placeRow : (72 : TypeId) < Try.prog.types.size := of_decide_eq_true (by kernel_rfl)
theorem placeWide : (match Try.prog.underlying 72 with | some (.array _ _) | some (.struct _) => true | _ => false) = true := by kernel_rfl
theorem place_keyed : Keyed Try.prog 72 := Keyed.of_law (deep_law_laid placeLaid (m := 2) (by omega) placeRow (by kernel_rfl) placeWide)
theorem place_under : Try.prog.underlying 72 = some (.struct #[⟨"section", 3, 0, false, "", "humpyard/section", 0⟩, ⟨"detector", 3, 1, false, "", "humpyard/section", 8⟩]) := by kernel_rfl
theorem place_cells : Try.prog.cellsOf 72 = 2 := by kernel_rfl
theorem int_cells : Try.prog.cellsOf 3 = 1 := by kernel_rfl
theorem int_under : Try.prog.underlying 3 = some (.int .i64) := by kernel_rfl
theorem place_key : Try.prog.keyType 72 = true := by kernel_rfl
theorem prog_types : ∃ m, Try.prog.types.size = m + 1 := ⟨Try.prog.types.size - 1, by have : 0 < Try.prog.types.size := Nat.lt_of_le_of_lt (Nat.zero_le _) placeRow; omega⟩
/-- The value of a place. -/
def plV (s d : Int) : Value := .agg #[.int .i64 s, .int .i64 d]
/-- What it reads as. -/
def plK (s d : Int) : Lit := .string (keyBytes [.int .i64 s, .int .i64 d])
theorem keyOf_place {s d : Int} (hs : (Lit.int .i64 s).wf = true) (hd : (Lit.int .i64 d).wf = true) : keyOf Try.prog 72 (plV s d) = some (plK s d) := by
  obtain ⟨m, hm⟩ := prog_types
  unfold keyOf plV plK
  simp only [place_under]
  rw [if_pos (by rw [place_key]; simp [Value.formed, place_cells]), hm]
  unfold Program.keyLits
  simp only [place_under, Value.cells]
  rw [if_pos ⟨by rw [place_cells]; rfl, by simp⟩]
  simp [Program.keyLits, int_cells, hs, hd]
theorem plK_inj {s d s' d' : Int} (hs : (Lit.int .i64 s).wf = true) (hd : (Lit.int .i64 d).wf = true) (hs' : (Lit.int .i64 s').wf = true) (hd' : (Lit.int .i64 d').wf = true) (h : plK s d = plK s' d') : s = s' ∧ d = d' := by
  have h1 := keyOf_place hs hd
  rw [h] at h1
  have := place_keyed.inj h1 (keyOf_place hs' hd')
  simpa [plV] using this
theorem bool_under : Try.prog.underlying 4 = some .bool := by kernel_rfl
theorem mi_under : Try.prog.underlying 88 = some (.map 72 3) := by kernel_rfl
theorem mb_under : Try.prog.underlying 69 = some (.map 72 4) := by kernel_rfl
theorem zero_int (w : World) : (zeroValue 3).run Try.prog w = .ok (.int .i64 0) w := by kernel_rfl
theorem zero_bool (w : World) : (zeroValue 4).run Try.prog w = .ok (.bool false) w := by kernel_rfl
/-- Block b is a map from places to integers that holds g (0 where nothing is stored). -/
def MI (w : World) (b n : Nat) (g : Int → Int → Int) : Prop :=
  ∃ D : DataW Unit, w.ownsMap Try.prog 72 (plainElem Try.prog 3) b n D ∧ ∀ s d, (Lit.int .i64 s).wf = true → (Lit.int .i64 d).wf = true → D.atKey (plK s d) (.lit (.int .i64 0)) = .lit (.int .i64 (g s d))
/-- .. to bools. -/
def MB (w : World) (b n : Nat) (g : Int → Int → Bool) : Prop :=
  ∃ D : DataW Unit, w.ownsMap Try.prog 72 (plainElem Try.prog 4) b n D ∧ ∀ s d, (Lit.int .i64 s).wf = true → (Lit.int .i64 d).wf = true → D.atKey (plK s d) (.lit (.bool false)) = .lit (.bool (g s d))
theorem MI.made (w : World) : MI (w.alloc (.map #[] 0)) w.heap.size 0 (fun _ _ => 0) := ⟨_, World.ownsMap_made w _ _ _, fun _ _ _ _ => rfl⟩
theorem MB.made (w : World) : MB (w.alloc (.map #[] 0)) w.heap.size 0 (fun _ _ => false) := ⟨_, World.ownsMap_made w _ _ _, fun _ _ _ _ => rfl⟩
theorem MI.kept {w w' : World} {b n : Nat} {g : Int → Int → Int} {row : Option Nat} (h : MI w b n g) (hg : w.grownBy w' row) (hne : some b ≠ row) : MI w' b n g := let ⟨D, h1, h2⟩ := h; ⟨D, h1.kept hg hne, h2⟩
theorem MB.kept {w w' : World} {b n : Nat} {g : Int → Int → Bool} {row : Option Nat} (h : MB w b n g) (hg : w.grownBy w' row) (hne : some b ≠ row) : MB w' b n g := let ⟨D, h1, h2⟩ := h; ⟨D, h1.kept hg hne, h2⟩
theorem MI.alloc {w : World} {b n : Nat} {g : Int → Int → Int} (h : MI w b n g) (o : Obj) : MI (w.alloc o) b n g := let ⟨D, h1, h2⟩ := h; ⟨D, h1.alloc o, h2⟩
theorem MB.alloc {w : World} {b n : Nat} {g : Int → Int → Bool} (h : MB w b n g) (o : Obj) : MB (w.alloc o) b n g := let ⟨D, h1, h2⟩ := h; ⟨D, h1.alloc o, h2⟩
theorem MI.lt {w : World} {b n : Nat} {g : Int → Int → Int} (h : MI w b n g) : b < w.heap.size := let ⟨_, h1, _⟩ := h; h1.lt
theorem MB.lt {w : World} {b n : Nat} {g : Int → Int → Bool} (h : MB w b n g) : b < w.heap.size := let ⟨_, h1, _⟩ := h; h1.lt
theorem MI.setCell {w : World} {b n : Nat} {g : Int → Int → Int} (h : MI w b n g) {a : Addr} (ha : b ≠ a.block) (u : Value) : MI (w.setCell a u) b n g := let ⟨D, h1, h2⟩ := h; ⟨D, h1.setCell ha u, h2⟩
theorem MB.setCell {w : World} {b n : Nat} {g : Int → Int → Bool} (h : MB w b n g) {a : Addr} (ha : b ≠ a.block) (u : Value) : MB (w.setCell a u) b n g := let ⟨D, h1, h2⟩ := h; ⟨D, h1.setCell ha u, h2⟩
theorem plainElem_bool_inv {H : Type} {P : Program} {e : TypeId} (he : P.underlying e = some .bool) {v : Value} {z : DataW H × List MemPlace} (h : plainElem P e v = some z) : ∃ x, v = .bool x ∧ z = (.lit (.bool x), []) := by
  unfold plainElem at h
  rw [he] at h
  cases v <;> simp at h
  exact ⟨_, rfl, h.symm⟩
section
variable {w : World} {ops : Array Oper} {rest : List Oper} {o : Oper} {a : Act} {Q : Exit → Act → World → Prop}
theorem wpList_look_int (hg : o.guard = none) (m x : Operand) (hop : o.op = Op.lookup 88 m x false) (b n : Nat) (g : Int → Int → Int) (hm : a.eval m = .map (some b)) (hM : MI w b n g)
    (s d : Int) (hx : a.eval x = .agg #[.int .i64 s, .int .i64 d]) (hs : (Lit.int .i64 s).wf = true) (hd : (Lit.int .i64 d).wf = true)
    (h : wpList Try.prog ops Q rest (a.put o.dst (.int .i64 (g s d))) w) : wpList Try.prog ops Q (o :: rest) a w := by
  obtain ⟨D, hown, hat⟩ := hM
  refine wpList_lookup_own_int w hg m x _ hop _ _ .i64 place_keyed mi_under int_under (zero_int w) b n D hm hown _ _ hx (keyOf_place hs hd) fun c hc _ => ?_
  have e := hc.symm.trans (hat s d hs hd)
  simp only [DataW.lit.injEq, Lit.int.injEq, true_and] at e
  rw [e]
  exact h
theorem wpList_look_bool (hg : o.guard = none) (m x : Operand) (hop : o.op = Op.lookup 69 m x false) (b n : Nat) (g : Int → Int → Bool) (hm : a.eval m = .map (some b)) (hM : MB w b n g)
    (s d : Int) (hx : a.eval x = .agg #[.int .i64 s, .int .i64 d]) (hs : (Lit.int .i64 s).wf = true) (hd : (Lit.int .i64 d).wf = true)
    (h : wpList Try.prog ops Q rest (a.put o.dst (.bool (g s d))) w) : wpList Try.prog ops Q (o :: rest) a w := by
  obtain ⟨D, hown, hat⟩ := hM
  refine wpList_plain hg fun K' hK' => ?_
  obtain ⟨v, ps, hrun, hv⟩ := hown.lookup place_keyed mb_under (zero_bool w) (plainElem_bool bool_under false) (keyOf_place hs hd)
  obtain ⟨c, rfl, hc⟩ := plainElem_bool_inv bool_under hv
  rw [hat s d hs hd] at hc
  simp only [Prod.mk.injEq, DataW.lit.injEq, Lit.bool.injEq] at hc
  obtain ⟨rfl, _⟩ := hc
  unfold Oper.wp
  simp only [plV] at hrun
  simp [execOp, hop, hm, hx, hrun, Result.andThen]
  exact hK' _ _ h
theorem wpList_put_int (hg : o.guard = none) (m x v : Operand) (hop : o.op = Op.mapUpdate 88 m x v) (b n : Nat) (g : Int → Int → Int) (hm : a.eval m = .map (some b)) (hM : MI w b n g) (hn : n < maxLen)
    (s d c : Int) (hx : a.eval x = .agg #[.int .i64 s, .int .i64 d]) (hv : a.eval v = .int .i64 c) (hs : (Lit.int .i64 s).wf = true) (hd : (Lit.int .i64 d).wf = true) (hc : (Lit.int .i64 c).wf = true)
    (h : ∀ w', MI w' b (n + 1) (fun s' d' => if s' = s ∧ d' = d then c else g s' d') → w.grownBy w' (some b) → wpList Try.prog ops Q rest (a.put o.dst undef) w') : wpList Try.prog ops Q (o :: rest) a w := by
  obtain ⟨D, hown, hat⟩ := hM
  refine wpList_mapUpdate_own w hg m x v _ hop _ _ place_keyed mi_under _ b n D hm hown hn _ _ _ hx hv (keyOf_place hs hd) _ [] (plainElem_int int_under hc) fun w' h1 h2 => h w' ⟨_, h1, fun s' d' hs' hd' => ?_⟩ h2
  show _ = DataW.lit (.int .i64 (if s' = s ∧ d' = d then c else g s' d'))
  by_cases e : s' = s ∧ d' = d
  · rw [if_pos e, e.1, e.2]
    exact atKey_put_same hown.isMap (place_keyed.key (keyOf_place hs hd)) _ _
  · rw [if_neg e, atKey_put_other (fun he => e (plK_inj hs' hd' hs hd he))]
    exact hat s' d' hs' hd'
theorem wpList_put_bool (hg : o.guard = none) (m x v : Operand) (hop : o.op = Op.mapUpdate 69 m x v) (b n : Nat) (g : Int → Int → Bool) (hm : a.eval m = .map (some b)) (hM : MB w b n g) (hn : n < maxLen)
    (s d : Int) (c : Bool) (hx : a.eval x = .agg #[.int .i64 s, .int .i64 d]) (hv : a.eval v = .bool c) (hs : (Lit.int .i64 s).wf = true) (hd : (Lit.int .i64 d).wf = true)
    (h : ∀ w', MB w' b (n + 1) (fun s' d' => if s' = s ∧ d' = d then c else g s' d') → w.grownBy w' (some b) → wpList Try.prog ops Q rest (a.put o.dst undef) w') : wpList Try.prog ops Q (o :: rest) a w := by
  obtain ⟨D, hown, hat⟩ := hM
  refine wpList_mapUpdate_own w hg m x v _ hop _ _ place_keyed mb_under _ b n D hm hown hn _ _ _ hx hv (keyOf_place hs hd) _ [] (plainElem_bool bool_under c) fun w' h1 h2 => h w' ⟨_, h1, fun s' d' hs' hd' => ?_⟩ h2
  show _ = DataW.lit (.bool (if s' = s ∧ d' = d then c else g s' d'))
  by_cases e : s' = s ∧ d' = d
  · rw [if_pos e, e.1, e.2]
    exact atKey_put_same hown.isMap (place_keyed.key (keyOf_place hs hd)) _ _
  · rw [if_neg e, atKey_put_other (fun he => e (plK_inj hs' hd' hs hd he))]
    exact hat s' d' hs' hd'
end
end Go.Proofs.Ytjlfdkkaljlmjaa
