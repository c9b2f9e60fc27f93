/- Whole structs loaded and stored: the world behind a store is known by its block alone. -/
import Derived.Test.YtiegpkbollihgaaDoorMem
import Derived.Laws.Rows
import Derived.Deep.MidRow
namespace Go.Proofs.YtiegpkbollihgaaDoor
open Go.RowKit
/-- Some cells of a row replaced, from a place on. -/
def putCells (cs : Array Value) : Nat → List Value → Array Value
  | _, [] => cs
  | o, v :: r => putCells (cs.setIfInBounds o v) (o + 1) r
theorem putCells_size : ∀ (vs : List Value) (o : Nat) (cs : Array Value), (putCells cs o vs).size = cs.size
  | [], _, _ => rfl
  | v :: r, o, cs => by rw [putCells, putCells_size r]; simp
theorem setCells_blk {g : Nat} {t : TypeId} : ∀ (vs : List Value) (o : Nat) (w : World) (cs : Array Value), Blk w g t cs → Blk (w.setCells g o vs) g t (putCells cs o vs)
  | [], _, _, _, h => h
  | v :: r, o, _, _, h => setCells_blk r (o + 1) _ _ (h.set_ o v)
theorem grown_setc (w : World) (g i : Nat) (u : Value) : w.grownBy (w.setCell ⟨g, i, none⟩ u) (some g) :=
  ⟨rfl, rfl, rfl, by simp [World.setCell], fun i _ hne => Below.heap_setCell w _ u i (fun e => hne (by rw [e]))⟩
theorem setCells_grown (g : Nat) : ∀ (vs : List Value) (o : Nat) (w : World), w.grownBy (w.setCells g o vs) (some g)
  | [], _, _ => ⟨rfl, rfl, rfl, Nat.le_refl _, fun _ _ _ => rfl⟩
  | v :: r, o, w => (grown_setc w g o v).trans (setCells_grown g r (o + 1) _)
theorem setCells_hsize (g : Nat) : ∀ (vs : List Value) (o : Nat) (w : World), (w.setCells g o vs).heap.size = w.heap.size
  | [], _, _ => rfl
  | v :: r, o, w => by rw [World.setCells, setCells_hsize g r]; simp [World.setCell]
theorem putCells_list : ∀ (vs : List Value) (k : Nat) (cs : Array Value), k + vs.length ≤ cs.size → (putCells cs k vs).toList = cs.toList.take k ++ (vs ++ cs.toList.drop (k + vs.length))
  | [], k, cs, _ => by simp [putCells]
  | v :: r, k, cs, h => by
    rw [putCells, putCells_list r (k + 1) _ (by simp at h ⊢; omega)]
    rw [List.length_cons] at h
    simp only [Array.toList_setIfInBounds, List.length_cons]
    have hk : k < cs.toList.length := by simp; omega
    rw [List.take_set, List.take_succ_eq_append_getElem hk, List.set_append_right _ _ (by simp; omega)]
    rw [show k - (cs.toList.take k).length = 0 by simp; omega]
    rw [List.drop_set_of_lt (by omega), show k + 1 + r.length = k + (r.length + 1) by omega]
    simp
section
variable {P : Program} {ops : Array Oper} {rest : List Oper} {o : Oper} {a : Act} {w : World} {K : Act → World → Prop} {Q : Exit → Act → World → Prop}
theorem blk_range {g k : Nat} {t : TypeId} {cs : Array Value} (hB : Blk w g t cs) (vs : List Value) (hvs : (cs.toList.drop k).take vs.length = vs) : w.rangeAt g k vs := by
  intro j v hv
  rw [hB.cell (k + j)]
  rw [← hvs, List.getElem?_take] at hv
  split at hv
  · rw [List.getElem?_drop] at hv; simpa using hv
  · cases hv
theorem blk_there {g k : Nat} {t : TypeId} {cs : Array Value} (hB : Blk w g t cs) {n : Nat} (hn : k + n ≤ cs.size) : w.there g k n := by
  intro j hj
  rw [hB.cell (k + j), hB.frozen (k + j)]
  exact ⟨by rw [Array.getElem?_eq_getElem (by omega)]; rfl, rfl⟩
/-- The next operation is this store, this load: the guard of an arm. -/
theorem at_st (ty : TypeId) (x y : Operand) {d : Option Tmp} {t : TypeId} {po : String} {af : Array Edge} {gu : Option (Tmp × Bool)} (h : wpList P ops Q (⟨d, .store ty x y, t, po, af, gu⟩ :: rest) a w) : wpList P ops Q (⟨d, .store ty x y, t, po, af, gu⟩ :: rest) a w := h
theorem at_ld (ty : TypeId) (x : Operand) {d : Option Tmp} {t : TypeId} {po : String} {af : Array Edge} {gu : Option (Tmp × Bool)} (h : wpList P ops Q (⟨d, .load ty x, t, po, af, gu⟩ :: rest) a w) : wpList P ops Q (⟨d, .load ty x, t, po, af, gu⟩ :: rest) a w := h
/-- A struct out of a block's cells, from place k on. -/
theorem wp_ldB (ty : TypeId) (x : Operand) (ho : o.op = .load ty x) (g k : Nat) (hx : a.eval x = .pointer (some ⟨g, k, none⟩)) {t : TypeId} {cs : Array Value} (hB : Blk w g t cs) (vs : List Value)
    (hvs : (cs.toList.drop k).take vs.length = vs) (d : TypeDesc) (hu : P.underlying ty = some d) (hd : d.isRow = true) (hi : (P.info? ty).map (·.size) = some vs.length)
    (h : K (a.put o.dst (.agg vs.toArray)) w) : o.wp P a w K Q :=
  wp_load_mid ty x ho g k hx vs d (blk_range hB vs hvs) hu hd hi h
theorem wpList_ldB (hgd : o.guard = none) (ty : TypeId) (x : Operand) (ho : o.op = .load ty x) (g k : Nat) (hx : a.eval x = .pointer (some ⟨g, k, none⟩)) {t : TypeId} {cs : Array Value} (hB : Blk w g t cs) (vs : List Value)
    (hvs : (cs.toList.drop k).take vs.length = vs) (d : TypeDesc) (hu : P.underlying ty = some d) (hd : d.isRow = true) (hi : (P.info? ty).map (·.size) = some vs.length)
    (h : wpList P ops Q rest (a.put o.dst (.agg vs.toArray)) w) : wpList P ops Q (o :: rest) a w :=
  wpList_plain hgd fun _ hK => wp_ldB ty x ho g k hx hB vs hvs d hu hd hi (hK _ _ h)
/-- A struct into a block's cells, from place k on. -/
theorem wp_stB (ty : TypeId) (x y : Operand) (ho : o.op = .store ty x y) (g k : Nat) (vs : List Value) (hx : a.eval x = .pointer (some ⟨g, k, none⟩)) (hy : a.eval y = .agg vs.toArray) {t : TypeId} {cs : Array Value} (hB : Blk w g t cs) (cs' : Array Value)
    (hp : cs.toList.take k ++ (vs ++ cs.toList.drop (k + vs.length)) = cs'.toList) (hn : Nat.ble (k + vs.length) cs.size = true) (hi : (P.info? ty).map (·.size) = some vs.length) (h1 : vs.all (·.oneCell') = true)
    (h : ∀ w', Blk w' g t cs' → w.grownBy w' (some g) → K (a.put o.dst undef) w') : o.wp P a w K Q := by
  have hp2 : putCells cs k vs = cs' := Array.toList_inj.1 ((putCells_list vs k cs (Nat.le_of_ble_eq_true hn)).trans hp)
  subst hp2
  refine wp_store_mid ty x y ho g k vs.toArray hx hy (by rw [List.size_toArray]; exact blk_there hB (Nat.le_of_ble_eq_true hn)) (by simpa using hi) (by simpa using h1) ?_
  rw [show vs.toArray.toList = vs from rfl]
  exact h _ (setCells_blk vs k w cs hB) (setCells_grown g vs k w)
theorem wpList_stB (hgd : o.guard = none) (ty : TypeId) (x y : Operand) (ho : o.op = .store ty x y) (g k : Nat) (vs : List Value) (hx : a.eval x = .pointer (some ⟨g, k, none⟩)) (hy : a.eval y = .agg vs.toArray) {t : TypeId} {cs : Array Value} (hB : Blk w g t cs) (cs' : Array Value)
    (hp : cs.toList.take k ++ (vs ++ cs.toList.drop (k + vs.length)) = cs'.toList) (hn : Nat.ble (k + vs.length) cs.size = true) (hi : (P.info? ty).map (·.size) = some vs.length) (h1 : vs.all (·.oneCell') = true)
    (h : ∀ w', Blk w' g t cs' → w.grownBy w' (some g) → wpList P ops Q rest (a.put o.dst undef) w') : wpList P ops Q (o :: rest) a w :=
  wpList_plain hgd fun _ hK => wp_stB ty x y ho g k vs hx hy hB cs' hp hn hi h1 (fun w' h2 h3 => hK _ _ (h w' h2 h3))
end
theorem step_stB {P : Program} {ops : Array Oper} {o : Oper} {a : Act} {w : World} {K : Act → World → Prop} {Q : Exit → Act → World → Prop} {E : Prop} (hgd : o.guard = none) (ty : TypeId) (x y : Operand) (ho : o.op = .store ty x y) (g k : Nat) (vs : List Value) (hx : a.eval x = .pointer (some ⟨g, k, none⟩)) (hy : a.eval y = .agg vs.toArray) {t : TypeId} {cs : Array Value} (hB : Blk w g t cs) (cs' : Array Value)
    (hp : cs.toList.take k ++ (vs ++ cs.toList.drop (k + vs.length)) = cs'.toList) (hn : Nat.ble (k + vs.length) cs.size = true) (hi : (P.info? ty).map (·.size) = some vs.length) (h1 : vs.all (·.oneCell') = true)
    (h : ∀ w', Blk w' g t cs' → w.grownBy w' (some g) → K (a.put o.dst undef) w') : if Region.wanted o (yielded ops a.tmps) = true then Oper.wp P o a w K Q else E := by
  rw [if_pos (by simp [Region.wanted, hgd])]
  exact wp_stB ty x y ho g k vs hx hy hB cs' hp hn hi h1 h
theorem wp_callC {P : Program} {o : Oper} {a : Act} {w : World} {K : Act → World → Prop} {Q : Exit → Act → World → Prop} {f : Nat} {fn : Func} (hf : P.funcs[f]? = some fn) (hn : (fn.name == "runtime.NumGoroutine") = false) (hb : fn.body.isNone = false)
    (c : Operand) (hc : a.eval c = .func (.func f) #[] #[]) (xs : Array Operand) (ts : Array TypeId) (ho : o.op = .call { callee := .value c, args := xs, argTypes := ts }) (args : Array Value) (hx : xs.toList.map a.eval = args.toList) {R : Ending → World → Prop}
    (hC : Calls P f args w R) (h : ∀ e w', R e w' → ∃ v, e = .returned v ∧ K (a.put o.dst v) w') : o.wp P a w K Q := by
  have hx : xs.map a.eval = args := Array.toList_inj.1 (by rw [Array.toList_map]; exact hx)
  have hn2 : ¬ fn.name = "runtime.NumGoroutine" := by simpa using hn
  have hb2 : ¬ fn.body = none := fun e => by rw [e] at hb; cases hb
  have hrun : (execOp a.eval o).run P w = .ok (.enter f args) w := by
    unfold execOp
    simp [ho, resolve, Deferred.ofValue, hc, invoke, callFunc, hf, hn2, hb2, hx, Sem.run_bind, run_program]
  unfold Oper.wp
  rw [hrun, Oper.upon_enter]
  refine hC.mono fun e w' hr => ?_
  obtain ⟨v, rfl, hk⟩ := h e w' hr
  exact hk
theorem step_callC {P : Program} {ops : Array Oper} {o : Oper} {a : Act} {w : World} {K : Act → World → Prop} {Q : Exit → Act → World → Prop} {E : Prop} (hg : o.guard = none) {f : Nat} {fn : Func} (hf : P.funcs[f]? = some fn) (hn : (fn.name == "runtime.NumGoroutine") = false) (hb : fn.body.isNone = false)
    (c : Operand) (hc : a.eval c = .func (.func f) #[] #[]) (xs : Array Operand) (ts : Array TypeId) (ho : o.op = .call { callee := .value c, args := xs, argTypes := ts }) (args : Array Value) (hx : xs.toList.map a.eval = args.toList) {R : Ending → World → Prop}
    (hC : Calls P f args w R) (h : ∀ e w', R e w' → ∃ v, e = .returned v ∧ K (a.put o.dst v) w') : if Region.wanted o (yielded ops a.tmps) = true then Oper.wp P o a w K Q else E := by
  rw [if_pos (by simp [Region.wanted, hg])]
  exact wp_callC hf hn hb c hc xs ts ho args hx hC h
end Go.Proofs.YtiegpkbollihgaaDoor
