/- Regions that draw their order, where nothing that was there is written: what each operation yields may speak of the world. -/
import Derived.Test.YtiegpkbollihgaaDoorMem
import Derived.Orders
import Derived.RegionTactic
namespace Go.Proofs.YtiegpkbollihgaaDoor
open Go.RowKit
def unl (l : List Bool) : Nat := l.countP (fun b => !b)
theorem unl_set : ∀ (l : List Bool) (i : Nat), l[i]? = some false → unl (l.set i true) + 1 = unl l := by
  intro l
  induction l with
  | nil => intro i h; simp at h
  | cons b r ih =>
    intro i h
    cases i with
    | zero => simp at h; subst h; simp [unl]
    | succ i =>
      have := ih i (by simpa using h)
      unfold unl at this ⊢
      rw [List.set_cons_succ, List.countP_cons, List.countP_cons]
      omega
theorem unl_zero : ∀ (l : List Bool) (i : Nat), unl l = 0 → l[i]? ≠ some false := by
  intro l
  induction l with
  | nil => intro i _ h; simp at h
  | cons b r ih =>
    intro i h hi
    unfold unl at h
    rw [List.countP_cons] at h
    cases i with
    | zero => simp at hi; subst hi; simp at h
    | succ i => exact ih i (by unfold unl; omega) (by simpa using hi)
/-- Each edge leads to an operation that stands before. -/
def edgesDown (md : Region.Mode) (ops : Array Oper) : Bool := (List.range ops.size).all fun j => match ops[j]? with | some o => o.after.all fun e => !Region.binds md e || decide (e.on < j) | none => true
theorem all_listed {md : Region.Mode} {ops : Array Oper} {listed : Array Bool} (he : edgesDown md ops = true) (hs : listed.size = ops.size) (hr : Region.ready md ops listed = []) : ∀ i, i < ops.size → listed.getD i false = true := by
  intro i
  induction i using Nat.strongRecOn with
  | ind i ih =>
    intro hi
    have hg : listed.getD i false = listed.getD i true := by
      rw [Array.getD_eq_getD_getElem?, Array.getD_eq_getD_getElem?, Array.getElem?_eq_getElem (by omega)]; rfl
    cases hl : listed.getD i false
    · exfalso
      have hm : i ∈ Region.ready md ops listed := by
        rw [mem_ready]
        refine ⟨by rw [← hg]; exact hl, ops[i], Array.getElem?_eq_getElem hi, fun e hmem hb => ?_⟩
        unfold edgesDown at he
        rw [List.all_eq_true] at he
        have h1 := he i (List.mem_range.2 hi)
        rw [Array.getElem?_eq_getElem hi] at h1
        simp only at h1
        have h2 := (Array.all_eq_true_iff_forall_mem.1 h1) e hmem
        rw [hb] at h2
        simp only [Bool.not_true, Bool.false_or, decide_eq_true_eq] at h2
        exact ih e.on h2 (by omega)
      rw [hr] at hm
      simp at hm
    · rfl
theorem wpAny_inv {P : Program} {md : Region.Mode} {ops : Array Oper} {Q : Exit → Act → World → Prop} (he : edgesDown md ops = true) (I : Array Bool → Act → World → Prop)
    (step : ∀ (i : Nat) (listed : Array Bool) (a : Act) (w : World), i ∈ Region.ready md ops listed → I listed a w → wpOp P ops Q i (fun a' w' => I (listed.setIfInBounds i true) a' w') a w)
    (fin : ∀ (listed : Array Bool) (a : Act) (w : World), (∀ i, i < ops.size → listed.getD i false = true) → I listed a w → Q .normal a w) :
    ∀ (fuel : Nat) (listed : Array Bool) (a : Act) (w : World), listed.size = ops.size → unl listed.toList ≤ fuel → I listed a w → wpAny P md ops Q fuel listed a w := by
  intro fuel
  induction fuel with
  | zero =>
    intro listed a w hs hu hI
    have hr : Region.ready md ops listed = [] := by
      rw [List.eq_nil_iff_forall_not_mem]
      intro i hi
      obtain ⟨h0, o, ho, _⟩ := mem_ready.1 hi
      have hlt : i < listed.size := by rw [hs]; exact (Array.getElem?_eq_some_iff.1 ho).1
      refine unl_zero listed.toList i (by omega) ?_
      rw [Array.getD_eq_getD_getElem?, Array.getElem?_eq_getElem hlt] at h0
      rw [Array.getElem?_toList, Array.getElem?_eq_getElem hlt]
      exact congrArg some h0
    exact ⟨hr, fin listed a w (all_listed he hs hr) hI⟩
  | succ fuel ih =>
    intro listed a w hs hu hI
    refine ⟨fun hr => fin listed a w (all_listed he hs hr) hI, fun i hi => ?_⟩
    refine wpOp_mono (fun a' w' hI' => ih _ a' w' (by simp [hs]) ?_ hI') (step i listed a w hi hI)
    obtain ⟨h0, o, ho, _⟩ := mem_ready.1 hi
    have hlt : i < listed.size := by rw [hs]; exact (Array.getElem?_eq_some_iff.1 ho).1
    have h1 : listed.toList[i]? = some false := by
      rw [Array.getD_eq_getD_getElem?, Array.getElem?_eq_getElem hlt] at h0
      rw [Array.getElem?_toList, Array.getElem?_eq_getElem hlt]
      exact congrArg some h0
    have h2 := unl_set _ i h1
    rw [Array.toList_setIfInBounds]
    omega
theorem World.grownBy_set (w : World) (g i : Nat) (u : Value) : w.grownBy (w.setCell ⟨g, i, none⟩ u) (some g) :=
  ⟨rfl, rfl, rfl, by simp [World.setCell], fun j _ hne => Below.heap_setCell w ⟨g, i, none⟩ u j (fun e => hne (by rw [e]))⟩
theorem step_op {P : Program} {ops : Array Oper} {Q : Exit → Act → World → Prop} {i : Nat} {o : Oper} {a : Act} {w : World} {K : Act → World → Prop} (ho : ops[i]? = some o)
    (h : ∀ K' : Act → World → Prop, (∀ a w, K a w → K' a w) → if Region.wanted o (yielded ops a.tmps) = true then Oper.wp P o a w K' Q else K' (a.put o.dst undef) w) : wpOp P ops Q i K a w := by
  unfold wpOp
  rw [ho]
  have := h K (fun _ _ h => h)
  simp only
  split
  · rename_i hw
    rw [if_pos hw] at this
    exact .inl this
  · rename_i hw
    rw [if_neg hw] at this
    exact this
theorem step_free {P : Program} {ops : Array Oper} {Q : Exit → Act → World → Prop} {i : Nat} {o : Oper} {a : Act} {w : World} {K : Act → World → Prop} (ho : ops[i]? = some o) (hg : o.guard = none)
    (h : ∀ K' : Act → World → Prop, Hid (∀ a w, K a w → K' a w) → Oper.wp P o a w K' Q) : wpOp P ops Q i K a w :=
  step_op ho fun K' hK => by
    have hw : Region.wanted o (yielded ops a.tmps) = true := by simp [Region.wanted, hg]
    rw [if_pos hw]
    exact h K' (Lib.hid hK)
theorem with_act {φ : Act → Prop} {a : Act} (h : ∀ a0, a0 = a → φ a0) : φ a := h a rfl
/-- 1 if listed. -/
def b2n (b : Bool) : Nat := if b = true then 1 else 0
theorem b2n_true : b2n true = 1 := rfl
theorem b2n_false : b2n false = 0 := rfl
theorem b2n_le (b : Bool) : b2n b ≤ 1 := by cases b <;> decide
/-- What an operation that comes up tells of the list. -/
theorem ready_at {md : Region.Mode} {ops : Array Oper} {listed : Array Bool} {i : Nat} (h : i ∈ Region.ready md ops listed) : listed.getD i false = false ∧ i < ops.size ∧ i < listed.size := by
  obtain ⟨h0, o, ho, _⟩ := mem_ready.1 h
  have hi := (Array.getElem?_eq_some_iff.1 ho).1
  have hl : i < listed.size := by
    rcases Nat.lt_or_ge i listed.size with h' | h'
    · exact h'
    · rw [Array.getD_eq_getD_getElem?, Array.getElem?_eq_none h'] at h0; simp at h0
  refine ⟨?_, hi, hl⟩
  rw [Array.getD_eq_getD_getElem?, Array.getElem?_eq_getElem hl] at h0 ⊢
  exact h0
theorem ready_dep {md : Region.Mode} {ops : Array Oper} {listed : Array Bool} {i : Nat} {o : Oper} (h : i ∈ Region.ready md ops listed) (ho : ops[i]? = some o) (j : Nat) (hj : (o.after.any fun e => Region.binds md e && e.on == j) = true) : listed.getD j false = true := by
  obtain ⟨_, o', ho', hall⟩ := mem_ready.1 h
  rw [ho] at ho'
  obtain rfl := Option.some.inj ho'
  obtain ⟨e, he, h2⟩ := Array.any_eq_true'.1 hj
  simp only [Bool.and_eq_true, beq_iff_eq] at h2
  rw [← h2.2]
  exact hall e he h2.1
theorem ready_all {md : Region.Mode} {ops : Array Oper} {listed : Array Bool} {i : Nat} {o : Oper} (n : Nat) (h : i ∈ Region.ready md ops listed) (ho : ops[i]? = some o) (hd : (List.range n).all (fun j => o.after.any fun e => Region.binds md e && e.on == j) = true) : ∀ j, j < n → listed.getD j false = true :=
  fun j hj => ready_dep h ho j (List.all_eq_true.1 hd j (List.mem_range.2 hj))
theorem set_same {listed : Array Bool} {i : Nat} (h : i < listed.size) : (listed.setIfInBounds i true).getD i false = true := by
  rw [Array.getD_eq_getD_getElem?, Array.getElem?_setIfInBounds_self_of_lt h]; rfl
theorem set_other {listed : Array Bool} {i j : Nat} (h : i ≠ j) : (listed.setIfInBounds i true).getD j false = listed.getD j false := getD_set_ne false h
def upd (vs : Nat → Value) (i : Nat) (v : Value) : Nat → Value := fun k => if k = i then v else vs k
theorem T_upd {T : Nat → Value → World → Prop} {L : Array Bool} {vs : Nat → Value} {W W' : World} {i : Nat} {v : Value} (hT : ∀ k, L.getD k false = true → T k (vs k) W) (hst : ∀ k u, T k u W → T k u W') (hi : T i v W') :
    ∀ k, (L.setIfInBounds i true).getD k false = true → T k (upd vs i v k) W' := by
  intro k hk
  unfold upd
  by_cases e : k = i
  · subst e
    rw [if_pos rfl]
    exact hi
  · rw [if_neg e]
    rw [set_other (fun h => e h.symm)] at hk
    exact hst k _ (hT k hk)
/-- A slice of n integers in a block of its own, not below N. -/
def SlN (W : World) (N n : Nat) (v : Value) (l : List Int) : Prop := ∃ b, v = .slice (some ⟨b, 0, none⟩) n n ∧ N ≤ b ∧ IR .i64 W (some ⟨b, 0, none⟩) n l
theorem SlN.alloc {W : World} {N n : Nat} {v : Value} {l : List Int} (h : SlN W N n v l) (o : Obj) : SlN (W.alloc o) N n v l := by
  obtain ⟨b, h1, h2, h3⟩ := h
  exact ⟨b, h1, h2, h3.below ((Below.refl _ _).alloc (Nat.le_refl _) _)⟩
theorem IR.keepb {W W' : World} {b n : Nat} {l : List Int} (h : IR .i64 W (some ⟨b, 0, none⟩) n l) (hs : W.heap.size ≤ W'.heap.size) (hk : ∀ i, b < W.heap.size → W'.cell? ⟨b, i, none⟩ = W.cell? ⟨b, i, none⟩) : IR .i64 W' (some ⟨b, 0, none⟩) n l := by
  refine ⟨h.1, fun hn => ?_⟩
  obtain ⟨ad, e, hb, hc⟩ := h.2 hn
  obtain rfl := Option.some.inj e
  simp only at hb
  refine ⟨_, rfl, by simp only; omega, fun j u hu => ?_⟩
  have h0 := hc j u hu
  have h2 : ((⟨b, 0, none⟩ : Addr).add j) = ⟨b, j, none⟩ := by
    unfold Addr.add
    by_cases hj : j = 0 <;> simp [hj]
  rw [h2] at h0 ⊢
  rw [hk _ hb]; exact h0
theorem SlN.grown {W W' : World} {N n g : Nat} {v : Value} {l : List Int} (h : SlN W N n v l) (hg : W.grownBy W' (some g)) (hN : g < N) : SlN W' N n v l := by
  obtain ⟨b, h1, h2, h3⟩ := h
  exact ⟨b, h1, h2, h3.keepb hg.size fun i hb => World.cell?_of_block (hg.block b hb (fun e => by have := Option.some.inj e; omega))⟩
theorem SlN.set {W : World} {N n g i : Nat} {v : Value} {l : List Int} (h : SlN W N n v l) (u : Value) (hN : g < N) : SlN (W.setCell ⟨g, i, none⟩ u) N n v l := h.grown (World.grownBy_set W g i u) hN
end Go.Proofs.YtiegpkbollihgaaDoor
namespace Go.Proofs.YtiegpkbollihgaaDoor
open Go.RowKit
def putL (a0 : Act) (vs : Nat → Value) : List (Nat × Nat) → Act
  | [] => a0
  | p :: r => (putL a0 vs r).put (some p.1) (vs p.2)
theorem put_self' (a : Act) (t : Nat) : a.put (some t) (a.tmps.getD t undef) = a := by
  have h : a.tmps.setIfInBounds t (a.tmps.getD t undef) = a.tmps := by
    refine Array.ext (by simp) fun i h1 h2 => ?_
    rw [Array.getElem_setIfInBounds h2]
    split
    · rename_i e
      subst e
      rw [Array.getD_eq_getD_getElem?, Array.getElem?_eq_getElem h2]
      rfl
    · rfl
  unfold Act.put
  simp only [h]
theorem putL_self (a : Act) (f : Nat → Nat) : ∀ ss : List (Nat × Nat), ss.all (fun p => p.1 == f p.2) = true → putL a (fun k => a.tmps.getD (f k) undef) ss = a := by
  intro ss
  induction ss with
  | nil => intro _; rfl
  | cons p r ih =>
    intro h
    rw [List.all_cons, Bool.and_eq_true] at h
    unfold putL
    rw [ih h.2]
    have e : p.1 = f p.2 := by simpa using h.1
    rw [← e]
    exact put_self' a p.1
/-- What an operation yields: some value with a property; a new slice of n integers. -/
inductive RKind where
  | q (Q : Value → Prop)
  | sl (n : Nat) (Q : List Int → Prop)
def RT (N : Nat) (kd : Nat → RKind) (k : Nat) (v : Value) (W : World) : Prop := match kd k with
  | .q Q => Q v
  | .sl n Q => ∃ l, Q l ∧ SlN W N n v l
theorem RT.st {N : Nat} {kd : Nat → RKind} {W W' : World} (h : ∀ n v l, SlN W N n v l → SlN W' N n v l) (k : Nat) (v : Value) (hT : RT N kd k v W) : RT N kd k v W' := by
  unfold RT at hT ⊢
  split at hT
  · exact hT
  · obtain ⟨l, h1, h2⟩ := hT
    exact ⟨l, h1, h _ _ _ h2⟩
def rleft (costs : List (Nat × Nat)) (L : Array Bool) : Nat := (costs.map fun p => if L.getD p.1 false = true then 0 else p.2).sum
theorem rleft_le (costs : List (Nat × Nat)) (L : Array Bool) (i : Nat) : rleft costs (L.setIfInBounds i true) ≤ rleft costs L := by
  induction costs with
  | nil => exact Nat.le_refl _
  | cons p r ih =>
    unfold rleft at ih ⊢
    rw [List.map_cons, List.map_cons, List.sum_cons, List.sum_cons]
    have h1 : (if (L.setIfInBounds i true).getD p.1 false = true then 0 else p.2) ≤ (if L.getD p.1 false = true then 0 else p.2) := by
      by_cases h : L.getD p.1 false = true
      · rw [if_pos h, if_pos (getD_set_true h)]; exact Nat.le_refl _
      · rw [if_neg h]
        split <;> omega
    omega
theorem rleft_call (costs : List (Nat × Nat)) (L : Array Bool) (i k : Nat) (hk : (i, k) ∈ costs) (h0 : L.getD i false = false) (hs : i < L.size) : rleft costs (L.setIfInBounds i true) + k ≤ rleft costs L := by
  induction costs with
  | nil => cases hk
  | cons p r ih =>
    have hr := rleft_le r L i
    unfold rleft at ih hr ⊢
    rw [List.map_cons, List.map_cons, List.sum_cons, List.sum_cons]
    have h1 : (if (L.setIfInBounds i true).getD p.1 false = true then 0 else p.2) ≤ (if L.getD p.1 false = true then 0 else p.2) := by
      by_cases h : L.getD p.1 false = true
      · rw [if_pos h, if_pos (getD_set_true h)]; exact Nat.le_refl _
      · rw [if_neg h]
        split <;> omega
    rcases List.mem_cons.1 hk with rfl | hk
    · have e1 : (if (L.setIfInBounds i true).getD i false = true then 0 else k) = 0 := if_pos (set_same hs)
      have e2 : (if L.getD i false = true then 0 else k) = k := if_neg (by rw [h0]; decide)
      simp only [e1, e2]
      omega
    · have := ih hk
      omega
structure RG (pure : List Nat) (costs : List (Nat × Nat)) (C : Nat) (Inv : Nat → World → Prop) (L : Array Bool) (W : World) : Prop where
  pure : ∀ k, k ∈ pure → L.getD k false = true
  inv : ∃ c, c + rleft costs L ≤ C ∧ Inv c W
section
variable {pure : List Nat} {costs : List (Nat × Nat)} {C : Nat} {Inv : Nat → World → Prop} {L : Array Bool} {W W' : World}
theorem RG.same (h : RG pure costs C Inv L W) (i : Nat) (hst : ∀ c, Inv c W → Inv c W') : RG pure costs C Inv (L.setIfInBounds i true) W' := by
  obtain ⟨c, h1, h2⟩ := h.inv
  exact ⟨fun k hk => getD_set_true (h.pure k hk), c, by have := rleft_le costs L i; omega, hst c h2⟩
theorem RG.call (h : RG pure costs C Inv L W) (i k : Nat) (hk : (i, k) ∈ costs) (h0 : L.getD i false = false) (hs : i < L.size) (c : Nat) (hc : c + rleft costs L ≤ C) (h2 : Inv (c + k) W') : RG pure costs C Inv (L.setIfInBounds i true) W' :=
  ⟨fun j hj => getD_set_true (h.pure j hj), c + k, by have := rleft_call costs L i k hk h0 hs; omega, h2⟩
theorem RG.init {L : Array Bool} (h1 : pure.all (fun k => L.getD k false) = true) (c : Nat) (hc : c + rleft costs L ≤ C) (h : Inv c W) : RG pure costs C Inv L W :=
  ⟨fun k hk => List.all_eq_true.1 h1 k hk, c, hc, h⟩
theorem RG.init0 {L : Array Bool} (h1 : pure.all (fun k => L.getD k false) = true) (c k : Nat) (hl : Nat.ble (rleft costs L) k = true) (hc : c + k ≤ C) (h : Inv c W) : RG pure costs C Inv L W :=
  RG.init h1 c (by have := Nat.le_of_ble_eq_true hl; omega) h
theorem RG.fin (h : RG pure costs C Inv L W) : ∃ c, c ≤ C ∧ Inv c W := by
  obtain ⟨c, h1, h2⟩ := h.inv
  exact ⟨c, by omega, h2⟩
end
def RI (A : (Nat → Value) → Act) (T : Nat → Value → World → Prop) (G : Array Bool → World → Prop) (L : Array Bool) (a : Act) (W : World) : Prop := ∃ vs : Nat → Value, a = A vs ∧ G L W ∧ ∀ k, L.getD k false = true → T k (vs k) W
theorem RI.next {A : (Nat → Value) → Act} {T : Nat → Value → World → Prop} {G : Array Bool → World → Prop} {L : Array Bool} {i : Nat} {vs : Nat → Value} {W W' : World} {v : Value} {a' : Act} {K' : Act → World → Prop}
    (hK : Hid (∀ a w, RI A T G (L.setIfInBounds i true) a w → K' a w)) (HT : Hid (∀ k, L.getD k false = true → T k (vs k) W)) (st : ∀ k u, T k u W → T k u W') (hG : G (L.setIfInBounds i true) W') (hv : T i v W') (ha : a' = A (upd vs i v)) : K' a' W' :=
  hK.out _ _ ⟨upd vs i v, ha, hG, T_upd HT.out st hv⟩
/-- What is listed when the region begins: the pure operations. -/
theorem RI.init {A : (Nat → Value) → Act} {N : Nat} {kd : Nat → RKind} {G : Array Bool → World → Prop} {L : Array Bool} {a : Act} {W : World} (pure : List Nat) (hp : ∀ k, k ∈ pure → ∀ v, RT N kd k v W) (vs : Nat → Value) (ha : a = A vs) (hG : G L W)
    (hL : (List.range L.size).all (fun k => !(L.getD k false) || pure.contains k) = true) : RI A (RT N kd) G L a W :=
  ⟨vs, ha, hG, fun k hk => hp k (by
    have hlt : k < L.size := by
      rcases Nat.lt_or_ge k L.size with h | h
      · exact h
      · rw [Array.getD_eq_getD_getElem?, Array.getElem?_eq_none h] at hk; simp at hk
    have := List.all_eq_true.1 hL k (List.mem_range.2 hlt)
    rw [hk] at this
    simpa using this) _⟩
end Go.Proofs.YtiegpkbollihgaaDoor
namespace Go.Proofs.YtiegpkbollihgaaDoor
open Go.RowKit
theorem RI.init3 {A : (Nat → Value) → Act} {T : Nat → Value → World → Prop} {G : Array Bool → World → Prop} {L : Array Bool} {a : Act} {W : World} (pure : List Nat) (hp : ∀ k, k ∈ pure → ∀ v, T k v W) (vs : Nat → Value) (ha : a = A vs) (hG : G L W)
    (hL : (List.range L.size).all (fun k => !(L.getD k false) || pure.contains k) = true) : RI A T G L a W :=
  ⟨vs, ha, hG, fun k hk => hp k (by
    have hlt : k < L.size := by
      rcases Nat.lt_or_ge k L.size with h | h
      · exact h
      · rw [Array.getD_eq_getD_getElem?, Array.getElem?_eq_none h] at hk; simp at hk
    have := List.all_eq_true.1 hL k (List.mem_range.2 hlt)
    rw [hk] at this
    simpa using this) _⟩
/-- The pure operations have run; the world is as it must be. -/
structure R3 (pure : List Nat) (Inv : World → Prop) (L : Array Bool) (W : World) : Prop where
  pure : ∀ k, k ∈ pure → L.getD k false = true
  inv : Inv W
theorem R3.same {pure : List Nat} {Inv : World → Prop} {L : Array Bool} {W W' : World} (h : R3 pure Inv L W) (i : Nat) (hi : Inv W') : R3 pure Inv (L.setIfInBounds i true) W' := ⟨fun k hk => getD_set_true (h.pure k hk), hi⟩
theorem R3.init {pure : List Nat} {Inv : World → Prop} {L : Array Bool} {W : World} (h1 : pure.all (fun k => L.getD k false) = true) (h : Inv W) : R3 pure Inv L W := ⟨fun k hk => List.all_eq_true.1 h1 k hk, h⟩
end Go.Proofs.YtiegpkbollihgaaDoor
