/- Regions that draw their order, by an invariant, in general: what each operation yields (a kind for each), the world (an invariant over the count of numbers taken). -/
import Derived.Test.YtkkpkekkaoccbaaDoorRegion
namespace Go.Proofs.YtkkpkekkaoccbaaDoor
open Go.RowKit
def putL (a0 : Act) (vs : Nat → Value) : List (Nat × Nat) → Act
  | [] => a0
  | p :: r => (putL a0 vs r).put (some p.1) (vs p.2)
theorem put_self' (a : Act) (t : Nat) : a.put (some t) (a.tmps.getD t undef) = a := by
  have h : a.tmps.setIfInBounds t (a.tmps.getD t undef) = a.tmps := by
    refine Array.ext (by simp) fun i h1 h2 => ?_
    rw [Array.getElem_setIfInBounds h2]
    split
    · rename_i e
      subst e
      rw [Array.getD_eq_getD_getElem?, Array.getElem?_eq_getElem h2]
      rfl
    · rfl
  unfold Act.put
  simp only [h]
theorem putL_self (a : Act) (f : Nat → Nat) : ∀ ss : List (Nat × Nat), ss.all (fun p => p.1 == f p.2) = true → putL a (fun k => a.tmps.getD (f k) undef) ss = a := by
  intro ss
  induction ss with
  | nil => intro _; rfl
  | cons p r ih =>
    intro h
    rw [List.all_cons, Bool.and_eq_true] at h
    unfold putL
    rw [ih h.2]
    have e : p.1 = f p.2 := by simpa using h.1
    rw [← e]
    exact put_self' a p.1
/-- What an operation yields: some value with a property; a new slice of n integers. -/
inductive RKind where
  | q (Q : Value → Prop)
  | sl (n : Nat) (Q : List Int → Prop)
def RT (N : Nat) (kd : Nat → RKind) (k : Nat) (v : Value) (W : World) : Prop := match kd k with
  | .q Q => Q v
  | .sl n Q => ∃ l, Q l ∧ SlN W N n v l
theorem RT.st {N : Nat} {kd : Nat → RKind} {W W' : World} (h : ∀ n v l, SlN W N n v l → SlN W' N n v l) (k : Nat) (v : Value) (hT : RT N kd k v W) : RT N kd k v W' := by
  unfold RT at hT ⊢
  split at hT
  · exact hT
  · obtain ⟨l, h1, h2⟩ := hT
    exact ⟨l, h1, h _ _ _ h2⟩
def rleft (costs : List (Nat × Nat)) (L : Array Bool) : Nat := (costs.map fun p => if L.getD p.1 false = true then 0 else p.2).sum
theorem rleft_le (costs : List (Nat × Nat)) (L : Array Bool) (i : Nat) : rleft costs (L.setIfInBounds i true) ≤ rleft costs L := by
  induction costs with
  | nil => exact Nat.le_refl _
  | cons p r ih =>
    unfold rleft at ih ⊢
    rw [List.map_cons, List.map_cons, List.sum_cons, List.sum_cons]
    have h1 : (if (L.setIfInBounds i true).getD p.1 false = true then 0 else p.2) ≤ (if L.getD p.1 false = true then 0 else p.2) := by
      by_cases h : L.getD p.1 false = true
      · rw [if_pos h, if_pos (getD_set_true h)]; exact Nat.le_refl _
      · rw [if_neg h]
        split <;> omega
    omega
theorem rleft_call (costs : List (Nat × Nat)) (L : Array Bool) (i k : Nat) (hk : (i, k) ∈ costs) (h0 : L.getD i false = false) (hs : i < L.size) : rleft costs (L.setIfInBounds i true) + k ≤ rleft costs L := by
  induction costs with
  | nil => cases hk
  | cons p r ih =>
    have hr := rleft_le r L i
    unfold rleft at ih hr ⊢
    rw [List.map_cons, List.map_cons, List.sum_cons, List.sum_cons]
    have h1 : (if (L.setIfInBounds i true).getD p.1 false = true then 0 else p.2) ≤ (if L.getD p.1 false = true then 0 else p.2) := by
      by_cases h : L.getD p.1 false = true
      · rw [if_pos h, if_pos (getD_set_true h)]; exact Nat.le_refl _
      · rw [if_neg h]
        split <;> omega
    rcases List.mem_cons.1 hk with rfl | hk
    · have e1 : (if (L.setIfInBounds i true).getD i false = true then 0 else k) = 0 := if_pos (set_same hs)
      have e2 : (if L.getD i false = true then 0 else k) = k := if_neg (by rw [h0]; decide)
      simp only [e1, e2]
      omega
    · have := ih hk
      omega
structure RG (pure : List Nat) (costs : List (Nat × Nat)) (C : Nat) (Inv : Nat → World → Prop) (L : Array Bool) (W : World) : Prop where
  pure : ∀ k, k ∈ pure → L.getD k false = true
  inv : ∃ c, c + rleft costs L ≤ C ∧ Inv c W
section
variable {pure : List Nat} {costs : List (Nat × Nat)} {C : Nat} {Inv : Nat → World → Prop} {L : Array Bool} {W W' : World}
theorem RG.same (h : RG pure costs C Inv L W) (i : Nat) (hst : ∀ c, Inv c W → Inv c W') : RG pure costs C Inv (L.setIfInBounds i true) W' := by
  obtain ⟨c, h1, h2⟩ := h.inv
  exact ⟨fun k hk => getD_set_true (h.pure k hk), c, by have := rleft_le costs L i; omega, hst c h2⟩
theorem RG.call (h : RG pure costs C Inv L W) (i k : Nat) (hk : (i, k) ∈ costs) (h0 : L.getD i false = false) (hs : i < L.size) (c : Nat) (hc : c + rleft costs L ≤ C) (h2 : Inv (c + k) W') : RG pure costs C Inv (L.setIfInBounds i true) W' :=
  ⟨fun j hj => getD_set_true (h.pure j hj), c + k, by have := rleft_call costs L i k hk h0 hs; omega, h2⟩
theorem RG.init {L : Array Bool} (h1 : pure.all (fun k => L.getD k false) = true) (c : Nat) (hc : c + rleft costs L ≤ C) (h : Inv c W) : RG pure costs C Inv L W :=
  ⟨fun k hk => List.all_eq_true.1 h1 k hk, c, hc, h⟩
theorem RG.init0 {L : Array Bool} (h1 : pure.all (fun k => L.getD k false) = true) (c k : Nat) (hl : Nat.ble (rleft costs L) k = true) (hc : c + k ≤ C) (h : Inv c W) : RG pure costs C Inv L W :=
  RG.init h1 c (by have := Nat.le_of_ble_eq_true hl; omega) h
theorem RG.fin (h : RG pure costs C Inv L W) : ∃ c, c ≤ C ∧ Inv c W := by
  obtain ⟨c, h1, h2⟩ := h.inv
  exact ⟨c, by omega, h2⟩
end
def RI (A : (Nat → Value) → Act) (T : Nat → Value → World → Prop) (G : Array Bool → World → Prop) (L : Array Bool) (a : Act) (W : World) : Prop := ∃ vs : Nat → Value, a = A vs ∧ G L W ∧ ∀ k, L.getD k false = true → T k (vs k) W
theorem RI.next {A : (Nat → Value) → Act} {T : Nat → Value → World → Prop} {G : Array Bool → World → Prop} {L : Array Bool} {i : Nat} {vs : Nat → Value} {W W' : World} {v : Value} {a' : Act} {K' : Act → World → Prop}
    (hK : Hid (∀ a w, RI A T G (L.setIfInBounds i true) a w → K' a w)) (HT : Hid (∀ k, L.getD k false = true → T k (vs k) W)) (st : ∀ k u, T k u W → T k u W') (hG : G (L.setIfInBounds i true) W') (hv : T i v W') (ha : a' = A (upd vs i v)) : K' a' W' :=
  hK.out _ _ ⟨upd vs i v, ha, hG, T_upd HT.out st hv⟩
/-- What is listed when the region begins: the pure operations. -/
theorem RI.init {A : (Nat → Value) → Act} {N : Nat} {kd : Nat → RKind} {G : Array Bool → World → Prop} {L : Array Bool} {a : Act} {W : World} (pure : List Nat) (hp : ∀ k, k ∈ pure → ∀ v, RT N kd k v W) (vs : Nat → Value) (ha : a = A vs) (hG : G L W)
    (hL : (List.range L.size).all (fun k => !(L.getD k false) || pure.contains k) = true) : RI A (RT N kd) G L a W :=
  ⟨vs, ha, hG, fun k hk => hp k (by
    have hlt : k < L.size := by
      rcases Nat.lt_or_ge k L.size with h | h
      · exact h
      · rw [Array.getD_eq_getD_getElem?, Array.getElem?_eq_none h] at hk; simp at hk
    have := List.all_eq_true.1 hL k (List.mem_range.2 hlt)
    rw [hk] at this
    simpa using this) _⟩
end Go.Proofs.YtkkpkekkaoccbaaDoor
