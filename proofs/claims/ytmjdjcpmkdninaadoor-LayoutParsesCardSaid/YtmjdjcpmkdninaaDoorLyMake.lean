/- Made layouts, plainly: what is kept from element to element. -/
import Derived.Test.YtmjdjcpmkdninaaDoorLyRound
namespace Go.Proofs.YtmjdjcpmkdninaaDoor
namespace Ly
def ename (i : Nat) : ByteArray := ⟨#[101, UInt8.ofNat (48 + i / 100 % 10), UInt8.ofNat (48 + i / 10 % 10), UInt8.ofNat (48 + i % 10)]⟩
theorem ename_inj {i j : Nat} (hi : i < 1000) (hj : j < 1000) (h : ename i = ename j) : i = j := by
  have h1 := congrArg (fun b : ByteArray => b.data.toList) h
  simp only [ename, List.cons.injEq, and_true, true_and] at h1
  have h2 := congrArg UInt8.toNat h1.1
  have h3 := congrArg UInt8.toNat h1.2.1
  have h4 := congrArg UInt8.toNat h1.2.2
  simp only [UInt8.toNat_ofNat'] at h2 h3 h4
  omega
theorem ename_ok (i : Nat) : Pl.nameOk (ename i) = true := by
  have key : ∀ m, m < 10 → Pl.nameC (UInt8.ofNat (48 + m)) = true := by
    intro m hm
    unfold Pl.nameC
    rw [UInt8.toNat_ofNat', Nat.mod_eq_of_lt (by omega)]
    simp; omega
  show (decide (1 ≤ 4) && decide (4 ≤ 12) && [101, UInt8.ofNat (48 + i / 100 % 10), UInt8.ofNat (48 + i / 10 % 10), UInt8.ofNat (48 + i % 10)].all Pl.nameC) = true
  simp only [List.all_cons, key _ (Nat.mod_lt _ (by omega)), List.all_nil]
  rfl
/-- A place at which an element may be put. -/
def Free (l : List LE) (q : Int × Int) : Prop := 0 ≤ q.1 ∧ q.1 < (l.length : Int) ∧ 0 ≤ q.2 ∧ q.2 ≤ 2 ∧ kAt l q.1 ≠ 4 ∧ (kAt l q.1 = 3 ↔ q.2 ≠ 0) ∧ taken l q.1 q.2 = false
def opens (O : List (Int × Int)) (i : Nat) : Nat := O.countP fun q => decide (q.1 = (i : Int))
structure LInv (l : List LE) (O : List (Int × Int)) : Prop where
  fits : Fits l
  pos : 1 ≤ l.length
  nm : ∀ i x, l[i]? = some x → x.nm = ename i
  free : ∀ q ∈ O, Free l q
  nd : O.Nodup
  kid : ∀ i x, l[i]? = some x → want x.k ≤ kids l i + opens O i
theorem LInv.perm {l : List LE} {O O' : List (Int × Int)} (h : LInv l O) (hp : O.Perm O') : LInv l O' :=
  ⟨h.fits, h.pos, h.nm, fun q hq => h.free q (hp.mem_iff.2 hq), hp.nodup_iff.1 h.nd, fun i x hx => by have := h.kid i x hx; unfold opens at this ⊢; rw [← hp.countP_eq]; exact this⟩
theorem kAt_app {l : List LE} {x : LE} {p : Int} (h0 : 0 ≤ p) (h : p < (l.length : Int)) : kAt (l ++ [x]) p = kAt l p := by
  unfold kAt
  rw [List.getElem?_append_left (by omega)]
theorem kAt_new (l : List LE) (x : LE) : kAt (l ++ [x]) (l.length : Int) = x.k := by
  unfold kAt
  rw [Int.toNat_natCast, List.getElem?_append_right (Nat.le_refl _), Nat.sub_self]
  rfl
theorem drop_app {l : List LE} (h : 1 ≤ l.length) (x : LE) : (l ++ [x]).drop 1 = l.drop 1 ++ [x] := by
  rw [List.drop_append_of_le_length h]
theorem taken_app {l : List LE} (h : 1 ≤ l.length) (x : LE) (p sd : Int) : taken (l ++ [x]) p sd = (taken l p sd || (decide (x.p = p) && decide (x.sd = sd))) := by
  unfold taken
  rw [drop_app h, List.any_append]
  simp
theorem kids_app {l : List LE} (h : 1 ≤ l.length) (x : LE) (i : Nat) : kids (l ++ [x]) i = kids l i + if x.p = (i : Int) then 1 else 0 := by
  unfold kids
  rw [drop_app h, List.countP_append, List.countP_cons, List.countP_nil]
  by_cases e : x.p = (i : Int) <;> simp [e]
theorem taken_new {l : List LE} (h : Fits l) (sd : Int) : taken l (l.length : Int) sd = false := by
  unfold taken
  rw [List.any_eq_false]
  intro y hy
  obtain ⟨m, hm, hy'⟩ := mem_drop_one hy
  have hl := (List.getElem?_eq_some_iff.1 hy').1
  obtain ⟨_, _, _, h2, _⟩ := h.behind hm hy'
  simp; omega
def news (k : Int) (n : Nat) : List (Int × Int) := if k = 3 then [((n : Int), 1), ((n : Int), 2)] else if k = 4 then [] else [((n : Int), 0)]
theorem Fits.snoc {l : List LE} (h : Fits l) {x : LE} (hx : fitE l x = 0) : Fits (l ++ [x]) := by
  intro i y hy
  by_cases e : i < l.length
  · rw [List.getElem?_append_left e] at hy
    rw [List.take_append_of_le_length (by omega)]
    exact h i y hy
  · have hlt := (List.getElem?_eq_some_iff.1 hy).1
    rw [List.length_append, List.length_singleton] at hlt
    obtain rfl : i = l.length := by omega
    rw [List.getElem?_append_right (Nat.le_refl _), Nat.sub_self] at hy
    simp at hy
    subst hy
    rw [List.take_append_of_le_length (Nat.le_refl _), List.take_length]
    exact hx
theorem named_fresh {l : List LE} (h : ∀ i x, l[i]? = some x → x.nm = ename i) (hl : l.length < 1000) : named l (ename l.length) = false := by
  rw [named, List.any_eq_false]
  intro y hy
  obtain ⟨i, hi⟩ := List.mem_iff_getElem?.1 hy
  have hlt := (List.getElem?_eq_some_iff.1 hi).1
  rw [h i y hi]
  simp only [decide_eq_true_eq]
  intro e
  have := ename_inj (by omega) (by omega) e
  omega
theorem fitE_free {l : List LE} {x : LE} (hs : sound x = true) (hk : x.k ≠ 0) (hn : named l x.nm = false) (hl : 1 ≤ l.length) (hf : Free l (x.p, x.sd)) : fitE l x = 0 := by
  have hne : l ≠ [] := List.ne_nil_of_length_pos (by omega)
  obtain ⟨h1, h2, _, _, h5, h6, h7⟩ := hf
  simp only at h1 h2 h5 h6 h7
  unfold fitE
  rw [if_neg, if_neg (by rw [hn]; decide), if_neg hne, if_neg (by omega), if_neg]
  · rintro (h | h | h)
    · exact h5 h
    · by_cases h3 : kAt l x.p = 3
      · exact (h6.1 h3) (h.1 h3)
      · exact h3 (h.2 (Classical.byContradiction fun hn => h3 (h6.2 hn)))
    · rw [h7] at h; cases h
  · rintro (h | h)
    · rw [hs] at h; cases h
    · exact h ⟨fun e => absurd e hk, fun e => absurd e hne⟩
/-- An element is put at an open place. -/
theorem LInv.put {l : List LE} {O : List (Int × Int)} {x : LE} (h : LInv l ((x.p, x.sd) :: O)) (hl : l.length < 1000) (hs : sound x = true) (hk : x.k ≠ 0) (hn : x.nm = ename l.length) : LInv (l ++ [x]) (news x.k l.length ++ O) := by
  have hq := h.free (x.p, x.sd) (by simp)
  have hnd := List.nodup_cons.1 h.nd
  have hfit : fitE l x = 0 := fitE_free hs hk (by rw [hn]; exact named_fresh h.nm hl) h.pos hq
  have hlen : (l ++ [x]).length = l.length + 1 := by simp
  have hnewfree : ∀ q ∈ news x.k l.length, Free (l ++ [x]) q := by
    intro q hq'
    have hp1 : x.p ≠ (l.length : Int) := by have := hq.2.1; simp only at this; omega
    have htk : ∀ sd, taken (l ++ [x]) (l.length : Int) sd = false := by
      intro sd
      rw [taken_app h.pos, taken_new h.fits]
      simp [hp1]
    unfold news at hq'
    unfold Free
    rw [hlen]
    split at hq'
    · rename_i h3
      simp at hq'
      rcases hq' with rfl | rfl <;> (simp only; rw [kAt_new, htk]; refine ⟨by omega, by omega, by omega, by omega, by omega, ?_, rfl⟩; omega)
    · rename_i h3
      split at hq'
      · simp at hq'
      · rename_i h4
        simp at hq'
        subst hq'
        simp only
        rw [kAt_new, htk]
        exact ⟨by omega, by omega, by omega, by omega, h4, by omega, rfl⟩
  have holdfree : ∀ q ∈ O, Free (l ++ [x]) q := by
    intro q hqO
    obtain ⟨a1, a2, a3, a4, a5, a6, a7⟩ := h.free q (List.mem_cons_of_mem _ hqO)
    unfold Free
    rw [hlen, kAt_app a1 a2, taken_app h.pos, a7]
    refine ⟨a1, by omega, a3, a4, a5, a6, ?_⟩
    have hne : ¬ (x.p = q.1 ∧ x.sd = q.2) := by
      rintro ⟨e1, e2⟩
      refine hnd.1 ?_
      have : (x.p, x.sd) = q := Prod.ext e1 e2
      rw [this]; exact hqO
    simpa using hne
  have hnewge : ∀ q ∈ news x.k l.length, q.1 = (l.length : Int) := by
    intro q hq'
    unfold news at hq'
    split at hq'
    · simp at hq'; rcases hq' with rfl | rfl <;> rfl
    · split at hq'
      · simp at hq'
      · simp at hq'; subst hq'; rfl
  refine ⟨h.fits.snoc hfit, by rw [hlen]; omega, ?_, ?_, ?_, ?_⟩
  · intro i y hy
    by_cases e : i < l.length
    · rw [List.getElem?_append_left e] at hy
      exact h.nm i y hy
    · have hlt := (List.getElem?_eq_some_iff.1 hy).1
      rw [hlen] at hlt
      obtain rfl : i = l.length := by omega
      rw [List.getElem?_append_right (Nat.le_refl _), Nat.sub_self] at hy
      simp at hy
      rw [← hy]; exact hn
  · intro q hq'
    rcases List.mem_append.1 hq' with hq' | hq'
    · exact hnewfree q hq'
    · exact holdfree q hq'
  · rw [List.nodup_append]
    refine ⟨?_, hnd.2, fun a ha b hb e => ?_⟩
    · unfold news
      split
      · simp
      · split <;> simp
    · have h1 := hnewge a ha
      have h2 := (h.free b (List.mem_cons_of_mem _ hb)).2.1
      rw [← e] at h2
      omega
  · intro i y hy
    have hop : ∀ i : Nat, opens (news x.k l.length ++ O) i = opens (news x.k l.length) i + opens O i := fun i => by unfold opens; rw [List.countP_append]
    rw [kids_app h.pos, hop]
    by_cases e : i < l.length
    · rw [List.getElem?_append_left e] at hy
      have h1 := h.kid i y hy
      unfold opens at h1 ⊢
      rw [List.countP_cons] at h1
      by_cases e2 : x.p = (i : Int)
      · rw [if_pos e2]; simp [e2] at h1; omega
      · rw [if_neg e2]; simp [e2] at h1; omega
    · have hlt := (List.getElem?_eq_some_iff.1 hy).1
      rw [hlen] at hlt
      obtain rfl : i = l.length := by omega
      rw [List.getElem?_append_right (Nat.le_refl _), Nat.sub_self] at hy
      simp at hy
      subst hy
      have : want x.k ≤ opens (news x.k l.length) l.length := by
        unfold want news opens
        split
        · simp
        · split <;> simp
      omega
/-- No place is open any more: the layout is valid. -/
theorem LInv.valid {l : List LE} (h : LInv l []) (hl : l.length ≤ 128) (ht : tracks l ≤ 32) : vErr l = 0 := by
  have hgo : ∀ (r prev : List LE), prev ++ r = l → vGo r prev = 0 := by
    intro r
    induction r with
    | nil => intro prev _; rfl
    | cons y t ih =>
      intro prev hp
      have hy : l[prev.length]? = some y := by rw [← hp, List.getElem?_append_right (Nat.le_refl _), Nat.sub_self]; rfl
      have hf := h.fits _ y hy
      have hpt : l.take prev.length = prev := by rw [← hp, List.take_append_of_le_length (Nat.le_refl _), List.take_length]
      rw [hpt] at hf
      unfold vGo
      rw [if_neg (by simpa using hf)]
      exact ih (prev ++ [y]) (by rw [← hp]; simp)
  have hlk : ∀ (r : List LE) (i : Nat), (∀ j x, r[j]? = some x → l[i + j]? = some x) → lacks l r i = false := by
    intro r
    induction r with
    | nil => intro i _; rfl
    | cons y t ih =>
      intro i hj
      have h1 := h.kid i y (by have := hj 0 y rfl; simpa using this)
      simp only [lacks, Bool.or_eq_false_iff, decide_eq_false_iff_not]
      have h2 : opens [] i = 0 := rfl
      refine ⟨by omega, ih (i + 1) (fun j x hx => ?_)⟩
      have := hj (j + 1) x (by simpa using hx)
      rw [← this]; congr 1; omega
  unfold vErr
  rw [if_neg (by omega), if_neg (List.ne_nil_of_length_pos (by have := h.pos; omega)), if_neg (by rw [hgo l [] rfl]; decide), if_neg (by rw [hlk l 0 (fun j x hx => by rw [Nat.zero_add]; exact hx)]; decide), if_neg (by omega)]
theorem LInv.start : LInv [⟨0, ename 0, -1, 0, 0, 0, 0, 0⟩] [(0, 0)] := by
  have hs : sound ⟨0, ename 0, -1, 0, 0, 0, 0, 0⟩ = true := by
    simp [sound, ename_ok, crestOk]
  refine ⟨?_, by simp, ?_, ?_, by simp, ?_⟩
  · intro i x hx
    rcases i with _ | i
    · simp at hx
      subst hx
      unfold fitE
      rw [if_neg, if_neg (by simp [named]), if_pos (by simp)]
      simp [hs]
    · simp at hx
  · intro i x hx
    rcases i with _ | i
    · simp at hx; rw [← hx]
    · simp at hx
  · intro q hq
    simp at hq
    subst hq
    exact ⟨by simp, by simp, by simp, by simp, by decide, by decide, rfl⟩
  · intro i x hx
    rcases i with _ | i
    · simp at hx
      subst hx
      decide
    · simp at hx
end Ly
end Go.Proofs.YtmjdjcpmkdninaaDoor
