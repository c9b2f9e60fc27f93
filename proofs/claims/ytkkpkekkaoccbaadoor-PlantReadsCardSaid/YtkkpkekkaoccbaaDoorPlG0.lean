/- Made plants, plainly: what is kept from element to element. -/
import Derived.Test.YtkkpkekkaoccbaaDoorPlF2
namespace Go.Proofs.YtkkpkekkaoccbaaDoor
namespace Pl
def pname (i : Nat) : ByteArray := ⟨#[112, UInt8.ofNat (48 + i / 10 % 10), UInt8.ofNat (48 + i % 10)]⟩
theorem pname_inj {i j : Nat} (hi : i < 100) (hj : j < 100) (h : pname i = pname j) : i = j := by
  have h1 := congrArg (fun b : ByteArray => b.data.toList) h
  simp only [pname, List.cons.injEq, and_true, true_and] at h1
  have h2 := congrArg UInt8.toNat h1.1
  have h3 := congrArg UInt8.toNat h1.2
  simp only [UInt8.toNat_ofNat'] at h2 h3
  omega
theorem pname_ok (i : Nat) : nameOk (pname i) = true := by
  have h1 : (UInt8.ofNat (48 + i / 10 % 10)).toNat = 48 + i / 10 % 10 := by rw [UInt8.toNat_ofNat']; omega
  have h2 : (UInt8.ofNat (48 + i % 10)).toNat = 48 + i % 10 := by rw [UInt8.toNat_ofNat']; omega
  have c1 : nameC (UInt8.ofNat (48 + i / 10 % 10)) = true := by unfold nameC; rw [h1]; simp; omega
  have c2 : nameC (UInt8.ofNat (48 + i % 10)) = true := by unfold nameC; rw [h2]; simp; omega
  show (decide (1 ≤ 3) && decide (3 ≤ 12) && [112, UInt8.ofNat (48 + i / 10 % 10), UInt8.ofNat (48 + i % 10)].all nameC) = true
  simp only [List.all_cons, c1, c2, List.all_nil]
  rfl
theorem vGo_snoc : ∀ (r prev : List PE) (x : PE), vGo r prev = 0 → sound x = true → named (prev ++ r) x.nm = false → (∀ n ∈ ends x, uses (prev ++ r) n ≠ 2) → vGo (r ++ [x]) prev = 0 := by
  intro r
  induction r with
  | nil =>
    intro prev x _ hs hn hu
    rw [List.append_nil] at hn hu
    rw [List.nil_append, vGo_cons, if_neg (by rw [hs]; decide), if_neg (by rw [hn]; decide), if_neg]
    · rfl
    · intro ha
      obtain ⟨n, h1, h2⟩ := List.any_eq_true.1 ha
      exact hu n h1 (by simpa using h2)
  | cons y t ih =>
    intro prev x h hs hn hu
    rw [vGo_cons] at h
    rw [List.cons_append, vGo_cons]
    split at h
    · omega
    · rename_i h1
      rw [if_neg h1]
      split at h
      · omega
      · rename_i h2
        rw [if_neg h2]
        split at h
        · omega
        · rename_i h3
          rw [if_neg h3]
          have e : prev ++ [y] ++ t = prev ++ y :: t := by simp
          exact ih _ x h hs (by rw [e]; exact hn) (by rw [e]; exact hu)
theorem vErr_snoc {l : List PE} {x : PE} (h : vErr l = 0) (hl : l.length < 96) (hs : sound x = true) (hn : named l x.nm = false) (hu : ∀ n ∈ ends x, uses l n ≠ 2) : vErr (l ++ [x]) = 0 := by
  unfold vErr at h ⊢
  rw [if_neg (by omega)] at h
  rw [if_neg (by rw [List.length_append, List.length_singleton]; omega)]
  exact vGo_snoc l [] x h hs hn hu
structure PInv (l : List PE) (o : List Int) (nx : Int) : Prop where
  ok : vErr l = 0
  nm : ∀ i x, l[i]? = some x → x.nm = pname i
  nd : o.Nodup
  op : ∀ y ∈ o, 0 ≤ y ∧ y < nx ∧ uses l y ≤ 1
  hi : ∀ y, nx ≤ y → uses l y = 0
  two : 2 ≤ nx
theorem named_fresh {l : List PE} (h : ∀ i x, l[i]? = some x → x.nm = pname i) (hl : l.length < 96) : named l (pname l.length) = false := by
  rw [named, List.any_eq_false]
  intro y hy
  obtain ⟨i, hi⟩ := List.mem_iff_getElem?.1 hy
  have hlt := (List.getElem?_eq_some_iff.1 hi).1
  rw [h i y hi]
  simp only [decide_eq_true_eq]
  intro e
  have := pname_inj (by omega) (by omega) e
  omega
theorem PInv.step {l : List PE} {o o' : List Int} {nx nx' : Int} (h : PInv l o nx) (x : PE) (hs : sound x = true) (hn : x.nm = pname l.length) (hl : l.length < 96) (hE : ∀ y ∈ ends x, uses l y ≤ 1)
    (hnx : nx ≤ nx') (hhi : ∀ y ∈ ends x, y < nx') (ho : o'.Nodup) (hoo : ∀ y ∈ o', 0 ≤ y ∧ y < nx' ∧ uses l y + (ends x).count y ≤ 1) : PInv (l ++ [x]) o' nx' := by
  refine ⟨vErr_snoc h.ok hl hs (by rw [hn]; exact named_fresh h.nm hl) (fun n hn => by have := hE n hn; omega), ?_, ho, ?_, ?_, by have := h.two; omega⟩
  · intro i y hi
    by_cases e : i < l.length
    · rw [List.getElem?_append_left e] at hi
      exact h.nm i y hi
    · have hlt := (List.getElem?_eq_some_iff.1 hi).1
      rw [List.length_append, List.length_singleton] at hlt
      obtain rfl : i = l.length := by omega
      simp at hi
      rw [← hi]
      exact hn
  · intro y hy
    rw [uses_snoc]
    exact hoo y hy
  · intro y hy
    rw [uses_snoc, h.hi y (by omega), List.count_eq_zero_of_not_mem (fun hm => by have := hhi y hm; omega)]
/-- One open node is used, the new ones come up. -/
theorem sound_sw {a b c : Int} {s : ByteArray} (hs : nameOk s = true) (ha : 0 ≤ a ∧ a < 64) (hb : 0 ≤ b ∧ b < 64) (hc : 0 ≤ c ∧ c < 64) (h1 : a ≠ b) (h2 : a ≠ c) (h3 : b ≠ c) : sound ⟨2, s, a, b, c, 0⟩ = true := by
  simp [sound, ends, nodes, rest, hs, ha, hb, hc]
  omega
theorem sound_tr {a b len : Int} {s : ByteArray} (hs : nameOk s = true) (ha : 0 ≤ a ∧ a < 64) (hb : 0 ≤ b ∧ b < 64) (h1 : a ≠ b) (hl : 1 ≤ len ∧ len ≤ 100000) : sound ⟨1, s, a, b, 0, len⟩ = true := by
  simp [sound, ends, nodes, rest, hs, ha, hb, hl]
  omega
theorem sound_de {a b : Int} {s : ByteArray} (hs : nameOk s = true) (ha : 0 ≤ a ∧ a < 64) (hb : 0 ≤ b ∧ b < 64) (h1 : a ≠ b) : sound ⟨3, s, a, b, 0, 0⟩ = true := by
  simp [sound, ends, nodes, rest, hs, ha, hb]
  omega
theorem count_one : ∀ {L : List Int}, L.Nodup → ∀ y, L.count y ≤ 1 := by
  intro L
  induction L with
  | nil => intro _ y; simp
  | cons a r ih =>
    intro h y
    rw [List.nodup_cons] at h
    have := ih h.2 y
    rw [List.count_cons]
    by_cases e : a = y
    · subst e
      rw [List.count_eq_zero_of_not_mem h.1]
      simp
    · simp [e]; exact this
theorem PInv.mid {l : List PE} {p q : List Int} {a nx : Int} (h : PInv l (p ++ a :: q) nx) : (0 ≤ a ∧ a < nx ∧ uses l a ≤ 1) ∧ a ∉ p ++ q ∧ (p ++ q).Nodup ∧ ∀ y ∈ p ++ q, y ≠ a ∧ 0 ≤ y ∧ y < nx ∧ uses l y ≤ 1 := by
  have hn := (List.perm_middle.nodup_iff).1 h.nd
  rw [List.nodup_cons] at hn
  have hm : ∀ y, y ∈ p ++ q → y ∈ p ++ a :: q := by
    intro y hy
    rw [List.mem_append] at hy ⊢
    rcases hy with hy | hy
    · exact .inl hy
    · exact .inr (List.mem_cons_of_mem _ hy)
  refine ⟨h.op a (by simp), hn.1, hn.2, fun y hy => ⟨fun e => hn.1 (by rw [← e]; exact hy), h.op y (hm y hy)⟩⟩
theorem nodup_snoc {L : List Int} {a : Int} (h : L.Nodup) (ha : a ∉ L) : (L ++ [a]).Nodup := by
  rw [List.nodup_append]
  refine ⟨h, by simp, fun x hx y hy => ?_⟩
  rw [List.mem_singleton] at hy
  rintro rfl
  exact ha (by rw [← hy]; exact hx)
theorem PInv.sw {l : List PE} {p q : List Int} {nx a : Int} (h : PInv l (p ++ a :: q) nx) (hl : l.length < 96) (hnx : nx < 62) (x : PE) (hx : x = ⟨2, pname l.length, a, nx, nx + 1, 0⟩ ∨ x = ⟨2, pname l.length, nx, a, nx + 1, 0⟩) :
    PInv (l ++ [x]) (p ++ q ++ [nx, nx + 1]) (nx + 2) := by
  obtain ⟨ha, hna, hnd1, hpq⟩ := h.mid
  have h2 := h.two
  have u0 := h.hi nx (Int.le_refl _)
  have u1 := h.hi (nx + 1) (by omega)
  have hmem : ∀ y, y ∈ ends x ↔ y = a ∨ y = nx ∨ y = nx + 1 := by
    intro y
    rcases hx with rfl | rfl <;> simp [ends] <;> omega
  have hnd : (ends x).Nodup := by
    rcases hx with rfl | rfl <;> simp [ends] <;> omega
  have hc : ∀ y, (ends x).count y ≤ 1 := fun y => count_one hnd y
  refine h.step x ?_ (by rcases hx with rfl | rfl <;> rfl) hl ?_ (by omega) ?_ ?_ ?_
  · rcases hx with rfl | rfl
    · exact sound_sw (pname_ok _) (by omega) (by omega) (by omega) (by omega) (by omega) (by omega)
    · exact sound_sw (pname_ok _) (by omega) (by omega) (by omega) (by omega) (by omega) (by omega)
  · intro y hy
    rcases (hmem y).1 hy with rfl | rfl | rfl <;> omega
  · intro y hy
    rcases (hmem y).1 hy with rfl | rfl | rfl <;> omega
  · have e : p ++ q ++ [nx, nx + 1] = (p ++ q ++ [nx]) ++ [nx + 1] := by simp
    rw [e]
    refine nodup_snoc (nodup_snoc hnd1 (fun hm => by have := hpq _ hm; omega)) (fun hm => ?_)
    rw [List.mem_append, List.mem_singleton] at hm
    rcases hm with hm | hm
    · have := hpq _ hm; omega
    · omega
  · intro y hy
    rw [List.mem_append] at hy
    rcases hy with hy | hy
    · have h3 := hpq y hy
      rw [List.count_eq_zero_of_not_mem (fun hm => by rcases (hmem y).1 hm with e | e | e <;> omega)]
      omega
    · have h4 := hc y
      simp at hy
      rcases hy with rfl | rfl <;> omega
/-- One open node is used, one new end comes up, open or not. -/
theorem PInv.two_ {l : List PE} {p q o' : List Int} {nx a : Int} (h : PInv l (p ++ a :: q) nx) (hl : l.length < 96) (hnx : nx < 64) (x : PE) (hx : x = ⟨3, pname l.length, a, nx, 0, 0⟩ ∨ ∃ len, 1 ≤ len ∧ len ≤ 100000 ∧ x = ⟨1, pname l.length, a, nx, 0, len⟩)
    (ho : o' = p ++ q ∨ o' = p ++ q ++ [nx]) : PInv (l ++ [x]) o' (nx + 1) := by
  obtain ⟨ha, hna, hnd1, hpq⟩ := h.mid
  have h2 := h.two
  have u0 := h.hi nx (Int.le_refl _)
  have he : ends x = [a, nx] := by
    rcases hx with rfl | ⟨len, _, _, rfl⟩ <;> simp [ends]
  have hmem : ∀ y, y ∈ ends x ↔ y = a ∨ y = nx := by
    intro y
    rw [he]; simp
  have hc : ∀ y, (ends x).count y ≤ 1 := fun y => count_one (by rw [he]; simp; omega) y
  refine h.step x ?_ (by rcases hx with rfl | ⟨len, _, _, rfl⟩ <;> rfl) hl ?_ (by omega) ?_ ?_ ?_
  · rcases hx with rfl | ⟨len, h1, h3, rfl⟩
    · exact sound_de (pname_ok _) (by omega) (by omega) (by omega)
    · exact sound_tr (pname_ok _) (by omega) (by omega) (by omega) ⟨h1, h3⟩
  · intro y hy
    rcases (hmem y).1 hy with rfl | rfl <;> omega
  · intro y hy
    rcases (hmem y).1 hy with rfl | rfl <;> omega
  · rcases ho with rfl | rfl
    · exact hnd1
    · exact nodup_snoc hnd1 (fun hm => by have := hpq _ hm; omega)
  · intro y hy
    have key : y ∈ p ++ q ∨ y = nx := by
      rcases ho with rfl | rfl
      · exact .inl hy
      · rw [List.mem_append, List.mem_singleton] at hy; exact hy
    rcases key with hy | rfl
    · have h3 := hpq y hy
      rw [List.count_eq_zero_of_not_mem (fun hm => by rcases (hmem y).1 hm with e | e <;> omega)]
      omega
    · have := hc y; omega
/-- Two open nodes are joined. -/
theorem PInv.join {l : List PE} {p q r : List Int} {nx a b len : Int} (h : PInv l (p ++ a :: q) nx) (hpq : p ++ q = r ++ [b]) (hl : l.length < 96) (hnx : nx < 64) (x : PE) (h1 : 1 ≤ len) (h3 : len ≤ 100000) (hx : x = ⟨1, pname l.length, a, b, 0, len⟩) : PInv (l ++ [x]) r nx := by
  obtain ⟨ha, hna, hnd1, hall⟩ := h.mid
  have h2 := h.two
  have hb := hall b (by rw [hpq]; simp)
  rw [hpq] at hnd1 hall
  have he : ends x = [a, b] := by rw [hx]; simp [ends]
  have hnr : r.Nodup ∧ b ∉ r := by
    rw [List.nodup_append] at hnd1
    exact ⟨hnd1.1, fun hm => hnd1.2.2 b hm b (by simp) rfl⟩
  refine h.step x ?_ (by rw [hx]) hl ?_ (Int.le_refl _) ?_ hnr.1 ?_
  · rw [hx]
    exact sound_tr (pname_ok _) (by omega) (by omega) (by omega) ⟨h1, h3⟩
  · intro y hy
    rw [he] at hy
    simp at hy
    rcases hy with rfl | rfl <;> omega
  · intro y hy
    rw [he] at hy
    simp at hy
    rcases hy with rfl | rfl <;> omega
  · intro y hy
    have h4 := hall y (by simp [hy])
    rw [List.count_eq_zero_of_not_mem (fun hm => by
      rw [he] at hm
      simp at hm
      rcases hm with rfl | rfl
      · exact h4.1 rfl
      · exact hnr.2 hy)]
    omega
/-- An open node is left. -/
theorem PInv.drop {l : List PE} {q : List Int} {nx a : Int} (h : PInv l (a :: q) nx) : PInv l q nx :=
  ⟨h.ok, h.nm, (List.nodup_cons.1 h.nd).2, fun y hy => h.op y (List.mem_cons_of_mem _ hy), h.hi, h.two⟩
theorem PInv.start (o : List Int) (ho : o = [1] ∨ o = [1, 0]) : PInv [⟨1, pname 0, 0, 1, 0, 500⟩] o 2 := by
  have hs : sound ⟨1, pname 0, 0, 1, 0, 500⟩ = true := sound_tr (pname_ok 0) (by omega) (by omega) (by omega) (by omega)
  have hu : ∀ y, uses [⟨1, pname 0, 0, 1, 0, 500⟩] y = ([0, 1] : List Int).count y := by intro y; simp [uses, ends]
  refine ⟨?_, ?_, ?_, ?_, ?_, by omega⟩
  · have := vErr_snoc (l := []) (x := ⟨1, pname 0, 0, 1, 0, 500⟩) rfl (by decide) hs rfl (fun n _ => by simp [uses])
    exact this
  · intro i x hi
    rcases i with _ | i
    · simp at hi; rw [← hi]
    · simp at hi
  · rcases ho with rfl | rfl <;> decide
  · intro y hy
    rw [hu]
    have hc := count_one (show ([0, 1] : List Int).Nodup by decide) y
    rcases ho with rfl | rfl <;> simp at hy <;> omega
  · intro y hy
    rw [hu, List.count_eq_zero_of_not_mem]
    simp; omega
theorem PInv.names {l : List PE} {o : List Int} {nx : Int} (h : PInv l o nx) : ∀ x ∈ l, x.nm.size ≤ 12 := by
  intro x hx
  exact (sound_bd ((vErr_zero h.ok).2 x hx)).2.1
end Pl
end Go.Proofs.YtkkpkekkaoccbaaDoor
