/- Sheets of trains, plainly: how long a text is, and that no two texts differ in one byte. -/
import Derived.Test.YtiegpkbollihgaaDoorFnText2
namespace Go.Proofs.YtiegpkbollihgaaDoor
namespace Fn
/- ### Lengths. -/
def lenW (w : List (List UInt8)) : Nat := (w.map fun p => p.length + 1).sum
theorem join_len (c : UInt8) : ∀ w : List (List UInt8), (joinC c w).length ≤ (w.map fun p => p.length + 1).sum := by
  intro w
  induction w with
  | nil => exact Nat.le_refl _
  | cons p t ih =>
    cases t with
    | nil => simp [joinC]
    | cons q u =>
      show (p ++ c :: joinC c (q :: u)).length ≤ _
      rw [List.map_cons, List.sum_cons, List.length_append, List.length_cons]
      omega
theorem itoa_len7 {n : Int} (h : 0 ≤ n ∧ n ≤ 9999999) : (Lib.itoa n).length ≤ 7 := by
  have := (nOk_of h.1 h.2).1
  unfold nOk at this
  simp only [Bool.and_eq_true, decide_eq_true_eq] at this
  exact this.1.1.2
theorem sum_itoa : ∀ l : List Int, (∀ n ∈ l, 0 ≤ n ∧ n ≤ 9999999) → ((l.map Lib.itoa).map fun p => p.length + 1).sum ≤ 8 * l.length := by
  intro l
  induction l with
  | nil => intro _; exact Nat.le_refl _
  | cons n t ih =>
    intro h
    have h1 := itoa_len7 (h n (by simp))
    have h2 := ih fun m hm => h m (List.mem_cons_of_mem _ hm)
    simp only [List.map_cons, List.sum_cons, List.length_cons]
    omega
theorem len_wagon {x : WG} (h : wErr x = 0) : (join (wagonW x)).length ≤ 80 := by
  obtain ⟨h1, _, _, h4⟩ := wErr_zero h
  refine Nat.le_trans (join_len 32 _) ?_
  have e1 : x.nu.data.toList.length = 12 := by
    unfold kErr at h1
    split at h1
    · cases h1
    · rename_i h2
      rw [Decidable.not_not] at h2
      simpa using h2.1
  have e2 : x.de.data.toList.length ≤ 12 := by
    unfold Pl.nameOk at h4
    simp only [Bool.and_eq_true, decide_eq_true_eq] at h4
    simpa using h4.1.2
  have e3 := sum_itoa (wagL x) (wag_nums h)
  have e4 : (gtW x.gt).length ≤ 6 := by unfold gtW; split <;> decide
  have e5 : (wagL x).length = 5 := rfl
  have e6 : wWagon.length = 5 := rfl
  unfold wagonW
  simp only [List.map_append, List.sum_append, List.map_cons, List.map_nil, List.sum_cons, List.sum_nil]
  simp only [List.map_map] at e3 ⊢
  omega
theorem len_flat {α : Type} (F : α → List (List UInt8)) (k : Nat) : ∀ l : List α, (∀ x ∈ l, (join (F x)).length + 1 ≤ k) → (ended (l.map F)).length ≤ k * l.length := by
  intro l
  induction l with
  | nil => intro _; exact Nat.zero_le _
  | cons x t ih =>
    intro h
    have h1 := h x (by simp)
    have h2 := ih fun y hy => h y (List.mem_cons_of_mem _ hy)
    have e : ended ((x :: t).map F) = (join (F x) ++ [10]) ++ ended (t.map F) := rfl
    rw [e, List.length_append, List.length_append, List.length_singleton, List.length_cons, Nat.mul_succ]
    omega
theorem ended_app (P Q : List (List (List UInt8))) : ended (P ++ Q) = ended P ++ ended Q := by simp [ended]
theorem len_end {n : Nat} (h : n ≤ 9999999) : (join (endW n)).length ≤ 12 := by
  refine Nat.le_trans (join_len 32 _) ?_
  have := itoa_len7 (n := (n : Int)) (by omega)
  simp only [endW, List.map_cons, List.map_nil, List.sum_cons, List.sum_nil]
  have e : wEnd.length = 3 := rfl
  omega
theorem len_fmt {f : FN} (h : fErr f = 0) (hb : f.bk.length = 7) : (fmtL f).length ≤ 9000 := by
  obtain ⟨h1, h2, h3, h4, h5⟩ := fErr_zero h
  have e1 : (ended [trainW f]).length ≤ 20 := by
    have e : ended [trainW f] = join (trainW f) ++ [10] := by simp [ended]
    rw [e, List.length_append, List.length_singleton]
    have := join_len 32 (trainW f)
    have e2 : f.nm.data.toList.length ≤ 12 := by
      unfold Pl.nameOk at h1
      simp only [Bool.and_eq_true, decide_eq_true_eq] at h1
      simpa using h1.1.2
    have e3 : ((trainW f).map fun p => p.length + 1).sum = 6 + (f.nm.data.toList.length + 1) := by simp [trainW, wTrain]
    have e4 : joinC 32 (trainW f) = join (trainW f) := rfl
    rw [e3, e4] at this
    omega
  have e2 := len_flat wagonW 81 f.ws fun x hx => by have := len_wagon (h3 x hx); omega
  have e3 : (ended [brakesW f]).length ≤ 64 := by
    have e : ended [brakesW f] = join (brakesW f) ++ [10] := by simp [ended]
    rw [e, List.length_append, List.length_singleton]
    have h6 := join_len 32 (brakesW f)
    have h7 := sum_itoa f.bk fun n hn => by have := h5 n (by simp [nums, hn]); omega
    have h8 : ((brakesW f).map fun p => p.length + 1).sum = 7 + ((f.bk.map Lib.itoa).map fun p => p.length + 1).sum := rfl
    have h9 : joinC 32 (brakesW f) = join (brakesW f) := rfl
    rw [h8, h9] at h6
    omega
  have e4 := len_flat setoutW 32 f.so fun x hx => by
    have h6 := join_len 32 (setoutW x)
    have h7 := sum_itoa (soL x) fun n hn => by have := h5 n (List.mem_append_right _ (List.mem_flatMap.2 ⟨x, hx, hn⟩)); omega
    have h8 : ((setoutW x).map fun p => p.length + 1).sum = 7 + (((soL x).map Lib.itoa).map fun p => p.length + 1).sum := rfl
    have h9 : joinC 32 (setoutW x) = join (setoutW x) := rfl
    have h10 : (soL x).length = 3 := rfl
    rw [h8, h9] at h6
    omega
  have e5 : (join (endW (chk (body f)))).length ≤ 12 := len_end (by have := chkTo_lt (body f) (body f).length; unfold chk; omega)
  have e6 : body f = ended [trainW f] ++ ended (f.ws.map wagonW) ++ ended [brakesW f] ++ ended (f.so.map setoutW) := by
    unfold body bodyW
    rw [ended_app, ended_app, ended_app]
  unfold fmtL
  rw [List.length_append, List.length_append, List.length_singleton]
  have e7 : (body f).length = (ended [trainW f]).length + (ended (f.ws.map wagonW)).length + (ended [brakesW f]).length + (ended (f.so.map setoutW)).length := by
    rw [e6, List.length_append, List.length_append, List.length_append]
  omega
/- ### One byte. -/
/-- Two texts that differ at one place. -/
def Diff1 (a b : List UInt8) (k : Nat) : Prop := a.length = b.length ∧ (∀ j, j ≠ k → a[j]? = b[j]?) ∧ a[k]? ≠ b[k]?
theorem Diff1.symm {a b : List UInt8} {k : Nat} (h : Diff1 a b k) : Diff1 b a k := ⟨h.1.symm, fun j hj => (h.2.1 j hj).symm, fun e => h.2.2 e.symm⟩
theorem getD_of {a : List UInt8} {k : Nat} : a.getD k 0 = (a[k]?).getD 0 := List.getD_eq_getElem?_getD ..
theorem chk_same {a b : List UInt8} {k : Nat} (h : Diff1 a b k) : ∀ m, m ≤ k → chkTo a m = chkTo b m := by
  intro m
  induction m with
  | zero => intro _; rfl
  | succ m ih =>
    intro hm
    rw [chkTo, chkTo, ih (by omega), getD_of, getD_of, h.2.1 m (by omega)]
theorem chk_later {a b : List UInt8} {k : Nat} (h : Diff1 a b k) : ∀ m, k < m → (chkTo a m + (k + 1) % 65521 * (b.getD k 0).toNat) % 65521 = (chkTo b m + (k + 1) % 65521 * (a.getD k 0).toNat) % 65521 := by
  intro m
  induction m with
  | zero => intro h; omega
  | succ m ih =>
    intro hm
    by_cases e : k = m
    · subst e
      rw [chkTo, chkTo, chk_same h k (Nat.le_refl _), Nat.mod_add_mod, Nat.mod_add_mod]
      congr 1
      omega
    · have := ih (by omega)
      rw [chkTo, chkTo, Nat.mod_add_mod, Nat.mod_add_mod]
      have e2 : a.getD m 0 = b.getD m 0 := by rw [getD_of, getD_of, h.2.1 m (by omega)]
      rw [e2]
      omega
theorem gcd_small : ∀ d, d < 256 → 0 < d → Nat.gcd 65521 d = 1 := by decide +kernel
theorem chk_diff {a b : List UInt8} {k : Nat} (h : Diff1 a b k) (hk : k < a.length) (hl : a.length ≤ 65000) : chk a ≠ chk b := by
  intro e
  unfold chk at e
  have hl2 := chk_later h a.length hk
  rw [h.1] at e hl2
  rw [← h.1] at e hl2
  have hb : k < b.length := by rw [← h.1]; exact hk
  have hne : a[k] ≠ b[k] := fun e2 => h.2.2 (by rw [List.getElem?_eq_getElem hk, List.getElem?_eq_getElem hb, e2])
  have ga : a.getD k 0 = a[k] := by rw [getD_of, List.getElem?_eq_getElem hk]; rfl
  have gb : b.getD k 0 = b[k] := by rw [getD_of, List.getElem?_eq_getElem hb]; rfl
  rw [ga, gb, Nat.mod_eq_of_lt (show k + 1 < 65521 by omega)] at hl2
  have e' : chkTo a a.length = chkTo b a.length := by rw [e, h.1]
  rw [e'] at hl2
  have h1 := UInt8.toNat_lt a[k]
  have h2 := UInt8.toNat_lt b[k]
  have h3 : a[k].toNat ≠ b[k].toNat := fun e2 => hne (UInt8.toNat_inj.1 e2)
  have key : ∀ x y c : Nat, x < y → y < 256 → (c + (k + 1) * x) % 65521 = (c + (k + 1) * y) % 65521 → False := by
    intro x y c hxy hy he
    obtain ⟨d, rfl⟩ : ∃ d, y = x + d := ⟨y - x, by omega⟩
    rw [Nat.mul_add, ← Nat.add_assoc] at he
    have hd : 65521 ∣ (k + 1) * d := by omega
    have hc : Nat.Coprime 65521 d := gcd_small d (by omega) (by omega)
    have := Nat.le_of_dvd (by omega) (hc.dvd_of_dvd_mul_right hd)
    omega
  rcases Nat.lt_or_gt_of_ne h3 with h4 | h4
  · exact key _ _ _ h4 h2 hl2.symm
  · exact key _ _ _ h4 h1 hl2
def endL (n : Nat) : List UInt8 := join (endW n) ++ [10]
theorem endL_eq (n : Nat) : endL n = 101 :: 110 :: 100 :: 32 :: (Lib.itoa (n : Int) ++ [10]) := rfl
theorem endL_inj {n m : Nat} (h : endL n = endL m) : n = m := by
  rw [endL_eq, endL_eq] at h
  simp only [List.cons.injEq, true_and, List.append_cancel_right_eq] at h
  rw [Tx.itoa_dec (Int.natCast_nonneg _), Tx.itoa_dec (Int.natCast_nonneg _), Int.toNat_natCast, Int.toNat_natCast] at h
  rw [← Tx.dec_val n, ← Tx.dec_val m, h]
theorem endL_tail {n i : Nat} {b : UInt8} (h : (endL n)[i + 1]? = some b) : b ≠ 101 := by
  rw [endL_eq, List.getElem?_cons_succ] at h
  have hm := List.mem_of_getElem? h
  simp only [List.mem_cons, List.mem_append, List.not_mem_nil, or_false] at hm
  rcases hm with rfl | rfl | rfl | hm | rfl
  · decide
  · decide
  · decide
  · rw [Tx.itoa_dec (Int.natCast_nonneg _)] at hm
    have := Tx.dec_dig _ b hm
    unfold digC at this
    simp only [Bool.and_eq_true, decide_eq_true_eq] at this
    intro e
    rw [e] at this
    exact absurd this (by decide)
  · decide
theorem endL_mid {n i : Nat} {b : UInt8} (hi : i + 1 < (endL n).length) (h : (endL n)[i]? = some b) : b ≠ 10 := by
  have e : endL n = join (endW n) ++ [10] := rfl
  rw [e] at h hi
  rw [List.length_append, List.length_singleton] at hi
  rw [List.getElem?_append_left (by omega)] at h
  exact fun e => clean_no10 (clean_end n) (e ▸ List.mem_of_getElem? h)
theorem body_last (f : FN) : ∃ p, body f = p ++ [10] := by
  unfold body bodyW
  rcases List.eq_nil_or_concat f.so with e | ⟨t, x, e⟩
  · rw [e, List.map_nil, List.append_nil, ended_app]
    exact ⟨ended ([trainW f] ++ f.ws.map wagonW) ++ join (brakesW f), by simp [ended]⟩
  · rw [e, List.concat_eq_append, List.map_append, ← List.append_assoc, ended_app]
    exact ⟨ended ([trainW f] ++ f.ws.map wagonW ++ [brakesW f] ++ t.map setoutW) ++ join (setoutW x), by simp [ended]⟩
theorem no_shift {f g : FN} {k : Nat} (h : Diff1 (fmtL f) (fmtL g) k) (hlt : (body f).length < (body g).length) : False := by
  obtain ⟨p, hp⟩ := body_last g
  have ef : fmtL f = body f ++ endL (chk (body f)) := rfl
  have eg : fmtL g = body g ++ endL (chk (body g)) := rfl
  have hlen := h.1
  rw [ef, eg, List.length_append, List.length_append] at hlen
  have hE : 0 < (endL (chk (body g))).length := by rw [endL_eq]; simp
  have hpl : (body g).length = p.length + 1 := by rw [hp]; simp
  -- the end of the line ahead of the last one
  have g1 : (fmtL g)[p.length]? = some 10 := by
    rw [eg, List.getElem?_append_left (by omega), hp, List.getElem?_append_right (Nat.le_refl _)]
    simp
  have g2 : (fmtL g)[(body g).length]? = some 101 := by
    rw [eg, List.getElem?_append_right (Nat.le_refl _), Nat.sub_self, endL_eq]
    rfl
  have f1 : (fmtL f)[p.length]? ≠ some 10 := by
    intro e
    rw [ef, List.getElem?_append_right (by omega)] at e
    exact endL_mid (by omega) e rfl
  have f2 : (fmtL f)[(body g).length]? ≠ some 101 := by
    intro e
    rw [ef, List.getElem?_append_right (by omega)] at e
    obtain ⟨i, hi⟩ : ∃ i, (body g).length - (body f).length = i + 1 := ⟨(body g).length - (body f).length - 1, by omega⟩
    rw [hi] at e
    exact endL_tail e rfl
  have k1 : p.length = k := Decidable.byContradiction fun e => f1 ((h.2.1 _ e).trans g1)
  have k2 : (body g).length = k := Decidable.byContradiction fun e => f2 ((h.2.1 _ e).trans g2)
  omega
/-- No two texts of sheets differ in one byte. -/
theorem no_diff {f g : FN} {k : Nat} (hf : (fmtL f).length ≤ 65000) (h : Diff1 (fmtL f) (fmtL g) k) : False := by
  rcases Nat.lt_trichotomy (body f).length (body g).length with hl | hl | hl
  · exact no_shift h hl
  · have ef : fmtL f = body f ++ endL (chk (body f)) := rfl
    have eg : fmtL g = body g ++ endL (chk (body g)) := rfl
    by_cases hk : k < (body f).length
    · have hE : endL (chk (body f)) = endL (chk (body g)) := by
        refine List.ext_getElem? fun j => ?_
        have := h.2.1 ((body f).length + j) (by omega)
        rw [ef, eg, List.getElem?_append_right (by omega), List.getElem?_append_right (by omega), hl] at this
        simpa using this
      have hd : Diff1 (body f) (body g) k := by
        refine ⟨hl, fun j hj => ?_, ?_⟩
        · by_cases hjl : j < (body f).length
          · have := h.2.1 j hj
            rwa [ef, eg, List.getElem?_append_left hjl, List.getElem?_append_left (by omega)] at this
          · rw [List.getElem?_eq_none (by omega), List.getElem?_eq_none (by omega)]
        · have := h.2.2
          rwa [ef, eg, List.getElem?_append_left hk, List.getElem?_append_left (by omega)] at this
      refine chk_diff hd hk ?_ (endL_inj hE)
      rw [ef, List.length_append] at hf
      omega
    · have hB : body f = body g := by
        refine List.ext_getElem? fun j => ?_
        by_cases hjl : j < (body f).length
        · have := h.2.1 j (by omega)
          rwa [ef, eg, List.getElem?_append_left hjl, List.getElem?_append_left (by omega)] at this
        · rw [List.getElem?_eq_none (by omega), List.getElem?_eq_none (by omega)]
      exact h.2.2 (by rw [ef, eg, hB])
  · exact no_shift h.symm hl
/-- A text in which one byte was replaced is not read. -/
theorem finds {f : FN} {s : ByteArray} {k : Nat} (h : fErr f = 0) (hb : f.bk.length = 7) (hd : Diff1 (fmtL f) s.data.toList k) : (parse s).2.2 ≠ 0 := by
  intro e
  obtain ⟨g, n, hg⟩ : ∃ g n, parse s = (g, n, 0) := ⟨_, _, by rw [← e]⟩
  obtain ⟨_, hs, _, _⟩ := parse_back hg
  rw [hs] at hd
  exact no_diff (by have := len_fmt h hb; omega) hd
end Fn
end Go.Proofs.YtiegpkbollihgaaDoor
