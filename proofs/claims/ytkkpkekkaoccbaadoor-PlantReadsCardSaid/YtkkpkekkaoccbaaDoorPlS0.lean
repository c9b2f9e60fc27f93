/- The text of a plant is read as the plant, plainly. -/
import Derived.Test.YtkkpkekkaoccbaaDoorPlG0
import Derived.Lib.ItoaMem
namespace Go.Proofs.YtkkpkekkaoccbaaDoor
namespace Pl
theorem dec_dig (n : Nat) : ∀ c ∈ Lib.decDigits n, digC c = true := by
  induction n using Nat.strongRecOn with
  | ind n ih =>
    have one : ∀ m, m < 10 → digC (UInt8.ofNat (48 + m)) = true := by
      intro m hm
      unfold digC
      rw [UInt8.toNat_ofNat', Nat.mod_eq_of_lt (by omega)]
      simp; omega
    intro c hc
    rw [Lib.decDigits] at hc
    split at hc
    · rename_i h
      rw [List.mem_singleton] at hc
      rw [hc]; exact one n h
    · rename_i h
      rw [List.mem_append, List.mem_singleton] at hc
      rcases hc with hc | hc
      · exact ih (n / 10) (by omega) c hc
      · rw [hc]; exact one _ (by omega)
theorem dec_val (n : Nat) : numV (Lib.decDigits n) = n := by
  induction n using Nat.strongRecOn with
  | ind n ih =>
    have one : ∀ m, m < 10 → (UInt8.ofNat (48 + m)).toNat - 48 = m := by
      intro m hm
      rw [UInt8.toNat_ofNat', Nat.mod_eq_of_lt (by omega)]
      omega
    rw [Lib.decDigits]
    split
    · rename_i h
      have := numV_snoc [] (UInt8.ofNat (48 + n))
      rw [List.nil_append] at this
      rw [this, one n h]
      simp [numV]
    · rename_i h
      rw [numV_snoc, ih (n / 10) (by omega), one _ (by omega)]
      omega
theorem dec_ne (n : Nat) : Lib.decDigits n ≠ [] := by
  rw [Lib.decDigits]
  split <;> simp
theorem dec_head (n : Nat) : 0 < n → (Lib.decDigits n).headD 0 ≠ 48 := by
  induction n using Nat.strongRecOn with
  | ind n ih =>
    intro h0
    rw [Lib.decDigits]
    split
    · rename_i h
      simp only [List.headD_cons]
      intro e
      have := congrArg UInt8.toNat e
      rw [UInt8.toNat_ofNat', Nat.mod_eq_of_lt (by omega)] at this
      have h2 : (48 : UInt8).toNat = 48 := rfl
      omega
    · rename_i h
      have := ih (n / 10) (by omega) (by omega)
      cases hd : Lib.decDigits (n / 10) with
      | nil => exact absurd hd (dec_ne _)
      | cons a r => rw [hd] at this; simpa using this
theorem dec_len (k : Nat) : ∀ n, n < 10 ^ (k + 1) → (Lib.decDigits n).length ≤ k + 1 := by
  induction k with
  | zero =>
    intro n h
    rw [Lib.decDigits, dif_pos (by simpa using h)]
    simp
  | succ k ih =>
    intro n h
    rw [Lib.decDigits]
    split
    · simp
    · have := ih (n / 10) (by rw [Nat.pow_succ] at h; omega)
      simp only [List.length_append, List.length_singleton]
      omega
theorem dec_ok (n : Nat) (h : n < 10000000) : numOk (Lib.decDigits n) = true := by
  have h1 := dec_len 6 n (by omega)
  have h2 := List.length_pos_iff.2 (dec_ne n)
  have h3 : (Lib.decDigits n).all digC = true := List.all_eq_true.2 (dec_dig n)
  unfold numOk
  rw [h3, decide_eq_true (by omega), decide_eq_true (by omega)]
  rcases Nat.eq_zero_or_pos n with rfl | hp
  · have e : Lib.decDigits 0 = [48] := by rw [Lib.decDigits, dif_pos (by decide)]; rfl
    rw [e]
    rfl
  · rw [decide_eq_false (dec_head n hp)]
    rfl
theorem itoa_dec {n : Int} (h : 0 ≤ n) : Lib.itoa n = Lib.decDigits n.toNat := by
  unfold Lib.itoa
  rw [if_neg (by omega)]
theorem numR_itoa {n : Int} (h : 0 ≤ n) (h1 : n < 10000000) : numR (baOf (Lib.itoa n)) = (n.toNat, true) := by
  unfold numR
  rw [baOf_data, itoa_dec h, if_pos (dec_ok _ (by omega)), dec_val]
theorem numOkB_itoa {n : Int} (h : 0 ≤ n) (h1 : n ≤ 1000000) : numOkB (baOf (Lib.itoa n)) = true := by
  unfold numOkB
  rw [numR_itoa h (by omega)]
  simp; omega
theorem itoa_mem {n : Int} (h : 0 ≤ n) {c : UInt8} (hc : c ∈ Lib.itoa n) : 48 ≤ c.toNat := by
  rw [itoa_dec h] at hc
  have := dec_dig _ c hc
  simp only [digC, Bool.and_eq_true, decide_eq_true_eq] at this
  exact this.1
theorem cut_word (c : UInt8) (p r : List UInt8) (h : c ∉ p) : Tx.cutAt c (p ++ c :: r) = p :: Tx.cutAt c r := by
  rw [Tx.cut_piece c p _ h, Tx.cut_hit]
  simp [Tx.glue]
theorem cut_last (c : UInt8) (p : List UInt8) (h : c ∉ p) : Tx.cutAt c p = [p] := by
  have := Tx.cut_piece c p [] h
  rw [List.append_nil] at this
  rw [this]
  simp [Tx.cutAt, Tx.glue]
theorem cut_nums (L : List Int) : ∀ p : List UInt8, (32 : UInt8) ∉ p → (∀ n ∈ L, 0 ≤ n) → Tx.cutAt 32 (p ++ L.flatMap sp) = p :: L.map Lib.itoa := by
  induction L with
  | nil => intro p hp _; simp only [List.flatMap_nil, List.append_nil, List.map_nil]; exact cut_last 32 p hp
  | cons n r ih =>
    intro p hp hn
    have h0 := hn n (by simp)
    rw [List.flatMap_cons, sp, List.cons_append, cut_word 32 p _ hp, ih (Lib.itoa n) (fun hm => by have := itoa_mem h0 hm; exact absurd this (by decide)) (fun m hm => hn m (by simp [hm])), List.map_cons]
def bodyF (x : PE) : List UInt8 := kindW x.k ++ 32 :: (x.nm.data.toList ++ (nums x).flatMap sp)
theorem lineF_body (x : PE) : lineF x = bodyF x ++ [10] := by simp [lineF, bodyF]
theorem nm_not {x : PE} (h : sound x = true) {c : UInt8} (hc : c.toNat < 48) : c ∉ x.nm.data.toList := by
  intro hm
  have hn := (sound_parts h).2.1
  simp only [nameOk, Bool.and_eq_true, decide_eq_true_eq] at hn
  have := List.all_eq_true.1 hn.2 c hm
  simp only [nameC, Bool.or_eq_true, Bool.and_eq_true, decide_eq_true_eq] at this
  omega
theorem nums_nn {x : PE} (h : sound x = true) : ∀ n ∈ nums x, 0 ≤ n ∧ n ≤ 1000000 := by
  obtain ⟨hk, hn, ha, hb, hc, hl⟩ := sound_bd h
  intro n hm
  unfold nums ends at hm
  rcases hk with hk | hk | hk <;> simp [hk] at hm <;> omega
theorem kindW_1 {x : PE} (h : x.k = 1) : kindW x.k = track := by rw [h]; rfl
theorem kindW_2 {x : PE} (h : x.k = 2) : kindW x.k = switch := by rw [h]; rfl
theorem kindW_3 {x : PE} (h : x.k = 3) : kindW x.k = derailer := by rw [h]; rfl
theorem kindW_not {x : PE} (h : sound x = true) {c : UInt8} (hc : c.toNat < 48) : c ∉ kindW x.k := by
  intro hm
  have key : ∀ L : List UInt8, (∀ d ∈ L, 97 ≤ d.toNat) → c ∈ L → False := fun L hL hm => by have := hL c hm; omega
  rcases (sound_bd h).1 with hk | hk | hk
  · rw [kindW_1 hk] at hm; exact key _ (by decide) hm
  · rw [kindW_2 hk] at hm; exact key _ (by decide) hm
  · rw [kindW_3 hk] at hm; exact key _ (by decide) hm
theorem flat_not {x : PE} (h : sound x = true) : (10 : UInt8) ∉ (nums x).flatMap sp := by
  intro hm
  obtain ⟨n, hn, hc⟩ := List.mem_flatMap.1 hm
  rw [sp, List.mem_cons] at hc
  rcases hc with hc | hc
  · exact absurd hc (by decide)
  · have := itoa_mem (nums_nn h n hn).1 hc
    exact absurd this (by decide)
theorem body_not {x : PE} (h : sound x = true) : (10 : UInt8) ∉ bodyF x := by
  unfold bodyF
  simp only [List.mem_append, List.mem_cons, not_or]
  exact ⟨kindW_not h (by decide), by decide, nm_not h (by decide), flat_not h⟩
theorem words_body {x : PE} (h : sound x = true) : wordsB (baOf (bodyF x)) = baOf (kindW x.k) :: x.nm :: (nums x).map (fun n => baOf (Lib.itoa n)) := by
  unfold wordsB
  rw [baOf_data, bodyF, cut_word 32 _ _ (kindW_not h (by decide)), cut_nums _ _ (nm_not h (by decide)) (fun n hn => (nums_nn h n hn).1)]
  simp only [List.map_cons, List.map_map]
  rfl
theorem lineB_body {x : PE} (h : sound x = true) : lineB (wordsB (baOf (bodyF x))) = some x := by
  rw [words_body h]
  obtain ⟨hk, hn, ha, hb, hc, hl⟩ := sound_bd h
  have hnm := (nameOk_le (sound_parts h).2.1).1
  have hs : rest x = true := by simp only [sound, Bool.and_eq_true] at h; exact h.2
  have hall : ((nums x).map (fun n => baOf (Lib.itoa n))).all numOkB = true := by
    rw [List.all_map, List.all_eq_true]
    intro n hm
    exact numOkB_itoa (nums_nn h n hm).1 (nums_nn h n hm).2
  have nvi : ∀ n : Int, 0 ≤ n → n < 10000000 → ((numR (baOf (Lib.itoa n))).1 : Int) = n := by
    intro n h0 h1
    rw [numR_itoa h0 h1]
    simp only
    omega
  obtain ⟨k, nm, a, b, c, len⟩ := x
  unfold rest at hs
  simp only at hk ha hb hc hl hnm hs
  rcases hk with rfl | rfl | rfl
  · have e : nums ⟨1, nm, a, b, c, len⟩ = [a, b, len] := rfl
    rw [e] at hall ⊢
    simp only [if_true, Bool.and_eq_true, decide_eq_true_eq] at hs
    have hkd : kindOf (wd (baOf (kindW 1) :: nm :: [a, b, len].map (fun n => baOf (Lib.itoa n))) 0).data.toList = 1 := rfl
    unfold lineB
    rw [hkd, if_neg, if_pos (by exact hall)]
    · have e2 := nvi a ha.1 (by omega)
      have e3 := nvi b hb.1 (by omega)
      have e4 := nvi len hl.1 (by omega)
      show some (PE.mk 1 nm _ _ (if (1 : Int) = 1 then 0 else _) (if (1 : Int) = 1 then _ else 0)) = _
      rw [if_pos rfl, if_pos rfl]
      show some (PE.mk 1 nm ((numR (baOf (Lib.itoa a))).1 : Int) ((numR (baOf (Lib.itoa b))).1 : Int) 0 ((numR (baOf (Lib.itoa len))).1 : Int)) = _
      rw [e2, e3, e4, hs.1.1]
    · rintro (h1 | h1 | h1)
      · exact absurd h1 (by decide)
      · exact h1 rfl
      · have : nm.size = 0 := h1
        omega
  · have e : nums ⟨2, nm, a, b, c, len⟩ = [a, b, c] := rfl
    rw [e] at hall ⊢
    have hs2 : len = 0 := by simp at hs; exact hs
    have hkd : kindOf (wd (baOf (kindW 2) :: nm :: [a, b, c].map (fun n => baOf (Lib.itoa n))) 0).data.toList = 2 := rfl
    unfold lineB
    rw [hkd, if_neg, if_pos (by exact hall)]
    · have e2 := nvi a ha.1 (by omega)
      have e3 := nvi b hb.1 (by omega)
      have e4 := nvi c hc.1 (by omega)
      show some (PE.mk 2 nm _ _ (if (2 : Int) = 1 then 0 else _) (if (2 : Int) = 1 then _ else 0)) = _
      rw [if_neg (by decide), if_neg (by decide)]
      show some (PE.mk 2 nm ((numR (baOf (Lib.itoa a))).1 : Int) ((numR (baOf (Lib.itoa b))).1 : Int) ((numR (baOf (Lib.itoa c))).1 : Int) 0) = _
      rw [e2, e3, e4, hs2]
    · rintro (h1 | h1 | h1)
      · exact absurd h1 (by decide)
      · exact h1 rfl
      · have : nm.size = 0 := h1
        omega
  · have e : nums ⟨3, nm, a, b, c, len⟩ = [a, b] := rfl
    rw [e] at hall ⊢
    have hs2 : len = 0 ∧ c = 0 := by simp at hs; exact hs
    have hkd : kindOf (wd (baOf (kindW 3) :: nm :: [a, b].map (fun n => baOf (Lib.itoa n))) 0).data.toList = 3 := rfl
    unfold lineB
    rw [hkd, if_neg, if_pos (by exact hall)]
    · have e2 := nvi a ha.1 (by omega)
      have e3 := nvi b hb.1 (by omega)
      show some (PE.mk 3 nm _ _ (if (3 : Int) = 1 then 0 else _) (if (3 : Int) = 1 then _ else 0)) = _
      rw [if_neg (by decide), if_neg (by decide)]
      show some (PE.mk 3 nm ((numR (baOf (Lib.itoa a))).1 : Int) ((numR (baOf (Lib.itoa b))).1 : Int) ((numR (⟨#[]⟩ : ByteArray)).1 : Int) 0) = _
      rw [e2, e3, hs2.1, hs2.2]
      rfl
    · rintro (h1 | h1 | h1)
      · exact absurd h1 (by decide)
      · exact h1 rfl
      · have : nm.size = 0 := h1
        omega
theorem cut_fmt : ∀ l : List PE, (∀ x ∈ l, sound x = true) → Tx.cutAt 10 (fmtL l) = l.map bodyF ++ [[]] := by
  intro l
  induction l with
  | nil => intro _; rfl
  | cons x r ih =>
    intro h
    have e : fmtL (x :: r) = bodyF x ++ 10 :: fmtL r := by simp [fmtL, lineF_body]
    rw [e, cut_word 10 _ _ (body_not (h x (by simp))), ih (fun y hy => h y (by simp [hy]))]
    rfl
theorem lines_fmt {l : List PE} (h : ∀ x ∈ l, sound x = true) : linesB (bOf (fmtL l)) = l.map (fun x => baOf (bodyF x)) := by
  unfold linesB
  have e : linesP (fmtL l) = l.map bodyF := by
    unfold linesP
    rw [cut_fmt l h]
    simp
  show (linesP (fmtL l)).map baOf = _
  rw [e, List.map_map]
  rfl
theorem parseGo_fmt : ∀ (l : List PE) (i : Nat), (∀ x ∈ l, sound x = true) → parseGo (l.map (fun x => baOf (bodyF x))) i = .inr l := by
  intro l
  induction l with
  | nil => intro i _; rfl
  | cons x r ih =>
    intro i h
    simp only [List.map_cons, parseGo]
    rw [lineB_body (h x (by simp)), ih (i + 1) (fun y hy => h y (by simp [hy]))]
/-- Reading the text of a plant returns the plant. -/
theorem parse_fmt {l : List PE} (h : vErr l = 0) : parse (bOf (fmtL l)) = (l, 0, 0) := by
  obtain ⟨h1, h2⟩ := vErr_zero h
  have h3 := fmtL_len l h2
  unfold parse
  rw [if_neg (by rw [bOf_size]; omega), lines_fmt h2, parseGo_fmt l 0 h2]
  simp only [h, if_true]
theorem fmt_ok {l : List PE} (h : vErr l = 0) : fmt l = (fmtL l, 0) := by unfold fmt; rw [if_pos h]
theorem fmtL_pos {l : List PE} (h : 1 ≤ l.length) : 1 ≤ (fmtL l).length := by
  cases l with
  | nil => simp at h
  | cons x r => simp [fmtL, lineF]; omega
/- How often a node is used. -/
theorem uses_app (p q : List PE) (n : Int) : uses (p ++ q) n = uses p n + uses q n := by simp [uses]
theorem vGo_uses : ∀ (r prev : List PE), (∀ n, uses prev n ≤ 2) → vGo r prev = 0 → ∀ n, uses (prev ++ r) n ≤ 2 := by
  intro r
  induction r with
  | nil => intro prev h _ n; rw [List.append_nil]; exact h n
  | cons y t ih =>
    intro prev h hv n
    rw [vGo_cons] at hv
    split at hv
    · omega
    · rename_i hs
      split at hv
      · omega
      · split at hv
        · omega
        · rename_i hu
          have e : prev ++ y :: t = prev ++ [y] ++ t := by simp
          rw [e]
          refine ih _ (fun m => ?_) hv n
          rw [uses_snoc]
          have hsy : sound y = true := by simpa using hs
          have hnd : (ends y).Nodup := by
            simp only [sound, Bool.and_eq_true] at hsy
            exact ((nodes_iff _ _).1 hsy.1.2).2
          have hc := count_one hnd m
          have hm := h m
          by_cases hin : m ∈ ends y
          · have : uses prev m ≠ 2 := fun e2 => hu (List.any_eq_true.2 ⟨m, hin, by simpa using e2⟩)
            omega
          · rw [List.count_eq_zero_of_not_mem hin]
            omega
theorem uses_two {l : List PE} (h : vErr l = 0) (n : Int) : uses l n ≤ 2 := by
  unfold vErr at h
  split at h
  · omega
  · have := vGo_uses l [] (fun m => by simp [uses]) h n
    simpa using this
def hit (l : List PE) (n : Int) (i : Nat) : Prop := ∃ x, l[i]? = some x ∧ n ∈ ends x
theorem uses_take {l : List PE} {n : Int} {i : Nat} (h : hit l n i) : uses (l.take i) n + 1 ≤ uses (l.take (i + 1)) n := by
  obtain ⟨x, hx, hn⟩ := h
  rw [List.take_add_one, hx, uses_app]
  have : uses (some x).toList n = (ends x).count n := by simp [uses]
  rw [this]
  have := List.count_pos_iff.2 hn
  omega
theorem uses_mono {l : List PE} {n : Int} {i j : Nat} (h : i ≤ j) : uses (l.take i) n ≤ uses (l.take j) n := by
  have e : l.take i = (l.take j).take i := by rw [List.take_take, Nat.min_eq_left h]
  conv => rhs; rw [← List.take_append_drop i (l.take j)]
  rw [uses_app, ← e]
  omega
theorem three_hits {l : List PE} {n : Int} {i j m : Nat} (h1 : i < j) (h2 : j < m) (a : hit l n i) (b : hit l n j) (c : hit l n m) : 3 ≤ uses l n := by
  have u1 := uses_take a
  have u2 := uses_take b
  have u3 := uses_take c
  have v1 := uses_mono (l := l) (n := n) (show i + 1 ≤ j from h1)
  have v2 := uses_mono (l := l) (n := n) (show j + 1 ≤ m from h2)
  have v3 : uses (l.take (m + 1)) n ≤ uses l n := by
    conv => rhs; rw [← List.take_append_drop (m + 1) l]
    rw [uses_app]; omega
  omega
theorem no_three {l : List PE} (h : vErr l = 0) {n : Int} {i j m : Nat} (a : hit l n i) (b : hit l n j) (c : hit l n m) (h1 : i ≠ j) (h2 : j ≠ m) (h3 : i ≠ m) : False := by
  have hu := uses_two h n
  have key : ∀ i j m : Nat, i < j → j < m → hit l n i → hit l n j → hit l n m → False := fun i j m h1 h2 a b c => by have := three_hits h1 h2 a b c; omega
  rcases Nat.lt_or_gt_of_ne h1 with h1 | h1 <;> rcases Nat.lt_or_gt_of_ne h2 with h2 | h2 <;> rcases Nat.lt_or_gt_of_ne h3 with h3 | h3
  · exact key _ _ _ h1 h2 a b c
  · omega
  · exact key _ _ _ h3 h2 a c b
  · exact key _ _ _ h3 h1 c a b
  · exact key _ _ _ h1 h3 b a c
  · exact key _ _ _ h2 h3 b c a
  · omega
  · exact key _ _ _ h2 h1 c b a
theorem nbGo_spec (i node : Int) : ∀ (r : List PE) (k : Nat), (nbGo i node r k = -1 ∧ ∀ j x, r[j]? = some x → ((k + j : Nat) : Int) ≠ i → node ∉ ends x) ∨ (∃ j x, r[j]? = some x ∧ nbGo i node r k = ((k + j : Nat) : Int) ∧ ((k + j : Nat) : Int) ≠ i ∧ node ∈ ends x) := by
  intro r
  induction r with
  | nil => intro k; left; exact ⟨rfl, by intro j x h; simp at h⟩
  | cons y t ih =>
    intro k
    unfold nbGo
    split
    · rename_i h
      right
      exact ⟨0, y, rfl, rfl, h.1, by simpa using h.2⟩
    · rename_i h
      rcases ih (k + 1) with ⟨h1, h2⟩ | ⟨j, x, h1, h2, h3, h4⟩
      · left
        refine ⟨h1, fun j x hx hi => ?_⟩
        rcases j with _ | j
        · simp at hx
          subst hx
          intro hm
          exact h ⟨hi, by simpa using hm⟩
        · exact h2 j x (by simpa using hx) (by rw [show k + 1 + j = k + (j + 1) by omega]; exact hi)
      · right
        exact ⟨j + 1, x, by simpa using h1, by rw [h2, show k + 1 + j = k + (j + 1) by omega], by rw [show k + (j + 1) = k + 1 + j by omega]; exact h3, h4⟩
theorem nb_spec (l : List PE) (i : Nat) (n : Int) : (nb l i n = -1 ∧ ∀ j, hit l n j → j = i) ∨ (∃ j : Nat, nb l i n = (j : Int) ∧ hit l n j ∧ j ≠ i) := by
  rcases nbGo_spec i n l 0 with ⟨h1, h2⟩ | ⟨j, x, h1, h2, h3, h4⟩
  · left
    refine ⟨h1, fun j hj => ?_⟩
    obtain ⟨x, hx, hn⟩ := hj
    by_cases e : j = i
    · exact e
    · exact absurd hn (h2 j x hx (by omega))
  · right
    exact ⟨j, by unfold nb; rw [h2]; simp, ⟨x, h1, h4⟩, by omega⟩
/-- The neighbour of a neighbour is the element itself. -/
theorem nb_nb {l : List PE} (h : vErr l = 0) {i : Nat} {n : Int} (hi : hit l n i) : nb l i n = -1 ∨ ∃ j : Nat, nb l i n = (j : Int) ∧ j ≠ i ∧ j < l.length ∧ nb l j n = (i : Int) := by
  rcases nb_spec l i n with ⟨h1, _⟩ | ⟨j, h1, h2, h3⟩
  · exact .inl h1
  · right
    have hjl : j < l.length := by
      obtain ⟨x, hx, _⟩ := h2
      exact (List.getElem?_eq_some_iff.1 hx).1
    refine ⟨j, h1, h3, hjl, ?_⟩
    rcases nb_spec l j n with ⟨_, g2⟩ | ⟨m, g1, g2, g3⟩
    · exact absurd (g2 i hi).symm h3
    · by_cases e : m = i
      · rw [g1, e]
      · exact (no_three h hi h2 g2 (Ne.symm h3) (Ne.symm g3) (Ne.symm e)).elim
theorem ends_sound {x : PE} (h : sound x = true) : (x.k = 2 ∧ ends x = [x.a, x.b, x.c] ∧ x.a ≠ x.b ∧ x.a ≠ x.c ∧ x.b ≠ x.c) ∨ (x.k ≠ 2 ∧ ends x = [x.a, x.b] ∧ x.a ≠ x.b) := by
  have hk := (sound_bd h).1
  have hnd : (ends x).Nodup := by
    simp only [sound, Bool.and_eq_true] at h
    exact ((nodes_iff _ _).1 h.1.2).2
  by_cases h2 : x.k = 2
  · left
    have he : ends x = [x.a, x.b, x.c] := by unfold ends; rw [if_neg (by omega), if_pos h2]
    rw [he] at hnd
    simp at hnd
    exact ⟨h2, he, hnd.1.1, hnd.1.2, hnd.2⟩
  · right
    have he : ends x = [x.a, x.b] := by unfold ends; rw [if_pos (by omega)]
    rw [he] at hnd
    simp at hnd
    exact ⟨h2, he, hnd⟩
/-- A way through an element, both ways. -/
theorem turns {x : PE} (h : sound x = true) {j : Nat} {e : Int} (he : (ends x)[j]? = some e) :
    1 ≤ (thruGo e (ends x)).length ∧ ((thruGo e (ends x)).length = 2 ↔ (x.k = 2 ∧ j = 0)) ∧ ∀ n ∈ thruGo e (ends x), n ≠ e ∧ e ∈ thruGo n (ends x) := by
  rcases ends_sound h with ⟨hk, hE, h1, h2, h3⟩ | ⟨hk, hE, h1⟩
  · rw [hE] at he ⊢
    have g1 := Ne.symm h1
    have g2 := Ne.symm h2
    have g3 := Ne.symm h3
    rcases j with _ | _ | _ | j
    · simp at he
      subst he
      simp [thruGo, *]
    · simp at he
      subst he
      simp [thruGo, *]
    · simp at he
      subst he
      simp [thruGo, *]
    · simp at he
  · rw [hE] at he ⊢
    have g1 := Ne.symm h1
    rcases j with _ | _ | j
    · simp at he
      subst he
      simp [thruGo, *]
    · simp at he
      subst he
      simp [thruGo, *]
    · simp at he
def tx1 : ByteArray := ⟨#[116, 114, 97, 99, 107, 32, 116, 49, 32, 48, 32, 49, 32, 53, 48, 48, 10, 115, 119, 105, 116, 99, 104, 32, 119, 49, 32, 49, 32, 50, 32, 51]⟩
def tx2 : ByteArray := ⟨#[116, 114, 97, 99, 107, 32, 116, 49, 32, 48, 32, 49, 32, 53, 48, 48, 10, 116, 114, 97, 99, 107, 32, 116, 32, 48, 32, 49]⟩
def pl1 : List PE := [⟨1, ⟨#[116, 49]⟩, 0, 1, 0, 500⟩, ⟨2, ⟨#[119, 49]⟩, 1, 2, 3, 0⟩]
theorem parse_tx1 : parse tx1 = (pl1, 0, 0) := by rfl
theorem parse_tx2 : parse tx2 = ([], 2, 6) := by rfl
theorem nb_pl1 : nb pl1 0 1 = 1 := by decide
theorem thru_pl1 : thru pl1 1 1 = [2, 3] := by decide
end Pl
end Go.Proofs.YtkkpkekkaoccbaaDoor
