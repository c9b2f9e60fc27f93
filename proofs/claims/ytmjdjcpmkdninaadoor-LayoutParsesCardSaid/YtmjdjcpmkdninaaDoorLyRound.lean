/- The text of a layout is read as the layout, plainly. -/
import Derived.Test.YtmjdjcpmkdninaaDoorLyText
namespace Go.Proofs.YtmjdjcpmkdninaaDoor
namespace Ly
theorem sound_nm {x : LE} (h : sound x = true) : Pl.nameOk x.nm = true := by
  simp only [sound, Bool.and_eq_true] at h
  exact h.1
theorem nameOk_size {s : ByteArray} (h : Pl.nameOk s = true) : 1 ≤ s.size ∧ s.size ≤ 12 := by
  simp only [Pl.nameOk, Bool.and_eq_true, decide_eq_true_eq] at h
  exact h.1
theorem nm_not {s : ByteArray} (h : Pl.nameOk s = true) {c : UInt8} (hc : c.toNat < 48 ∨ c.toNat = 58) : c ∉ s.data.toList := by
  intro hm
  simp only [Pl.nameOk, Bool.and_eq_true, decide_eq_true_eq] at h
  have := List.all_eq_true.1 h.2 c hm
  simp only [Pl.nameC, Bool.or_eq_true, Bool.and_eq_true, decide_eq_true_eq] at this
  omega
theorem nm_ne {s : ByteArray} (h : Pl.nameOk s = true) : s.data.toList ≠ [] := by
  have h1 := (nameOk_size h).1
  have h2 : s.data.toList.length = s.size := by simp
  intro e
  rw [e] at h2
  simp at h2; omega
theorem sound_bd {x : LE} (h : sound x = true) : (0 ≤ x.k ∧ x.k ≤ 4) ∧ (x.k = 0 → x = ⟨0, x.nm, -1, 0, 0, 0, 0, 0⟩) ∧ (x.k ≠ 0 → (1 ≤ x.len ∧ x.len ≤ 1000000) ∧ (-10000 ≤ x.g ∧ x.g ≤ 10000) ∧ (0 ≤ x.c ∧ x.c ≤ 5000) ∧ (0 ≤ x.sd ∧ x.sd ≤ 2) ∧ (x.k = 2 → 1 ≤ x.pw ∧ x.pw ≤ 1000000000) ∧ (x.k ≠ 2 → x.pw = 0)) := by
  simp only [sound, Bool.and_eq_true] at h
  obtain ⟨_, h⟩ := h
  by_cases hk : x.k = 0
  · rw [if_pos hk] at h
    simp only [crestOk, Bool.and_eq_true, decide_eq_true_eq] at h
    refine ⟨by omega, fun _ => ?_, fun hn => absurd hk hn⟩
    obtain ⟨k, nm, p, sd, len, g, c, pw⟩ := x
    simp only at h hk
    simp only [LE.mk.injEq, true_and]
    omega
  · rw [if_neg hk] at h
    simp only [restOk, Bool.and_eq_true, decide_eq_true_eq] at h
    refine ⟨by omega, fun e => absurd e hk, fun _ => ⟨by omega, by omega, by omega, by omega, fun h2 => ?_, fun h2 => ?_⟩⟩
    · have := h.2
      rw [if_pos h2] at this
      simpa using this
    · have := h.2
      rw [if_neg h2] at this
      simpa using this
theorem words_nums (L : List Int) : ∀ p : List UInt8, (32 : UInt8) ∉ p → p ≠ [] → Tx.words (p ++ L.flatMap sp) = p :: L.map Lib.itoa := by
  induction L with
  | nil => intro p hp hn; simp only [List.flatMap_nil, List.append_nil, List.map_nil]; exact Tx.words_one p hp hn
  | cons n r ih =>
    intro p hp hn
    rw [List.flatMap_cons, sp, List.cons_append, Tx.words_cons p _ hp hn, ih (Lib.itoa n) (fun hm => by have := Tx.itoa_no hm; exact absurd this (by decide)) (Tx.itoa_ne n), List.map_cons]
theorem kind_cases {k : Int} (h : 0 ≤ k ∧ k ≤ 4) : k = 0 ∨ k = 1 ∨ k = 2 ∨ k = 3 ∨ k = 4 := by omega
theorem kindW_lets {k : Int} (h : 0 ≤ k ∧ k ≤ 4) : kindW k ≠ [] ∧ ∀ c ∈ kindW k, 97 ≤ c.toNat := by
  rcases kind_cases h with rfl | rfl | rfl | rfl | rfl <;> exact ⟨by decide, by decide⟩
theorem kindOf_W {k : Int} (h : 0 ≤ k ∧ k ≤ 4) : kindOf (kindW k) = some k := by
  rcases kind_cases h with rfl | rfl | rfl | rfl | rfl <;> rfl
theorem suf_no {sd : Int} : ∀ c ∈ sufW sd, 58 ≤ c.toNat := by
  unfold sufW
  split
  · decide
  · split <;> decide
/-- The words of the line of an element. -/
theorem words_body {l : List LE} {x : LE} (h : sound x = true) (hp : x.k ≠ 0 → ∃ y, l[x.p.toNat]? = some y ∧ Pl.nameOk y.nm = true) :
    Tx.words (bodyF l x) = kindW x.k :: x.nm.data.toList :: (if x.k = 0 then [] else (nmAt l x.p ++ sufW x.sd) :: (nums x).map Lib.itoa) := by
  have hk := (sound_bd h).1
  have h1 := kindW_lets hk
  have hn := sound_nm h
  unfold bodyF
  rw [Tx.words_cons _ _ (fun hm => by have := h1.2 _ hm; exact absurd this (by decide)) h1.1]
  by_cases h0 : x.k = 0
  · rw [if_pos h0, if_pos h0, List.append_nil, Tx.words_one _ (nm_not hn (by decide)) (nm_ne hn)]
  · rw [if_neg h0, if_neg h0, Tx.words_cons _ _ (nm_not hn (by decide)) (nm_ne hn)]
    obtain ⟨y, hy, hyn⟩ := hp h0
    have e : nmAt l x.p = y.nm.data.toList := by unfold nmAt; rw [hy]
    rw [← List.append_assoc, words_nums _ _ _ _, e]
    · rw [e, List.mem_append, not_or]
      exact ⟨nm_not hyn (by decide), fun hm => by have := suf_no _ hm; exact absurd this (by decide)⟩
    · rw [e]
      intro he
      exact nm_ne hyn (List.append_eq_nil_iff.1 he).1
theorem sufOf_nm {s : List UInt8} (hs : (58 : UInt8) ∉ s) (hne : s ≠ []) {sd : Int} (h : 0 ≤ sd ∧ sd ≤ 2) : sufOf (s ++ sufW sd) = (s, sd) := by
  have hpos := List.length_pos_iff.2 hne
  have h3 : sd = 0 ∨ sd = 1 ∨ sd = 2 := by omega
  rcases h3 with rfl | rfl | rfl
  · have e : s ++ sufW 0 = s := by simp [sufW]
    rw [e]
    unfold sufOf
    rw [if_neg, if_neg]
    · rintro ⟨_, h2⟩
      exact hs (List.mem_of_mem_drop (by rw [h2]; decide))
    · rintro ⟨_, h2⟩
      exact hs (List.mem_of_mem_drop (by rw [h2]; decide))
  · have e : sufW 1 = left := rfl
    rw [e]
    have hl : (s ++ left).length = s.length + 5 := by rw [List.length_append]; rfl
    unfold sufOf
    rw [hl, Nat.add_sub_cancel, if_pos ⟨by omega, List.drop_left⟩, List.take_left]
  · have e : sufW 2 = right := rfl
    rw [e]
    have hl : (s ++ right).length = s.length + 6 := by rw [List.length_append]; rfl
    unfold sufOf
    rw [hl, if_neg, Nat.add_sub_cancel, if_pos ⟨by omega, List.drop_left⟩, List.take_left]
    rintro ⟨_, h2⟩
    rw [show s.length + 6 - 5 = s.length + 1 by omega, List.drop_append, List.drop_of_length_le (by omega), show s.length + 1 - s.length = 1 by omega] at h2
    exact absurd h2 (by decide)
theorem idxGo_at (s : List UInt8) : ∀ (r : List LE) (a j : Nat) (y : LE), r[j]? = some y → y.nm.data.toList = s → (∀ i z, i < j → r[i]? = some z → z.nm.data.toList ≠ s) → idxGo s r a = some (a + j) := by
  intro r
  induction r with
  | nil => intro a j y h; simp at h
  | cons z t ih =>
    intro a j y hy hs hn
    unfold idxGo
    rcases j with _ | j
    · simp at hy
      subst hy
      rw [if_pos hs]; rfl
    · rw [if_neg (hn 0 z (by omega) rfl), ih (a + 1) j y (by simpa using hy) hs (fun i q hi hq => hn (i + 1) q (by omega) (by simpa using hq))]
      congr 1; omega
/-- No two elements have the same name. -/
theorem Fits.names {l : List LE} (h : Fits l) {i j : Nat} {x y : LE} (hij : i < j) (hx : l[i]? = some x) (hy : l[j]? = some y) : x.nm ≠ y.nm := by
  have h1 := (fitE_parts (h j y hy)).2.2.1
  intro e
  unfold named at h1
  rw [List.any_eq_false] at h1
  refine h1 x (List.mem_of_getElem? (i := i) ?_) (by simpa using e)
  rw [List.getElem?_take, if_pos hij]
  exact hx
theorem nm_ext {a b : ByteArray} (h : a.data.toList = b.data.toList) : a = b := by
  cases a; cases b
  congr 1
  exact Array.toList_inj.1 h
theorem Fits.snd {l : List LE} (h : Fits l) {i : Nat} {x : LE} (hx : l[i]? = some x) : sound x = true := (fitE_parts (h i x hx)).1
theorem Fits.first {l : List LE} (h : Fits l) {i : Nat} {x : LE} (hx : l[i]? = some x) : x.k = 0 ↔ i = 0 := by
  have hl := (List.getElem?_eq_some_iff.1 hx).1
  rw [(fitE_parts (h i x hx)).2.1]
  constructor
  · intro e
    have := congrArg List.length e
    rw [List.length_take, List.length_nil, Nat.min_eq_left (by omega)] at this
    exact this
  · rintro rfl; rfl
theorem Fits.par {l : List LE} (h : Fits l) {i : Nat} {x : LE} (hx : l[i]? = some x) (hk : x.k ≠ 0) : ∃ y, l[x.p.toNat]? = some y ∧ Pl.nameOk y.nm = true := by
  have hi : 1 ≤ i := by
    rcases Nat.eq_zero_or_pos i with h0 | h0
    · exact absurd ((h.first hx).2 h0) hk
    · exact h0
  obtain ⟨y, hy, _⟩ := h.behind hi hx
  exact ⟨y, hy, sound_nm (h.snd hy)⟩
theorem elem_body {l : List LE} (h : Fits l) {i : Nat} {x : LE} (hx : l[i]? = some x) : elemB (l.take i) (Tx.words (bodyF l x)) = .inr x := by
  have hs := h.snd hx
  obtain ⟨hk, hcrest, hrest⟩ := sound_bd hs
  rw [words_body hs (fun hk => h.par hx hk)]
  have hnm : baOf x.nm.data.toList = x.nm := rfl
  unfold elemB
  have hw0 : ∀ r, wd (kindW x.k :: r) 0 = kindW x.k := fun r => rfl
  rw [hw0, kindOf_W hk]
  by_cases h0 : x.k = 0
  · rw [if_pos h0]
    have hok : Pl.nameOk (baOf (wd [kindW x.k, x.nm.data.toList] 1)) = true := sound_nm hs
    have e := hcrest h0
    show (if [kindW x.k, x.nm.data.toList].length ≠ wantW x.k then _ else _) = _
    rw [if_neg (by rw [h0]; exact fun h => h rfl), if_neg (show ¬ ((List.drop 3 [kindW x.k, x.nm.data.toList]).any fun s => (Tx.numZ s).isNone) = true from fun h => Bool.false_ne_true h), if_neg (show ¬ ((List.drop 3 [kindW x.k, x.nm.data.toList]).any fun s => Tx.numZ s == some none) = true from fun h => Bool.false_ne_true h), if_neg (by rw [hok]; decide), if_pos h0]
    exact congrArg Sum.inr e.symm
  · rw [if_neg h0]
    obtain ⟨⟨l0, l1⟩, ⟨g0, g1⟩, ⟨c0, c1⟩, hsd, hpw, hpw0⟩ := hrest h0
    have hi : 1 ≤ i := by
      rcases Nat.eq_zero_or_pos i with h0' | h0'
      · exact absurd ((h.first hx).2 h0') h0
      · exact h0'
    obtain ⟨y, hy, hp0, hp1, _⟩ := h.behind hi hx
    have hyn := sound_nm (h.snd hy)
    have hna : nmAt l x.p = y.nm.data.toList := by unfold nmAt; rw [hy]
    have hso := sufOf_nm (nm_not hyn (by decide)) (nm_ne hyn) hsd
    have hidx : idxGo y.nm.data.toList (l.take i) 0 = some x.p.toNat := by
      have := idxGo_at y.nm.data.toList (l.take i) 0 x.p.toNat y (by rw [List.getElem?_take, if_pos (by omega)]; exact hy) rfl (fun j z hj hz e => by
        rw [List.getElem?_take, if_pos (by omega)] at hz
        exact h.names hj hz hy (nm_ext e))
      simpa using this
    have z1 := Tx.numZ_itoa (n := x.len) (by omega) (by omega)
    have z2 := Tx.numZ_itoa (n := x.g) (by omega) (by omega)
    have z3 := Tx.numZ_itoa (n := x.c) (by omega) (by omega)
    rw [hna]
    have hpp : ((x.p.toNat : Nat) : Int) = x.p := by omega
    by_cases h2 : x.k = 2
    · have z4 := Tx.numZ_itoa (n := x.pw) (by have := hpw h2; omega) (by have := hpw h2; omega)
      have hn : nums x = [x.len, x.g, x.c, x.pw] := by unfold nums; rw [if_pos h2]; rfl
      rw [hn]
      simp only [List.map_cons, List.map_nil, List.length_cons, List.length_nil, List.drop_succ_cons, List.drop_zero, List.any_cons, List.any_nil, z1, z2, z3, z4, wd, nv, List.getD_cons_succ, List.getD_cons_zero, hso, hidx, hnm, sound_nm hs, hpp]
      simp [wantW, h2]
      obtain ⟨k, nm, p, sd, len, g, c, pw⟩ := x
      simp only at h2
      simp [h2]
    · have hn : nums x = [x.len, x.g, x.c] := by unfold nums; rw [if_neg h2]; rfl
      rw [hn]
      simp only [List.map_cons, List.map_nil, List.length_cons, List.length_nil, List.drop_succ_cons, List.drop_zero, List.any_cons, List.any_nil, z1, z2, z3, wd, nv, List.getD_cons_succ, List.getD_cons_zero, hso, hidx, hnm, sound_nm hs, hpp]
      have := hpw0 h2
      simp [wantW, h2, h0]
      obtain ⟨k, nm, p, sd, len, g, c, pw⟩ := x
      simp only at this
      simp [this]
theorem nmAt_par {l : List LE} {x y : LE} (hy : l[x.p.toNat]? = some y) : nmAt l x.p = y.nm.data.toList := by unfold nmAt; rw [hy]
theorem body_parts {l : List LE} (h : Fits l) {i : Nat} {x : LE} (hx : l[i]? = some x) : ∃ q : List UInt8, bodyF l x = kindW x.k ++ 32 :: (x.nm.data.toList ++ q) ∧ (x.k = 0 → q = []) ∧ (x.k ≠ 0 → ∃ y, Pl.nameOk y.nm = true ∧ q = 32 :: ((y : LE).nm.data.toList ++ (sufW x.sd ++ (nums x).flatMap sp))) := by
  refine ⟨_, rfl, fun h0 => by rw [if_pos h0], fun h0 => ?_⟩
  obtain ⟨y, hy, hn⟩ := h.par hx h0
  exact ⟨y, hn, by rw [if_neg h0, nmAt_par hy]⟩
theorem flat_no10 (L : List Int) : (10 : UInt8) ∉ L.flatMap sp := by
  intro hm
  obtain ⟨n, _, hc⟩ := List.mem_flatMap.1 hm
  rw [sp, List.mem_cons] at hc
  rcases hc with hc | hc
  · exact absurd hc (by decide)
  · have := Tx.itoa_no hc
    exact absurd this (by decide)
theorem body_no10 {l : List LE} (h : Fits l) {i : Nat} {x : LE} (hx : l[i]? = some x) : (10 : UInt8) ∉ bodyF l x := by
  have hs := h.snd hx
  obtain ⟨q, e, h0, h1⟩ := body_parts h hx
  rw [e]
  simp only [List.mem_append, List.mem_cons, not_or]
  refine ⟨fun hm => ?_, by decide, nm_not (sound_nm hs) (by decide), ?_⟩
  · have := (kindW_lets (sound_bd hs).1).2 _ hm
    exact absurd this (by decide)
  · by_cases hk : x.k = 0
    · rw [h0 hk]; simp
    · obtain ⟨y, hn, eq⟩ := h1 hk
      rw [eq]
      simp only [List.mem_append, List.mem_cons, not_or]
      exact ⟨by decide, nm_not hn (by decide), fun hm => by have := suf_no _ hm; exact absurd this (by decide), flat_no10 _⟩
theorem cut_fmt (F : LE → List UInt8) : ∀ M : List LE, (∀ x ∈ M, (10 : UInt8) ∉ F x) → Tx.cutAt 10 (M.flatMap fun x => F x ++ [10]) = M.map F ++ [[]] := by
  intro M
  induction M with
  | nil => intro _; rfl
  | cons x r ih =>
    intro h
    rw [List.flatMap_cons, List.append_assoc]
    show Tx.cutAt 10 (F x ++ 10 :: (r.flatMap fun x => F x ++ [10])) = _
    rw [Tx.cut_word 10 _ _ (h x (by simp)), ih (fun y hy => h y (by simp [hy]))]
    rfl
theorem mem_at {l : List LE} {x : LE} (h : x ∈ l) : ∃ i : Nat, l[i]? = some x := List.mem_iff_getElem?.1 h
theorem lines_fmt {l : List LE} (h : Fits l) : Tx.cutAt 10 (fmtL l) = l.map (bodyF l) ++ [[]] :=
  cut_fmt (bodyF l) l (fun x hx => by obtain ⟨i, hi⟩ := mem_at hx; exact body_no10 h hi)
theorem skip_body {l : List LE} (h : Fits l) {i : Nat} {x : LE} (hx : l[i]? = some x) : skip (Tx.words (bodyF l x)) = false := by
  have hs := h.snd hx
  rw [words_body hs (fun hk => h.par hx hk)]
  unfold skip
  have hw0 : ∀ r, wd (kindW x.k :: r) 0 = kindW x.k := fun r => rfl
  rw [hw0]
  have hk := (sound_bd hs).1
  rcases kind_cases hk with e | e | e | e | e <;> rw [e] <;> rfl
theorem parseGo_bodies {l : List LE} (h : Fits l) : ∀ (m i : Nat), m = l.length - i → i ≤ l.length → parseGo ((l.drop i).map (bodyF l)) i (l.take i) = .inr l := by
  intro m
  induction m with
  | zero =>
    intro i hm hi
    rw [List.drop_of_length_le (by omega), List.take_of_length_le (by omega)]
    rfl
  | succ m ih =>
    intro i hm hi
    have hx : l[i]? = some l[i] := List.getElem?_eq_getElem (by omega)
    rw [List.drop_eq_getElem_cons (by omega), List.map_cons, parseGo, if_neg (by rw [skip_body h hx]; decide), elem_body h hx]
    have e : l.take i ++ [l[i]] = l.take (i + 1) := by rw [List.take_add_one, hx]; rfl
    simp only
    rw [e]
    exact ih (i + 1) (by omega) (by omega)
theorem parseGo_blank (r : List (List UInt8)) (i : Nat) (l : List LE) : parseGo ([] :: r) i l = parseGo r (i + 1) l := by
  rw [parseGo, if_pos (by decide)]
theorem parseGo_fmt {l : List LE} (h : Fits l) : parseGo (l.map (bodyF l) ++ [[]]) 0 [] = .inr l := by
  have h1 := parseGo_bodies h l.length 0 rfl (Nat.zero_le _)
  rw [List.drop_zero, List.take_zero] at h1
  rw [parseGo_app _ [[]] 0 [] l h1, parseGo_blank]
  rfl
theorem body_len {l : List LE} (h : Fits l) {i : Nat} {x : LE} (hx : l[i]? = some x) : (bodyF l x).length + 1 ≤ 128 := by
  have hs := h.snd hx
  obtain ⟨hk, _, hrest⟩ := sound_bd hs
  obtain ⟨q, e, h0, h1⟩ := body_parts h hx
  have hn := (nameOk_size (sound_nm hs)).2
  have hnl : x.nm.data.toList.length = x.nm.size := by simp
  have hkl : (kindW x.k).length ≤ 8 := by rcases kind_cases hk with e | e | e | e | e <;> rw [e] <;> decide
  have hq : q.length ≤ 50 := by
    by_cases hk0 : x.k = 0
    · rw [h0 hk0]; simp
    · obtain ⟨y, hyn, eq⟩ := h1 hk0
      obtain ⟨⟨l0, l1⟩, ⟨g0, g1⟩, ⟨c0, c1⟩, _, hpw, hpw0⟩ := hrest hk0
      have hy := (nameOk_size hyn).2
      have hyl : y.nm.data.toList.length = y.nm.size := by simp
      have hsl : (sufW x.sd).length ≤ 6 := by unfold sufW; split <;> (try split) <;> decide
      have a1 := Tx.itoa_len (n := x.len) (k := 6) (by omega) (by omega)
      have a2 := Tx.itoa_len_neg (n := x.g) (k := 4) (by omega)
      have a3 := Tx.itoa_len (n := x.c) (k := 3) (by omega) (by omega)
      have hfl : ((nums x).flatMap sp).length ≤ 31 := by
        unfold nums
        by_cases h2 : x.k = 2
        · have a4 := Tx.itoa_len (n := x.pw) (k := 9) (by have := hpw h2; omega) (by have := hpw h2; omega)
          rw [if_pos h2]
          simp only [List.flatMap_cons, List.flatMap_nil, List.length_append, List.length_nil, sp, List.length_cons, List.cons_append, List.nil_append]
          omega
        · rw [if_neg h2]
          simp only [List.flatMap_cons, List.flatMap_nil, List.length_append, sp, List.length_cons, List.cons_append, List.append_nil]
          omega
      rw [eq]
      simp only [List.length_cons, List.length_append]
      omega
  rw [e]
  simp only [List.length_append, List.length_cons]
  omega
theorem flat_len (F : LE → List UInt8) : ∀ M : List LE, (∀ x ∈ M, (F x).length + 1 ≤ 128) → (M.flatMap fun x => F x ++ [10]).length ≤ 128 * M.length := by
  intro M
  induction M with
  | nil => intro _; simp
  | cons x r ih =>
    intro h
    have h1 := h x (by simp)
    have h2 := ih (fun y hy => h y (by simp [hy]))
    simp only [List.flatMap_cons, List.length_append, List.length_cons, List.length_nil]
    omega
theorem fmtL_len {l : List LE} (h : Fits l) : (fmtL l).length ≤ 128 * l.length :=
  flat_len (bodyF l) l (fun x hx => by obtain ⟨i, hi⟩ := mem_at hx; exact body_len h hi)
theorem baOf_size (l : List UInt8) : (baOf l).size = l.length := by simp [baOf, ByteArray.size]
theorem parse_fmt {l : List LE} (h : vErr l = 0) : parse (baOf (fmtL l)) = (l, 0, 0) := by
  obtain ⟨h1, _, h3, _⟩ := vErr_zero h
  have hl := fmtL_len h3
  unfold parse
  rw [baOf_size, if_neg (by omega), baOf_data, lines_fmt h3, parseGo_fmt h3]
  simp only [fin, h, if_true]
theorem fmt_ok {l : List LE} (h : vErr l = 0) : fmt l = (fmtL l, 0) := by unfold fmt; rw [if_pos h]
end Ly
end Go.Proofs.YtmjdjcpmkdninaaDoor
