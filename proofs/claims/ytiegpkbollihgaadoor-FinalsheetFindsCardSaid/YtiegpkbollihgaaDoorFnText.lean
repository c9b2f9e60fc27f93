/- Sheets of trains, plainly: what can be read is the text of what was read. -/
import Derived.Test.YtiegpkbollihgaaDoorFnPlain
namespace Go.Proofs.YtiegpkbollihgaaDoor
namespace Fn
theorem join_cut (c : UInt8) : ∀ l : List UInt8, joinC c (Tx.cutAt c l) = l := by
  intro l
  induction l with
  | nil => rfl
  | cons b r ih =>
    by_cases hb : b = c
    · subst hb
      rw [Tx.cut_hit]
      cases hc : Tx.cutAt b r with
      | nil => exact absurd hc (Tx.cutAt_ne _ _)
      | cons p t =>
        rw [hc] at ih
        show [] ++ b :: joinC b (p :: t) = _
        rw [ih]; rfl
    · rw [Tx.cut_miss hb]
      cases hc : Tx.cutAt c r with
      | nil => exact absurd hc (Tx.cutAt_ne _ _)
      | cons p t =>
        rw [hc] at ih
        cases t with
        | nil => show [b] ++ p = b :: r; rw [← ih]; rfl
        | cons q u => show ([b] ++ p) ++ c :: joinC c (q :: u) = b :: r; rw [← ih]; rfl
theorem cut_join (c : UInt8) : ∀ w : List (List UInt8), w ≠ [] → (∀ p ∈ w, c ∉ p) → Tx.cutAt c (joinC c w) = w := by
  intro w
  induction w with
  | nil => intro h; exact absurd rfl h
  | cons p t ih =>
    intro _ h
    cases t with
    | nil => exact Tx.cut_last c p (h p (by simp))
    | cons q u =>
      show Tx.cutAt c (p ++ c :: joinC c (q :: u)) = _
      rw [Tx.cut_word c p _ (h p (by simp)), ih (by simp) (fun x hx => h x (List.mem_cons_of_mem _ hx))]
theorem join_ended (c : UInt8) : ∀ P : List (List UInt8), joinC c (P ++ [[]]) = P.flatMap fun p => p ++ [c] := by
  intro P
  induction P with
  | nil => rfl
  | cons p t ih =>
    cases t with
    | nil => simp [joinC]
    | cons q u =>
      show p ++ c :: joinC c (q :: u ++ [[]]) = _
      rw [ih]
      simp
/- ### Numbers. -/
theorem dec_back : ∀ (k : Nat) (s : List UInt8), s.length = k + 1 → (∀ c ∈ s, digC c = true) → (s.headD 0 = 48 → s.length = 1) → Lib.decDigits (numV s) = s := by
  intro k
  induction k with
  | zero =>
    intro s hl hd _
    match s, hl with
    | [c], _ =>
      have h2 := hd c (by simp)
      simp only [digC, Bool.and_eq_true, decide_eq_true_eq] at h2
      have hv : numV [c] = c.toNat - 48 := by simp [numV]
      rw [hv, Lib.decDigits, dif_pos (by omega)]
      congr 1
      refine UInt8.toNat_inj.1 ?_
      rw [UInt8.toNat_ofNat_of_lt' (by rw [show UInt8.size = 256 from rfl]; omega)]
      omega
  | succ k ih =>
    intro s hl hd h0
    have hne : s ≠ [] := by intro e; rw [e] at hl; cases hl
    obtain ⟨p, c, rfl⟩ : ∃ p c, s = p ++ [c] := ⟨s.dropLast, s.getLast hne, (List.dropLast_concat_getLast hne).symm⟩
    have hpl : p.length = k + 1 := by simpa using hl
    have hh : (p ++ [c]).headD 0 = p.headD 0 := by
      cases p with
      | nil => simp at hpl
      | cons a r => rfl
    have h2 := hd c (by simp)
    simp only [digC, Bool.and_eq_true, decide_eq_true_eq] at h2
    have hp0 : p.headD 0 ≠ 48 := fun e => by have h9 := h0 (hh.trans e); rw [List.length_append, hpl] at h9; simp at h9
    have hi := ih p hpl (fun x hx => hd x (by simp [hx])) (fun e => absurd e hp0)
    have hpos : 0 < numV p := by
      rcases Nat.eq_zero_or_pos (numV p) with e | e
      · rw [e, Lib.decDigits, dif_pos (by omega)] at hi
        exact absurd (by rw [← hi]; rfl) hp0
      · exact e
    rw [numV_snoc, Lib.decDigits, dif_neg (by omega), show (10 * numV p + (c.toNat - 48)) / 10 = numV p by omega, hi, show (10 * numV p + (c.toNat - 48)) % 10 = c.toNat - 48 by omega]
    congr 2
    refine UInt8.toNat_inj.1 ?_
    rw [UInt8.toNat_ofNat_of_lt' (by rw [show UInt8.size = 256 from rfl]; omega)]
    omega
theorem nOk_itoa {s : List UInt8} (h : nOk s = true) : Lib.itoa (nVal s) = s := by
  unfold nOk at h
  simp only [Bool.and_eq_true, decide_eq_true_eq, Bool.not_eq_true', Bool.and_eq_false_iff, decide_eq_false_iff_not] at h
  obtain ⟨⟨⟨h1, _⟩, h3⟩, h4⟩ := h
  unfold nVal
  rw [Tx.itoa_dec (Int.natCast_nonneg _), Int.toNat_natCast]
  exact dec_back (s.length - 1) s (by omega) (List.all_eq_true.1 h4) (fun e => by rcases h3 with h3 | h3 <;> first | exact absurd e h3 | omega)
theorem nOk_of {n : Int} (h0 : 0 ≤ n) (h1 : n ≤ 9999999) : nOk (Lib.itoa n) = true ∧ nVal (Lib.itoa n) = n := by
  obtain ⟨u, rfl⟩ := Int.eq_ofNat_of_zero_le h0
  rw [Tx.itoa_dec h0, Int.toNat_natCast]
  have hl := Tx.dec_len 6 u (by omega)
  have hne := Tx.dec_ne u
  refine ⟨?_, by unfold nVal; rw [Tx.dec_val]⟩
  unfold nOk
  simp only [Bool.and_eq_true, decide_eq_true_eq, Bool.not_eq_true', Bool.and_eq_false_iff, decide_eq_false_iff_not]
  refine ⟨⟨⟨List.length_pos_iff.2 hne, by omega⟩, ?_⟩, List.all_eq_true.2 (Tx.dec_dig u)⟩
  rcases Nat.eq_zero_or_pos u with rfl | hp
  · right
    rw [Lib.decDigits, dif_pos (by decide)]
    decide
  · exact .inl (Tx.dec_head u hp)
theorem ints_some {w : List (List UInt8)} {l : List Int} (h : ints w = some l) : w = l.map Lib.itoa ∧ (∀ n ∈ l, 0 ≤ n) ∧ l.length = w.length := by
  unfold ints at h
  split at h
  · rename_i ha
    injection h with h
    subst h
    refine ⟨?_, ?_, by simp⟩
    · rw [List.map_map]
      conv => lhs; rw [← List.map_id w]
      refine List.map_congr_left fun s hs => ?_
      exact (nOk_itoa (List.all_eq_true.1 ha s hs)).symm
    · intro n hn
      obtain ⟨s, _, rfl⟩ := List.mem_map.1 hn
      exact Int.natCast_nonneg _
  · cases h
theorem ints_of {l : List Int} (h : ∀ n ∈ l, 0 ≤ n ∧ n ≤ 9999999) : ints (l.map Lib.itoa) = some l := by
  unfold ints
  rw [if_pos]
  · rw [List.map_map]
    congr 1
    conv => rhs; rw [← List.map_id l]
    refine List.map_congr_left fun n hn => ?_
    exact (nOk_of (h n hn).1 (h n hn).2).2
  · rw [List.all_eq_true]
    intro s hs
    obtain ⟨n, hn, rfl⟩ := List.mem_map.1 hs
    exact (nOk_of (h n hn).1 (h n hn).2).1
/- ### What can be read. -/
def takes : RS → List (List UInt8) → Option RS
  | r, [] => some r
  | r, p :: t => match take r (Tx.cutAt 32 p) with
    | none => none
    | some r' => takes r' t
/-- Where the last line begins. -/
def lastAt : List (List UInt8) → Nat → Nat → Nat
  | [], _, en => en
  | p :: t, at_, _ => lastAt t (at_ + p.length + 1) at_
theorem lastAt_snoc (p : List UInt8) : ∀ (P : List (List UInt8)) (at_ en : Nat), lastAt (P ++ [p]) at_ en = at_ + (P.flatMap fun q => q ++ [10]).length := by
  intro P
  induction P with
  | nil => intro at_ en; rfl
  | cons q t ih =>
    intro at_ en
    rw [List.cons_append, lastAt, ih]
    simp
    omega
theorem pGo_inv (s : List UInt8) : ∀ (L : List (List UInt8)) (k at_ en : Nat) (r : RS) (g : FN) (n : Int), pGo s L k at_ en r = (g, n, 0) →
    ∃ P r', L = P ++ [[]] ∧ takes r P = some r' ∧ r'.part = 3 ∧ (chkTo s (lastAt P at_ en) : Int) = r'.ck ∧ fErr r'.f = 0 ∧ g = r'.f ∧ n = 0 := by
  intro L
  induction L with
  | nil => intro k at_ en r g n h; simp [pGo] at h
  | cons p t ih =>
    intro k at_ en r g n h
    cases t with
    | nil =>
      rw [pGo] at h
      split at h
      · rename_i hp
        unfold fin at h
        split at h
        · simp at h
        · rename_i h1
          split at h
          · rename_i h2
            simp only [Prod.mk.injEq] at h
            exact absurd h.2.2 h2
          · rename_i h2
            simp only [Prod.mk.injEq] at h
            refine ⟨[], r, by rw [hp.1]; rfl, rfl, hp.2, (show (chkTo s en : Int) = r.ck by simpa using h1), by simpa using h2, h.1.symm, h.2.1.symm⟩
      · simp at h
    | cons q u =>
      rw [pGo] at h
      split at h
      · simp at h
      · rename_i r1 hr1
        obtain ⟨P, r', e, h1, h2⟩ := ih _ _ _ _ _ _ h
        refine ⟨p :: P, r', by rw [e]; rfl, ?_, h2⟩
        rw [takes, hr1]
        exact h1
theorem pGo_run (s : List UInt8) : ∀ (P : List (List UInt8)) (k at_ en : Nat) (r r' : RS), takes r P = some r' → r'.part = 3 → pGo s (P ++ [[]]) k at_ en r = fin s (k + P.length) (lastAt P at_ en) r' := by
  intro P
  induction P with
  | nil =>
    intro k at_ en r r' h h3
    injection h with h
    subst h
    show pGo s [[]] k at_ en r = _
    rw [pGo, if_pos ⟨rfl, h3⟩]
    rfl
  | cons p t ih =>
    intro k at_ en r r' h h3
    rw [takes] at h
    cases hr : take r (Tx.cutAt 32 p) with
    | none => rw [hr] at h; cases h
    | some r1 =>
      rw [hr] at h
      have e := ih (k + 1) (at_ + p.length + 1) at_ r1 r' h h3
      have e2 : pGo s (p :: (t ++ [[]])) k at_ en r = pGo s (t ++ [[]]) (k + 1) (at_ + p.length + 1) at_ r1 := by
        cases t with
        | nil => show pGo s (p :: [] :: []) k at_ en r = _; rw [pGo, hr]; rfl
        | cons q u => show pGo s (p :: q :: (u ++ [[]])) k at_ en r = _; rw [pGo, hr]; rfl
      rw [List.cons_append, e2, e, List.length_cons]
      congr 1
      omega
/-- What lines lead to a reader. -/
def Made (r : RS) (W : List (List (List UInt8))) : Prop :=
  (r = rs0 ∧ W = []) ∨ (r.part = 1 ∧ r.f.so = [] ∧ W = trainW r.f :: r.f.ws.map wagonW) ∨ (r.part = 2 ∧ r.f.bk.length = 7 ∧ W = bodyW r.f) ∨
  (r.part = 3 ∧ r.f.bk.length = 7 ∧ ∃ n : Nat, r.ck = (n : Int) ∧ W = bodyW r.f ++ [endW n])
theorem wagonB_some {w : List (List UInt8)} {x : WG} (h0 : wd w 0 = wWagon) (h : wagonB w = some x) : w = wagonW x := by
  unfold wagonB at h
  split at h
  · cases h
  · rename_i hc
    split at h
    · cases h
    · rename_i l hl
      injection h with h
      subst h
      obtain ⟨e, _, hll⟩ := ints_some hl
      simp only [not_or, not_and, Decidable.not_not] at hc
      obtain ⟨h9, _, _, h7⟩ := hc
      match w, h9 with
      | [a, b, c, d, e1, f, g, k, m], _ =>
        have hl5 : l.length = 5 := by rw [hll]; rfl
        match l, hl5 with
        | [n0, n1, n2, n3, n4], _ =>
          simp only [List.drop_succ_cons, List.drop_zero, List.take_succ_cons, List.take_zero, List.map_cons, List.map_nil, List.cons.injEq, and_true] at e
          obtain ⟨rfl, rfl, rfl, rfl, rfl⟩ := e
          have hk : gtW (decide (k = wGentle)) = k := by
            by_cases e : k = wGentle
            · rw [decide_eq_true e]; exact e.symm
            · rw [decide_eq_false e]; exact (h7 e).symm
          have h0' : a = wWagon := h0
          subst h0'
          simp only [wagonW, wagL, iAt, wd, List.getD_cons_zero, List.getD_cons_succ, List.map_cons, List.map_nil, baOf_data, hk]
          rfl
  
theorem take_made {r r' : RS} {W : List (List (List UInt8))} {w : List (List UInt8)} (h : Made r W) (ht : take r w = some r') : Made r' (W ++ [w]) := by
  unfold take at ht
  split at ht
  · rename_i hc
    injection ht with ht
    subst ht
    rcases h with ⟨rfl, rfl⟩ | ⟨h, _⟩ | ⟨h, _⟩ | ⟨h, _⟩
    · refine .inr (.inl ⟨rfl, rfl, ?_⟩)
      obtain ⟨_, h0, h2, _⟩ := hc
      match w, h2 with
      | [a, b], _ =>
        have h0' : a = wTrain := h0
        subst h0'
        rfl
    all_goals (rw [hc.1] at h; cases h)
  · split at ht
    · rename_i hc
      split at ht
      · cases ht
      · rename_i x hx
        injection ht with ht
        subst ht
        rcases h with ⟨rfl, rfl⟩ | ⟨h, hs, hW⟩ | ⟨h, _⟩ | ⟨h, _⟩
        · exact absurd hc.1 (by decide)
        · refine .inr (.inl ⟨h, hs, ?_⟩)
          rw [hW, wagonB_some hc.2 hx]
          simp [trainW]
        all_goals (rw [hc.1] at h; cases h)
    · split at ht
      · rename_i hc
        split at ht
        · cases ht
        · rename_i l hl
          injection ht with ht
          subst ht
          obtain ⟨e, _, hll⟩ := ints_some hl
          rcases h with ⟨rfl, rfl⟩ | ⟨h, hs, hW⟩ | ⟨h, _⟩ | ⟨h, _⟩
          · exact absurd hc.1 (by decide)
          · refine .inr (.inr (.inl ⟨rfl, by rw [hll]; simp [hc.2.2], ?_⟩))
            have hw : w = wBrakes :: l.map Lib.itoa := by
              rw [← e, ← hc.2.1]
              cases w with
              | nil => simp at hc
              | cons a t => rfl
            rw [hW, hw]
            simp [bodyW, trainW, brakesW, hs]
          all_goals (rw [hc.1] at h; cases h)
      · split at ht
        · rename_i hc
          split at ht
          · cases ht
          · rename_i l hl
            injection ht with ht
            subst ht
            obtain ⟨e, _, hll⟩ := ints_some hl
            rcases h with ⟨rfl, rfl⟩ | ⟨h, _⟩ | ⟨h, hb, hW⟩ | ⟨h, _⟩
            · exact absurd hc.1 (by decide)
            · rw [hc.1] at h; cases h
            · refine .inr (.inr (.inl ⟨h, hb, ?_⟩))
              have hl3 : l.length = 3 := by rw [hll]; simp [hc.2.2]
              match l, hl3 with
              | [a, b, c], _ =>
                have hw : w = setoutW ⟨a, b, c⟩ := by
                  show w = wSetout :: ([a, b, c]).map Lib.itoa
                  rw [← e, ← hc.2.1]
                  cases w with
                  | nil => simp at hc
                  | cons a t => rfl
                rw [hW, hw]
                simp [bodyW, trainW, brakesW, iAt]
            · rw [hc.1] at h; cases h
        · split at ht
          · rename_i hc
            split at ht
            · cases ht
            · rename_i l hl
              injection ht with ht
              subst ht
              obtain ⟨e, hnn, hll⟩ := ints_some hl
              rcases h with ⟨rfl, rfl⟩ | ⟨h, _⟩ | ⟨h, hb, hW⟩ | ⟨h, _⟩
              · exact absurd hc.1 (by decide)
              · rw [hc.1] at h; cases h
              · have hl1 : l.length = 1 := by rw [hll]; simp [hc.2.2]
                match l, hl1 with
                | [a], _ =>
                  obtain ⟨n, rfl⟩ := Int.eq_ofNat_of_zero_le (hnn a (by simp))
                  refine .inr (.inr (.inr ⟨rfl, hb, n, rfl, ?_⟩))
                  have hw : w = endW n := by
                    show w = wEnd :: ([(n : Int)]).map Lib.itoa
                    rw [← e, ← hc.2.1]
                    cases w with
                    | nil => simp at hc
                    | cons a t => rfl
                  rw [hW, hw]
              · rw [hc.1] at h; cases h
          · cases ht
theorem takes_made : ∀ (P : List (List UInt8)) (r r' : RS) (W : List (List (List UInt8))), Made r W → takes r P = some r' → Made r' (W ++ P.map (Tx.cutAt 32)) := by
  intro P
  induction P with
  | nil => intro r r' W h ht; injection ht with ht; subst ht; simpa using h
  | cons p t ih =>
    intro r r' W h ht
    rw [takes] at ht
    cases hr : take r (Tx.cutAt 32 p) with
    | none => rw [hr] at ht; cases ht
    | some r1 =>
      rw [hr] at ht
      have := ih r1 r' _ (take_made h hr) ht
      simpa using this
theorem map_join (P : List (List UInt8)) : (P.map (Tx.cutAt 32)).map join = P := by
  rw [List.map_map]
  conv => rhs; rw [← List.map_id P]
  exact List.map_congr_left fun p _ => join_cut 32 p
theorem ended_map (P : List (List UInt8)) : ended (P.map (Tx.cutAt 32)) = P.flatMap fun p => p ++ [10] := by
  unfold ended
  rw [List.flatMap_map]
  congr 1
  funext p
  rw [show join (Tx.cutAt 32 p) = p from join_cut 32 p]
/-- What can be read is the text of what was read. -/
theorem parse_back {s : ByteArray} {g : FN} {n : Int} (h : parse s = (g, n, 0)) : fErr g = 0 ∧ s.data.toList = fmtL g ∧ g.bk.length = 7 ∧ n = 0 := by
  unfold parse at h
  split at h
  · simp at h
  · obtain ⟨P, r', hL, ht, h3, hck, hv, rfl, hn⟩ := pGo_inv _ _ _ _ _ _ _ _ h
    have hm := takes_made P rs0 r' [] (.inl ⟨rfl, rfl⟩) ht
    rw [List.nil_append] at hm
    have hs : s.data.toList = P.flatMap fun p => p ++ [10] := by
      rw [← join_ended, ← hL, join_cut]
    rcases hm with ⟨rfl, _⟩ | ⟨h, _⟩ | ⟨h, _⟩ | ⟨_, hb, n, hn', hW⟩
    · exact absurd h3 (by decide)
    · rw [h3] at h; cases h
    · rw [h3] at h; cases h
    · have hse : s.data.toList = body r'.f ++ (join (endW n) ++ [10]) := by
        rw [hs, ← ended_map, hW]
        simp [ended, body]
      have hP : P = (bodyW r'.f).map join ++ [join (endW n)] := by
        rw [← map_join P, hW]
        simp
      have hat : lastAt P 0 0 = (body r'.f).length := by
        rw [hP, lastAt_snoc, Nat.zero_add]
        congr 1
        unfold body ended
        rw [List.flatMap_map]
      rw [hat] at hck
      have hc2 : chk (body r'.f) = n := by
        have : chkTo s.data.toList (body r'.f).length = chk (body r'.f) := by
          unfold chk
          rw [← chkTo_take s.data.toList _ _ (Nat.le_refl _)]
          rw [hse, List.take_left']
          rfl
        omega
      refine ⟨hv, ?_, hb, hn⟩
      rw [hse]
      unfold fmtL
      rw [hc2]
end Fn
end Go.Proofs.YtiegpkbollihgaaDoor
