/- Sheets of trains, plainly: the text of a sheet is read as it was written. -/
import Derived.Test.YtiegpkbollihgaaDoorFnText
namespace Go.Proofs.YtiegpkbollihgaaDoor
namespace Fn
theorem nameC_plain {b : UInt8} (h : Pl.nameC b = true) : plainC b = true := by
  unfold Pl.nameC at h
  unfold plainC
  simp only [Bool.and_eq_true, Bool.or_eq_true, decide_eq_true_eq] at h ⊢
  omega
theorem plain_no {s : List UInt8} (h : plainW s = true) {c : UInt8} (hc : c.toNat < 33) : c ∉ s := by
  unfold plainW at h
  rw [Bool.and_eq_true, List.all_eq_true] at h
  intro hm
  have := h.1 c hm
  unfold plainC at this
  simp only [Bool.and_eq_true, decide_eq_true_eq] at this
  omega
theorem name_plain {s : ByteArray} (h : Pl.nameOk s = true) : plainW s.data.toList = true := by
  unfold Pl.nameOk at h
  simp only [Bool.and_eq_true, decide_eq_true_eq] at h
  unfold plainW
  rw [Bool.and_eq_true, List.all_eq_true]
  refine ⟨fun b hb => nameC_plain (List.all_eq_true.1 h.2 b hb), ?_⟩
  have : 0 < s.data.toList.length := by have := h.1.1; simp; omega
  cases hs : s.data.toList with
  | nil => rw [hs] at this; cases this
  | cons a r => rfl
theorem kErr_plain {s : ByteArray} (h : kErr s = 0) : plainW s.data.toList = true := by
  unfold kErr at h
  split at h
  · cases h
  · rename_i h1
    rw [Decidable.not_not] at h1
    unfold plainW
    rw [Bool.and_eq_true, List.all_eq_true]
    refine ⟨fun b hb => ?_, ?_⟩
    · have := List.all_eq_true.1 h1.2 b hb
      unfold digC at this
      unfold plainC
      simp only [Bool.and_eq_true, decide_eq_true_eq] at this ⊢
      omega
    · have : 0 < s.data.toList.length := by have := h1.1; simp; omega
      cases hs : s.data.toList with
      | nil => rw [hs] at this; cases this
      | cons a r => rfl
theorem wErr_zero {x : WG} (h : wErr x = 0) : kErr x.nu = 0 ∧ x.ax = axK (kindN x.nu) ∧ rangeOk x = true ∧ Pl.nameOk x.de = true := by
  unfold wErr at h
  split at h
  · exact absurd h ‹_›
  · rename_i h1
    split at h
    · cases h
    · rename_i h2
      split at h
      · cases h
      · rename_i h3
        split at h
        · cases h
        · rename_i h4
          exact ⟨by simpa using h1, by simpa using h2, by simpa using h3, by simpa using h4⟩
theorem wsGo_zero : ∀ (r prev : List WG), wsGo r prev = 0 → ∀ x ∈ r, wErr x = 0 := by
  intro r
  induction r with
  | nil => intro _ _ x hx; cases hx
  | cons y t ih =>
    intro prev h x hx
    unfold wsGo at h
    split at h
    · exact absurd h ‹_›
    · rename_i h1
      rcases List.mem_cons.1 hx with rfl | hx
      · simp only [ne_eq, Decidable.not_not] at h1
        unfold fitW at h1
        split at h1
        · exact absurd h1 ‹_›
        · rename_i h2
          simpa using h2
      · exact ih _ h x hx
theorem fErr_zero {f : FN} (h : fErr f = 0) : Pl.nameOk f.nm = true ∧ f.ws.length ≤ 96 ∧ (∀ x ∈ f.ws, wErr x = 0) ∧ f.so.length ≤ 16 ∧ ∀ n ∈ nums f, 0 ≤ n ∧ n ≤ 1000000 := by
  unfold fErr at h
  split at h
  · cases h
  · rename_i h1
    split at h
    · exact absurd h ‹_›
    · rename_i h2
      split at h
      · cases h
      · rename_i h3
        split at h
        · cases h
        · rename_i h4
          simp only [ne_eq, Decidable.not_not] at h2
          unfold wsErr at h2
          split at h2
          · cases h2
          · rename_i h5
            refine ⟨by simpa using h1, by omega, wsGo_zero _ _ h2, by omega, fun n hn => ?_⟩
            have h4' : (nums f).all inside = true := by simpa using h4
            have := List.all_eq_true.1 h4' n hn
            unfold inside at this
            simpa using this
theorem wag_nums {x : WG} (h : wErr x = 0) : ∀ n ∈ wagL x, 0 ≤ n ∧ n ≤ 9999999 := by
  obtain ⟨_, h2, h3, _⟩ := wErr_zero h
  unfold rangeOk at h3
  simp only [Bool.and_eq_true, decide_eq_true_eq] at h3
  have h4 : 80 ≤ leastK (kindN x.nu) := by unfold leastK; split <;> omega
  have h5 : 2 ≤ axK (kindN x.nu) ∧ axK (kindN x.nu) ≤ 6 := by unfold axK; split <;> (try split) <;> omega
  intro n hn
  simp only [wagL, List.mem_cons, List.not_mem_nil, or_false] at hn
  rcases hn with rfl | rfl | rfl | rfl | rfl <;> omega
theorem itoa_noC {n : Int} {c : UInt8} (hc : c.toNat < 45) : c ∉ Lib.itoa n := fun h => by have := Tx.itoa_no h; omega
theorem ne_of_plain {s : List UInt8} (h : plainW s = true) : s ≠ [] := by
  intro e
  rw [e] at h
  cases h
/-- A line's words hold neither blanks nor ends of lines. -/
def Clean (w : List (List UInt8)) : Prop := w ≠ [] ∧ ∀ p ∈ w, (32 : UInt8) ∉ p ∧ (10 : UInt8) ∉ p
theorem clean_map (a : List UInt8) (h : (32 : UInt8) ∉ a ∧ (10 : UInt8) ∉ a) (l : List Int) : Clean (a :: l.map Lib.itoa) := by
  refine ⟨by simp, fun p hp => ?_⟩
  rcases List.mem_cons.1 hp with rfl | hp
  · exact h
  · obtain ⟨n, _, rfl⟩ := List.mem_map.1 hp
    exact ⟨itoa_noC (by decide), itoa_noC (by decide)⟩
theorem clean_wagon {x : WG} (h : wErr x = 0) : Clean (wagonW x) := by
  obtain ⟨h1, _, _, h4⟩ := wErr_zero h
  have p1 := kErr_plain h1
  have p2 := name_plain h4
  refine ⟨by simp [wagonW], fun p hp => ?_⟩
  unfold wagonW at hp
  rcases List.mem_append.1 hp with hp | hp
  · rcases List.mem_append.1 hp with hp | hp
    · simp only [List.mem_cons, List.not_mem_nil, or_false] at hp
      rcases hp with rfl | rfl
      · exact ⟨by decide, by decide⟩
      · exact ⟨plain_no p1 (by decide), plain_no p1 (by decide)⟩
    · obtain ⟨n, _, rfl⟩ := List.mem_map.1 hp
      exact ⟨itoa_noC (by decide), itoa_noC (by decide)⟩
  · simp only [List.mem_cons, List.not_mem_nil, or_false] at hp
    rcases hp with rfl | rfl
    · unfold gtW; split <;> exact ⟨by decide, by decide⟩
    · exact ⟨plain_no p2 (by decide), plain_no p2 (by decide)⟩
theorem clean_body {f : FN} (h : fErr f = 0) : ∀ w ∈ bodyW f, Clean w := by
  obtain ⟨h1, _, h3, _, _⟩ := fErr_zero h
  have p1 := name_plain h1
  intro w hw
  unfold bodyW at hw
  rcases List.mem_append.1 hw with hw | hw
  · rcases List.mem_append.1 hw with hw | hw
    · rcases List.mem_append.1 hw with hw | hw
      · rw [List.mem_singleton] at hw
        subst hw
        refine ⟨by simp [trainW], fun p hp => ?_⟩
        simp only [trainW, List.mem_cons, List.not_mem_nil, or_false] at hp
        rcases hp with rfl | rfl
        · exact ⟨by decide, by decide⟩
        · exact ⟨plain_no p1 (by decide), plain_no p1 (by decide)⟩
      · obtain ⟨x, hx, rfl⟩ := List.mem_map.1 hw
        exact clean_wagon (h3 x hx)
    · rw [List.mem_singleton] at hw
      subst hw
      exact clean_map _ ⟨by decide, by decide⟩ _
  · obtain ⟨x, hx, rfl⟩ := List.mem_map.1 hw
    exact clean_map _ ⟨by decide, by decide⟩ _
theorem clean_end (n : Nat) : Clean (endW n) := clean_map _ ⟨by decide, by decide⟩ [(n : Int)]
/- ### Lines that are taken. -/
theorem cut_clean {w : List (List UInt8)} (h : Clean w) : Tx.cutAt 32 (join w) = w := cut_join 32 w h.1 fun p hp => (h.2 p hp).1
theorem no10 : ∀ w : List (List UInt8), (∀ p ∈ w, (10 : UInt8) ∉ p) → (10 : UInt8) ∉ joinC 32 w := by
  intro w
  induction w with
  | nil => intro _; simp [joinC]
  | cons p t ih =>
    intro h
    cases t with
    | nil => exact h p (by simp)
    | cons q u =>
      show (10 : UInt8) ∉ p ++ 32 :: joinC 32 (q :: u)
      rw [List.mem_append, List.mem_cons]
      rintro (hm | hm | hm)
      · exact h p (by simp) hm
      · exact absurd hm (by decide)
      · exact ih (fun x hx => h x (List.mem_cons_of_mem _ hx)) hm
theorem clean_no10 {w : List (List UInt8)} (h : Clean w) : (10 : UInt8) ∉ join w := no10 w fun p hp => (h.2 p hp).2
theorem cut_lines : ∀ {P : List (List UInt8)}, (∀ p ∈ P, (10 : UInt8) ∉ p) → Tx.cutAt 10 (P.flatMap fun p => p ++ [10]) = P ++ [[]] := by
  intro P h
  rw [← join_ended]
  refine cut_join 10 _ (by simp) fun p hp => ?_
  rcases List.mem_append.1 hp with hp | hp
  · exact h p hp
  · rw [List.mem_singleton] at hp; rw [hp]; simp
theorem takes_app : ∀ (P Q : List (List UInt8)) (r r' : RS), takes r P = some r' → takes r (P ++ Q) = takes r' Q := by
  intro P
  induction P with
  | nil => intro Q r r' h; injection h with h; subst h; rfl
  | cons p t ih =>
    intro Q r r' h
    rw [takes] at h
    rw [List.cons_append, takes]
    cases hr : take r (Tx.cutAt 32 p) with
    | none => rw [hr] at h; cases h
    | some r1 => rw [hr] at h; exact ih Q r1 r' h
theorem takes_one {r r' : RS} {w : List (List UInt8)} (hc : Clean w) (h : take r w = some r') : takes r [join w] = some r' := by
  rw [takes, cut_clean hc, h]
  rfl
theorem wagonB_of {x : WG} (h : wErr x = 0) : wagonB (wagonW x) = some x := by
  obtain ⟨h1, _, _, h4⟩ := wErr_zero h
  have p1 := kErr_plain h1
  have p2 := name_plain h4
  have e : ((wagonW x).drop 2).take 5 = (wagL x).map Lib.itoa := rfl
  have hl : (wagonW x).length = 9 := rfl
  have w1 : wd (wagonW x) 1 = x.nu.data.toList := rfl
  have w7 : wd (wagonW x) 7 = gtW x.gt := rfl
  have w8 : wd (wagonW x) 8 = x.de.data.toList := rfl
  unfold wagonB
  rw [hl, w1, w7, w8, if_neg, e, ints_of (wag_nums h)]
  · show some (WG.mk _ _ _ _ _ _ _ _) = some x
    have hg : decide (gtW x.gt = wGentle) = x.gt := by
      cases x.gt <;> decide
    rw [hg]
    rfl
  · rw [p1, p2]
    rintro (h | h | h | h)
    · exact h rfl
    · cases h
    · cases h
    · cases hg : x.gt <;> rw [hg] at h
      · exact h.2 rfl
      · exact h.1 rfl
theorem take_wagon {r : RS} {x : WG} (hr : r.part = 1) (h : wErr x = 0) : take r (wagonW x) = some { r with f := { r.f with ws := r.f.ws ++ [x] } } := by
  unfold take
  rw [if_neg (by rw [hr]; rintro ⟨e, _⟩; cases e), if_pos ⟨hr, rfl⟩, wagonB_of h]
theorem takes_wagons : ∀ (l : List WG) (r : RS), r.part = 1 → (∀ x ∈ l, wErr x = 0) → takes r ((l.map wagonW).map join) = some { r with f := { r.f with ws := r.f.ws ++ l } } := by
  intro l
  induction l with
  | nil => intro r _ _; simp [takes]
  | cons x t ih =>
    intro r hr h
    rw [List.map_cons, List.map_cons, takes, cut_clean (clean_wagon (h x (by simp))), take_wagon hr (h x (by simp))]
    have := ih { r with f := { r.f with ws := r.f.ws ++ [x] } } hr (fun y hy => h y (List.mem_cons_of_mem _ hy))
    simp only [List.append_assoc, List.singleton_append] at this ⊢
    exact this
theorem take_brakes {r : RS} {l : List Int} (hr : r.part = 1) (hl : l.length = 7) (h : ∀ n ∈ l, 0 ≤ n ∧ n ≤ 9999999) : take r (wBrakes :: l.map Lib.itoa) = some { r with part := 2, f := { r.f with bk := l } } := by
  unfold take
  rw [if_neg (by rw [hr]; rintro ⟨e, _⟩; cases e), if_neg (by rintro ⟨_, e⟩; exact absurd e (show ¬ wBrakes = wWagon by decide)), if_pos ⟨hr, rfl, by simp [hl]⟩]
  rw [show (wBrakes :: l.map Lib.itoa).drop 1 = l.map Lib.itoa from rfl, ints_of h]
theorem take_setout {r : RS} {x : SO} (hr : r.part = 2) (h : ∀ n ∈ soL x, 0 ≤ n ∧ n ≤ 9999999) : take r (setoutW x) = some { r with f := { r.f with so := r.f.so ++ [x] } } := by
  unfold take
  rw [if_neg (by rw [hr]; rintro ⟨e, _⟩; cases e), if_neg (by rw [hr]; rintro ⟨e, _⟩; cases e), if_neg (by rw [hr]; rintro ⟨e, _⟩; cases e), if_pos ⟨hr, rfl, rfl⟩]
  rw [show (setoutW x).drop 1 = (soL x).map Lib.itoa from rfl, ints_of h]
  rfl
theorem takes_setouts : ∀ (l : List SO) (r : RS), r.part = 2 → (∀ x ∈ l, ∀ n ∈ soL x, 0 ≤ n ∧ n ≤ 9999999) → takes r ((l.map setoutW).map join) = some { r with f := { r.f with so := r.f.so ++ l } } := by
  intro l
  induction l with
  | nil => intro r _ _; simp [takes]
  | cons x t ih =>
    intro r hr h
    have hcl : Clean (setoutW x) := clean_map _ ⟨by decide, by decide⟩ _
    rw [List.map_cons, List.map_cons, takes, cut_clean hcl, take_setout hr (h x (by simp))]
    have := ih { r with f := { r.f with so := r.f.so ++ [x] } } hr (fun y hy => h y (List.mem_cons_of_mem _ hy))
    simp only [List.append_assoc, List.singleton_append] at this ⊢
    exact this
theorem take_end {r : RS} {n : Nat} (hr : r.part = 2) (h : n ≤ 9999999) : take r (endW n) = some { r with part := 3, ck := (n : Int) } := by
  unfold take
  rw [if_neg (by rw [hr]; rintro ⟨e, _⟩; cases e), if_neg (by rw [hr]; rintro ⟨e, _⟩; cases e), if_neg (by rw [hr]; rintro ⟨e, _⟩; cases e), if_neg (by rintro ⟨_, e, _⟩; exact absurd e (show ¬ wEnd = wSetout by decide)), if_pos ⟨hr, rfl, rfl⟩]
  rw [show (endW n).drop 1 = ([(n : Int)]).map Lib.itoa from rfl, ints_of (by simp; omega)]
  rfl
theorem takes_fmt {f : FN} (h : fErr f = 0) (hb : f.bk.length = 7) : takes rs0 ((bodyW f ++ [endW (chk (body f))]).map join) = some ⟨3, f, (chk (body f) : Int)⟩ := by
  obtain ⟨h1, _, h3, _, h5⟩ := fErr_zero h
  have e1 : takes rs0 [join (trainW f)] = some ⟨1, ⟨f.nm, [], [0, 0, 0, 0, 0, 0, 0], []⟩, 0⟩ := by
    refine takes_one (clean_body h _ (by simp [bodyW])) ?_
    unfold take
    rw [if_pos ⟨rfl, rfl, rfl, name_plain h1⟩]
    rfl
  have e2 : takes ⟨1, ⟨f.nm, [], [0, 0, 0, 0, 0, 0, 0], []⟩, 0⟩ ((f.ws.map wagonW).map join) = some ⟨1, ⟨f.nm, f.ws, [0, 0, 0, 0, 0, 0, 0], []⟩, 0⟩ := takes_wagons f.ws ⟨1, ⟨f.nm, [], [0, 0, 0, 0, 0, 0, 0], []⟩, 0⟩ rfl h3
  have e3 : takes ⟨1, ⟨f.nm, f.ws, [0, 0, 0, 0, 0, 0, 0], []⟩, 0⟩ [join (brakesW f)] = some ⟨2, ⟨f.nm, f.ws, f.bk, []⟩, 0⟩ :=
    takes_one (clean_map _ ⟨by decide, by decide⟩ _) (take_brakes rfl hb (fun n hn => by have := h5 n (by simp [nums, hn]); omega))
  have e4 : takes ⟨2, ⟨f.nm, f.ws, f.bk, []⟩, 0⟩ ((f.so.map setoutW).map join) = some ⟨2, f, 0⟩ := takes_setouts f.so ⟨2, ⟨f.nm, f.ws, f.bk, []⟩, 0⟩ rfl (fun x hx n hn => by have := h5 n (List.mem_append_right _ (List.mem_flatMap.2 ⟨x, hx, hn⟩)); omega)
  have hck := chkTo_lt (body f) (body f).length
  have e5 : takes ⟨2, f, 0⟩ [join (endW (chk (body f)))] = some ⟨3, f, (chk (body f) : Int)⟩ :=
    takes_one (clean_end _) (take_end rfl (by unfold chk; omega))
  unfold bodyW
  simp only [List.map_append, List.map_cons, List.map_nil, List.append_assoc]
  rw [takes_app _ _ _ _ e1, takes_app _ _ _ _ e2]
  rw [takes_app _ _ _ _ e3, takes_app _ _ _ _ e4]
  exact e5
/-- The text of a sheet is read as it was written. -/
theorem parse_fmt {f : FN} (h : fErr f = 0) (hb : f.bk.length = 7) (hs : (fmtL f).length ≤ 16384) : parse (baOf (fmtL f)) = (f, 0, 0) := by
  have ht := takes_fmt h hb
  have e : fmtL f = ((bodyW f ++ [endW (chk (body f))]).map join).flatMap fun p => p ++ [10] := by
    unfold fmtL body ended
    rw [List.flatMap_map]
    simp
  have hno : ∀ p ∈ (bodyW f ++ [endW (chk (body f))]).map join, (10 : UInt8) ∉ p := by
    intro p hp
    obtain ⟨w, hw, rfl⟩ := List.mem_map.1 hp
    rcases List.mem_append.1 hw with hw | hw
    · exact clean_no10 (clean_body h w hw)
    · rw [List.mem_singleton] at hw
      subst hw
      exact clean_no10 (clean_end _)
  have hsz : (baOf (fmtL f)).size = (fmtL f).length := by simp [baOf, ByteArray.size]
  unfold parse
  rw [if_neg (by rw [hsz]; omega), baOf_data]
  have hc : Tx.cutAt 10 (fmtL f) = (bodyW f ++ [endW (chk (body f))]).map join ++ [[]] := by
    conv => lhs; rw [e]
    exact cut_lines hno
  rw [hc, pGo_run _ _ _ _ _ _ _ ht rfl, List.map_append, List.map_cons, List.map_nil, lastAt_snoc]
  unfold fin
  have hat : 0 + (((bodyW f).map join).flatMap fun q => q ++ [10]).length = (body f).length := by
    rw [Nat.zero_add]
    unfold body ended
    rw [List.flatMap_map]
  rw [hat]
  have hck : chkTo (fmtL f) (body f).length = chk (body f) := by
    unfold chk
    rw [← chkTo_take (fmtL f) _ _ (Nat.le_refl _)]
    unfold fmtL
    rw [List.take_left']
    rfl
  rw [hck, if_neg (by simp), if_neg (by simpa using h)]
theorem fmt_ok {f : FN} (h : fErr f = 0) : fmt f = (fmtL f, 0) := by unfold fmt; rw [if_pos h]
end Fn
end Go.Proofs.YtiegpkbollihgaaDoor
