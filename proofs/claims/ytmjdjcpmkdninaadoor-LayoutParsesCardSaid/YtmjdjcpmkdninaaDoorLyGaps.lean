/- Blanks, empty lines and comments between do not change what a text means, plainly. -/
import Derived.Test.YtmjdjcpmkdninaaDoorLyRound
namespace Go.Proofs.YtmjdjcpmkdninaaDoor
namespace Ly
/-- The lines with words that count. -/
def sig (L : List (List UInt8)) : List (List (List UInt8)) := (L.map Tx.words).filter fun w => !skip w
theorem sig_cons (s : List UInt8) (r : List (List UInt8)) : sig (s :: r) = if skip (Tx.words s) = true then sig r else Tx.words s :: sig r := by
  unfold sig
  rw [List.map_cons, List.filter_cons]
  cases skip (Tx.words s) <;> rfl
def goS : List (List (List UInt8)) → List LE → Option (List LE)
  | [], l => some l
  | w :: r, l => match elemB l w with
    | .inl _ => none
    | .inr x => goS r (l ++ [x])
theorem parseGo_sig : ∀ (L : List (List UInt8)) (i : Nat) (l m : List LE), parseGo L i l = .inr m ↔ goS (sig L) l = some m := by
  intro L
  induction L with
  | nil => intro i l m; simp [parseGo, sig, goS]
  | cons s r ih =>
    intro i l m
    rw [parseGo, sig_cons]
    split
    · exact ih (i + 1) l m
    · rw [goS]
      cases elemB l (Tx.words s) with
      | inl e => simp
      | inr x => exact ih (i + 1) _ m
theorem words_app (p r : List UInt8) : Tx.words (p ++ 32 :: r) = Tx.words p ++ Tx.words r := by
  induction p with
  | nil => exact Tx.words_blank r
  | cons b t ih =>
    by_cases hb : b = 32
    · subst hb
      rw [List.cons_append, Tx.words_blank, Tx.words_blank, ih]
    · have key : ∀ (q : List UInt8) (c : List (List UInt8)), Tx.glue [b] c = Tx.glue [b] c := fun _ _ => rfl
      clear key ih
      -- the first word of both, by what cutAt says
      have h1 : ∀ q : List UInt8, Tx.cutAt 32 (b :: q) = Tx.glue [b] (Tx.cutAt 32 q) := fun q => Tx.cut_miss hb q
      have h2 : ∀ q : List UInt8, Tx.cutAt 32 (q ++ 32 :: r) = Tx.cutAt 32 q ++ Tx.cutAt 32 r := by
        intro q
        induction q with
        | nil => rw [List.nil_append, Tx.cut_hit]; rfl
        | cons c q ihq =>
          by_cases hc : c = 32
          · subst hc
            rw [List.cons_append, Tx.cut_hit, Tx.cut_hit, ihq]; rfl
          · rw [List.cons_append, Tx.cut_miss hc, Tx.cut_miss hc, ihq]
            have := Tx.cutAt_ne 32 q
            cases hq : Tx.cutAt 32 q with
            | nil => exact absurd hq this
            | cons a u => rfl
      unfold Tx.words
      rw [h2 (b :: t), List.filter_append]
def piece (b : UInt8) (g : Int) : List UInt8 :=
  if b = 32 ∧ g = 1 then [32, 32, 32] else if b = 10 ∧ g = 2 then [32, 10, 10, 35, 32, 99, 114, 101, 115, 116, 32, 120, 10, 32] else [b]
def gapF (g : Nat → Int) : List UInt8 → Nat → List UInt8
  | [], _ => []
  | b :: r, i => piece b (g i) ++ gapF g r (i + 1)
theorem gapF_snoc (g : Nat → Int) : ∀ (l : List UInt8) (b : UInt8) (i : Nat), gapF g (l ++ [b]) i = gapF g l i ++ piece b (g (i + l.length)) := by
  intro l
  induction l with
  | nil => intro b i; simp [gapF]
  | cons c r ih =>
    intro b i
    rw [List.cons_append, gapF, gapF, ih b (i + 1), List.append_assoc, List.length_cons]
    congr 4
    omega
theorem piece_len (b : UInt8) (g : Int) : (piece b g).length ≤ 14 := by
  unfold piece
  split
  · decide
  · split
    · decide
    · simp
theorem gapF_len (g : Nat → Int) : ∀ (l : List UInt8) (i : Nat), (gapF g l i).length ≤ 14 * l.length := by
  intro l
  induction l with
  | nil => intro i; simp [gapF]
  | cons b r ih =>
    intro i
    have h1 := piece_len b (g i)
    have h2 := ih (i + 1)
    simp only [gapF, List.length_append, List.length_cons]
    omega
/-- Two texts that mean the same, whatever stands ahead of them in their first line. -/
def Same (u v : List UInt8) : Prop := ∃ a t b r, Tx.cutAt 10 u = a :: t ∧ Tx.cutAt 10 v = b :: r ∧ (∀ p, Tx.words (p ++ a) = Tx.words (p ++ b)) ∧ sig t = sig r
theorem Same.refl (u : List UInt8) : Same u u := by
  have := Tx.cutAt_ne 10 u
  cases h : Tx.cutAt 10 u with
  | nil => exact absurd h this
  | cons a t => exact ⟨a, t, a, t, h, h, fun _ => rfl, rfl⟩
theorem Same.cons {u v : List UInt8} (b : UInt8) (h : Same u v) : Same (b :: u) (b :: v) := by
  obtain ⟨a, t, c, r, h1, h2, h3, h4⟩ := h
  by_cases hb : b = 10
  · subst hb
    refine ⟨[], a :: t, [], c :: r, by rw [Tx.cut_hit, h1], by rw [Tx.cut_hit, h2], fun _ => rfl, ?_⟩
    have := h3 []
    rw [List.nil_append, List.nil_append] at this
    rw [sig_cons, sig_cons, this, h4]
  · refine ⟨b :: a, t, b :: c, r, by rw [Tx.cut_miss hb, h1]; rfl, by rw [Tx.cut_miss hb, h2]; rfl, fun p => ?_, h4⟩
    have := h3 (p ++ [b])
    simpa using this
theorem Same.blanks {u v : List UInt8} (h : Same u v) : Same (32 :: 32 :: 32 :: u) (32 :: v) := by
  obtain ⟨a, t, c, r, h1, h2, h3, h4⟩ := h
  refine ⟨32 :: 32 :: 32 :: a, t, 32 :: c, r, by rw [Tx.cut_miss (by decide), Tx.cut_miss (by decide), Tx.cut_miss (by decide), h1]; rfl, by rw [Tx.cut_miss (by decide), h2]; rfl, fun p => ?_, h4⟩
  rw [words_app, words_app, Tx.words_blank, Tx.words_blank]
  have := h3 []
  rw [List.nil_append, List.nil_append] at this
  rw [this]
theorem Same.comment {u v : List UInt8} (h : Same u v) : Same ([32, 10, 10, 35, 32, 99, 114, 101, 115, 116, 32, 120, 10, 32] ++ u) (10 :: v) := by
  obtain ⟨a, t, c, r, h1, h2, h3, h4⟩ := h
  have hcut : Tx.cutAt 10 ([32, 10, 10, 35, 32, 99, 114, 101, 115, 116, 32, 120, 10, 32] ++ u) = [32] :: [] :: [35, 32, 99, 114, 101, 115, 116, 32, 120] :: (32 :: a) :: t := by
    have e : [32, 10, 10, 35, 32, 99, 114, 101, 115, 116, 32, 120, 10, 32] ++ u = [32] ++ 10 :: ([] ++ 10 :: ([35, 32, 99, 114, 101, 115, 116, 32, 120] ++ 10 :: (32 :: u))) := rfl
    rw [e, Tx.cut_word 10 _ _ (by decide), Tx.cut_word 10 _ _ (by decide), Tx.cut_word 10 _ _ (by decide), Tx.cut_miss (by decide), h1]
    rfl
  refine ⟨[32], _, [], c :: r, hcut, by rw [Tx.cut_hit, h2], fun p => ?_, ?_⟩
  · rw [words_app, List.append_nil]
    show Tx.words p ++ [] = _
    rw [List.append_nil]
  · have := h3 []
    rw [List.nil_append, List.nil_append] at this
    rw [sig_cons, if_pos (by decide), sig_cons, if_pos (by decide), sig_cons, sig_cons, Tx.words_blank, this, h4]
theorem gap_same (g : Nat → Int) : ∀ (l : List UInt8) (i : Nat), Same (gapF g l i) l := by
  intro l
  induction l with
  | nil => intro i; exact Same.refl _
  | cons b r ih =>
    intro i
    have h := ih (i + 1)
    rw [gapF]
    unfold piece
    split
    · rename_i hb
      rw [hb.1]
      exact h.blanks
    · split
      · rename_i hb
        rw [hb.1]
        exact h.comment
      · exact h.cons b
theorem sig_same {u v : List UInt8} (h : Same u v) : sig (Tx.cutAt 10 u) = sig (Tx.cutAt 10 v) := by
  obtain ⟨a, t, c, r, h1, h2, h3, h4⟩ := h
  have := h3 []
  rw [List.nil_append, List.nil_append] at this
  rw [h1, h2, sig_cons, sig_cons, this, h4]
/-- A layout is read as it was written, with gaps between. -/
theorem parse_gaps {l : List LE} (h : vErr l = 0) (g : Nat → Int) (hs : (gapF g (fmtL l) 0).length ≤ 16384) : parse (baOf (gapF g (fmtL l) 0)) = (l, 0, 0) := by
  obtain ⟨h1, _, h3, _⟩ := vErr_zero h
  have h4 := parseGo_fmt h3
  rw [← lines_fmt h3] at h4
  have h5 := (parseGo_sig _ 0 [] l).1 h4
  rw [← sig_same (gap_same g (fmtL l) 0)] at h5
  have h6 := (parseGo_sig _ 0 [] l).2 h5
  unfold parse
  rw [baOf_size, if_neg (by omega), baOf_data, h6]
  simp only [fin, h, if_true]
/- The line of an error. -/
theorem parseGo_skips : ∀ (p q : List (List UInt8)) (i : Nat) (l : List LE), (∀ s ∈ p, skip (Tx.words s) = true) → parseGo (p ++ q) i l = parseGo q (i + p.length) l := by
  intro p
  induction p with
  | nil => intro q i l _; rfl
  | cons s r ih =>
    intro q i l h
    rw [List.cons_append, parseGo, if_pos (h s (by simp)), ih q (i + 1) l (fun t ht => h t (by simp [ht])), List.length_cons]
    congr 1; omega
/-- A shift of the lines' numbers. -/
theorem parseGo_shift : ∀ (p : List (List UInt8)) (i j : Nat) (l m : List LE), parseGo p i l = .inr m → parseGo p j l = .inr m := by
  intro p i j l m h
  exact (parseGo_sig p j l m).2 ((parseGo_sig p i l m).1 h)
theorem cut_app (p r : List UInt8) : Tx.cutAt 10 (p ++ 10 :: r) = Tx.cutAt 10 p ++ Tx.cutAt 10 r := by
  induction p with
  | nil => rw [List.nil_append, Tx.cut_hit]; rfl
  | cons c q ihq =>
    by_cases hc : c = 10
    · subst hc
      rw [List.cons_append, Tx.cut_hit, Tx.cut_hit, ihq]; rfl
    · rw [List.cons_append, Tx.cut_miss hc, Tx.cut_miss hc, ihq]
      have := Tx.cutAt_ne 10 q
      cases hq : Tx.cutAt 10 q with
      | nil => exact absurd hq this
      | cons a u => rfl
end Ly
end Go.Proofs.YtmjdjcpmkdninaaDoor
