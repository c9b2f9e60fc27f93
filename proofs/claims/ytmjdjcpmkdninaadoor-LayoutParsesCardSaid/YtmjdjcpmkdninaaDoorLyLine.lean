/- The line of an error; a text that ends in a long comment: plainly. -/
import Derived.Test.YtmjdjcpmkdninaaDoorLyGaps
namespace Go.Proofs.YtmjdjcpmkdninaaDoor
namespace Ly
/-- Lines, each ended. -/
def ended (L : List (List UInt8)) : List UInt8 := L.flatMap fun p => p ++ [10]
theorem cut_ended (r : List UInt8) : ∀ L : List (List UInt8), (∀ p ∈ L, (10 : UInt8) ∉ p) → Tx.cutAt 10 (ended L ++ r) = L ++ Tx.cutAt 10 r := by
  intro L
  induction L with
  | nil => intro _; rfl
  | cons p t ih =>
    intro h
    have e : ended (p :: t) ++ r = p ++ 10 :: (ended t ++ r) := by simp [ended]
    rw [e, Tx.cut_word 10 _ _ (h p (by simp)), ih (fun q hq => h q (by simp [hq]))]
    rfl
theorem ended_app (L M : List (List UInt8)) : ended (L ++ M) = ended L ++ ended M := by simp [ended]
theorem fmtL_ended (l : List LE) : fmtL l = ended (l.map (bodyF l)) := by
  unfold fmtL ended
  rw [List.flatMap_map]
theorem count_ended : ∀ L : List (List UInt8), (∀ p ∈ L, (10 : UInt8) ∉ p) → (ended L).count 10 = L.length := by
  intro L
  induction L with
  | nil => intro _; rfl
  | cons p t ih =>
    intro h
    have e : ended (p :: t) = p ++ 10 :: ended t := by simp [ended]
    rw [e, List.count_append, List.count_eq_zero.2 (h p (by simp)), List.count_cons, ih (fun q hq => h q (by simp [hq]))]
    simp
theorem body_no {l : List LE} (h : Fits l) : ∀ p ∈ l.map (bodyF l), (10 : UInt8) ∉ p := by
  intro p hp
  obtain ⟨x, hx, rfl⟩ := List.mem_map.1 hp
  obtain ⟨i, hi⟩ := mem_at hx
  exact body_no10 h hi
theorem count_fmt {l : List LE} (h : Fits l) : (fmtL l).count 10 = l.length := by
  rw [fmtL_ended, count_ended _ (body_no h), List.length_map]
def rail : List UInt8 := [114, 97, 105, 108, 32, 120, 32, 121, 32, 49, 32, 50, 32, 51]
theorem rail_words : Tx.words rail = [[114, 97, 105, 108], [120], [121], [49], [50], [51]] := by decide +kernel
theorem rail_elem (l : List LE) : elemB l (Tx.words rail) = .inl 6 := by
  rw [rail_words]
  have h : kindOf (wd [[114, 97, 105, 108], [120], [121], [49], [50], [51]] 0) = none := by decide +kernel
  unfold elemB
  rw [h]
def padL (p : List UInt8) : Prop := p = [] ∨ p = [32] ∨ p = [35]
theorem pad_skip {p : List UInt8} (h : padL p) : skip (Tx.words p) = true := by
  rcases h with rfl | rfl | rfl <;> decide +kernel
theorem pad_no {p : List UInt8} (h : padL p) : (10 : UInt8) ∉ p := by
  rcases h with rfl | rfl | rfl <;> decide
theorem parse_line {l : List LE} (h : Fits l) {pads : List (List UInt8)} (hp : ∀ p ∈ pads, padL p) (hs : (ended pads ++ fmtL l ++ (rail ++ [10])).length ≤ 16384) :
    parse (baOf (ended pads ++ fmtL l ++ (rail ++ [10]))) = ([], (pads.length : Int) + (l.length : Int) + 1, 6) := by
  have hall : ∀ p ∈ pads ++ (l.map (bodyF l) ++ [rail]), (10 : UInt8) ∉ p := by
    intro p hm
    rcases List.mem_append.1 hm with hm | hm
    · exact pad_no (hp p hm)
    · rcases List.mem_append.1 hm with hm | hm
      · exact body_no h p hm
      · rw [List.mem_singleton] at hm
        rw [hm]; decide
  have hcut : Tx.cutAt 10 (ended pads ++ fmtL l ++ (rail ++ [10])) = pads ++ (l.map (bodyF l) ++ ([rail] ++ [[]])) := by
    have := cut_ended [] _ hall
    rw [ended_app, ended_app, ← fmtL_ended, List.append_nil] at this
    rw [List.append_assoc]
    refine Eq.trans ?_ (this.trans ?_)
    · rfl
    · simp [Tx.cutAt]
  have hgo : parseGo (l.map (bodyF l)) pads.length [] = .inr l := by
    have h1 := parseGo_bodies h l.length 0 (by omega) (by omega)
    rw [List.drop_zero, List.take_zero] at h1
    exact parseGo_shift _ 0 _ _ _ h1
  unfold parse
  rw [baOf_size, if_neg (by omega), baOf_data, hcut, parseGo_skips _ _ _ _ (fun s hs => pad_skip (hp s hs)), Nat.zero_add, parseGo_app _ _ _ _ _ hgo]
  have hsk : skip (Tx.words rail) = false := by rw [rail_words]; decide +kernel
  rw [List.singleton_append, parseGo, if_neg (by rw [hsk]; decide), rail_elem]
  simp only [List.length_map, Prod.mk.injEq, true_and, and_true]
  omega
/- A long comment. -/
def txC : List UInt8 := [99, 114, 101, 115, 116, 32, 99]
def txT : List UInt8 := [116, 114, 97, 99, 107, 32, 116, 32, 99, 32, 49, 32, 48, 32, 48]
def leC : LE := ⟨0, ⟨#[99]⟩, -1, 0, 0, 0, 0, 0⟩
def leT : LE := ⟨4, ⟨#[116]⟩, 0, 0, 1, 0, 0, 0⟩
theorem txC_words : Tx.words txC = [crest, [99]] := by decide +kernel
theorem txT_words : Tx.words txT = [track, [116], [99], [49], [48], [48]] := by decide +kernel
theorem parse_comment (q : List UInt8) (hq : (10 : UInt8) ∉ q) (hq2 : (32 : UInt8) ∉ q) (hs : (ended [txC, txT] ++ 35 :: q).length ≤ 16384) : parse (baOf (ended [txC, txT] ++ 35 :: q)) = ([leC, leT], 0, 0) := by
  have hcut : Tx.cutAt 10 (ended [txC, txT] ++ 35 :: q) = txC :: txT :: [35 :: q] := by
    rw [cut_ended _ _ (by decide), Tx.cut_last 10 (35 :: q) (by simp [hq])]
    rfl
  have h1 : elemB [] (Tx.words txC) = .inr leC := by rw [txC_words]; rfl
  have h2 : elemB [leC] (Tx.words txT) = .inr leT := by rw [txT_words]; rfl
  have k1 : skip (Tx.words txC) = false := by rw [txC_words]; rfl
  have k2 : skip (Tx.words txT) = false := by rw [txT_words]; rfl
  have k3 : skip (Tx.words (35 :: q)) = true := by
    rw [Tx.words_one (35 :: q) (by simp [hq2]) (by simp)]
    rfl
  unfold parse
  rw [baOf_size, if_neg (by omega), baOf_data, hcut, parseGo, if_neg (by rw [k1]; decide), h1]
  show (match parseGo (txT :: [35 :: q]) (0 + 1) ([] ++ [leC]) with | .inl (n, e) => _ | .inr l => fin l) = _
  rw [parseGo, if_neg (by rw [k2]; decide), List.nil_append, h2]
  show (match parseGo [35 :: q] (0 + 1 + 1) ([leC] ++ [leT]) with | .inl (n, e) => _ | .inr l => fin l) = _
  rw [parseGo, if_pos k3]
  show fin [leC, leT] = _
  unfold fin
  rw [if_pos (by decide +kernel)]
theorem parse_long {s : ByteArray} (h : 16384 < s.size) : parse s = ([], 0, 3) := by unfold parse; rw [if_pos h]
end Ly
end Go.Proofs.YtmjdjcpmkdninaaDoor
