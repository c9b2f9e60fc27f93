/- Made sheets, plainly: their text, what is read from it; lines are not negative. -/
import Derived.Test.YtiegpkbollihgaaDoorFnMade
import Derived.Test.YtiegpkbollihgaaDoorFnFinds
import Derived.Test.YtiegpkbollihgaaDoorFnFmt
namespace Go.Proofs.YtiegpkbollihgaaDoor
open Go.RowKit
/-- What a format of a made sheet gives. -/
theorem ok_fmt {n : Nat} {f : FN} (h : FnOk n f) : Fn.fmt f = (Fn.fmtL f, 0) := by unfold Fn.fmt; rw [if_pos h.err]
theorem ok_parse {n : Nat} {f : FN} (h : FnOk n f) (hb : f.bk.length = 7) : Fn.parse (baOf (Fn.fmtL f)) = (f, 0, 0) := Fn.parse_fmt h.err hb (Nat.le_trans (Fn.len_fmt h.err hb) (by decide))
theorem ok_FR {W : World} {B : Nat} {A : Option Addr} {m cp : Nat} {Bs : Option Addr} {k d n : Nat} {f : FN} (oW : W.ownsRow B 34 8 (.slice A m cp) m (flatW f.ws)) (oS : W.ownsRow B 39 3 (.slice Bs k d) k (flatS f.so)) (h : FnOk n f) : FR W A m Bs k f := by
  obtain ⟨_, _, e1, h1, h2⟩ := own_form oW
  obtain ⟨_, _, e2, h3, h4⟩ := own_form oS
  obtain ⟨g1, _, g3, _, _⟩ := Fn.fErr_zero h.err
  refine ⟨own_WR oW, own_SR oS, Nat.le_trans h1 h2, Nat.le_trans h3 h4, Nat.le_trans (Fn.nm_size g1) (by decide), fun x hx => ?_⟩
  obtain ⟨k1, _, _, k4⟩ := Fn.wErr_zero (g3 x hx)
  exact ⟨by rw [(kErr_size k1).1]; decide, Nat.le_trans (Fn.nm_size k4) (by decide)⟩
theorem fmt_end (f : FN) : ∃ q, Fn.fmtL f = q ++ [10] := ⟨Fn.body f ++ Fn.join (Fn.endW (Fn.chk (Fn.body f))), by unfold Fn.fmtL; rw [List.append_assoc]⟩
theorem fin_line (s : List UInt8) (k en : Nat) (r : Fn.RS) : 0 ≤ (Fn.fin s k en r).2.1 := by
  unfold Fn.fin
  split
  · exact Int.natCast_nonneg k
  · split <;> exact Int.le_refl 0
theorem pGo_line (s : List UInt8) : ∀ (L : List (List UInt8)) (k at_ en : Nat) (r : Fn.RS), 0 ≤ (Fn.pGo s L k at_ en r).2.1
  | [], k, _, _, _ => by unfold Fn.pGo; show (0 : Int) ≤ (k : Int) + 1; omega
  | [p], k, _, en, r => by
    unfold Fn.pGo
    split
    · exact fin_line _ _ _ _
    · show (0 : Int) ≤ (k : Int) + 1; omega
  | p :: q :: t, k, at_, en, r => by
    unfold Fn.pGo
    split
    · show (0 : Int) ≤ (k : Int) + 1; omega
    · exact pGo_line s (q :: t) _ _ _ _
theorem parse_line (s : ByteArray) : 0 ≤ (Fn.parse s).2.1 := by
  unfold Fn.parse
  split
  · exact Int.le_refl 0
  · exact pGo_line _ _ _ _ _ _
end Go.Proofs.YtiegpkbollihgaaDoor
