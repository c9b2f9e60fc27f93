/- What the laws about plants share. -/
import Derived.Test.YtkkpkekkaoccbaaDoorPlX2
import Derived.Test.YtkkpkekkaoccbaaDoorPlG3
namespace Go.Proofs.YtkkpkekkaoccbaaDoor
open Go.RowKit
theorem IR.cc {k : IntKind} {w : World} {ad : Addr} {n : Nat} {l : List Int} (h : IR k w (some ad) n l) {i : Nat} (hi : i < n) : w.cell? (ad.add i) = some (.int k (l.getD i 0)) := by
  obtain ⟨ad', e, _, hc⟩ := h.at_ hi
  cases e
  exact hc
theorem getD_some {l : List Int} {i : Nat} (h : i < l.length) : l[i]? = some (l.getD i 0) := by
  rw [List.getD_eq_getElem?_getD, List.getElem?_eq_getElem h]
  rfl
def MadeR (B : Nat) (w : World) (g c N : Nat) (e : Ending) (w' : World) : Prop := ∃ A n cp l c', e = .returned (.slice A n cp) ∧ w'.ownsRow w.heap.size 40 6 (.slice A n cp) n (flat6 l) ∧ PR6 w' A n l ∧ 1 ≤ n ∧ n ≤ 96 ∧ n ≤ cp ∧ cp ≤ maxLen ∧ Hid (Pl.vErr l = 0) ∧ Hid (∀ x ∈ l, x.nm.size ≤ 12) ∧ c' ≤ c + 10 * N + 10 ∧ Mk B w' g c' ∧ w.grownBy w' (some g)
theorem made_c (B g c n : Nat) (w : World) (h : Mk B w g c) (hc : c ≤ 2305843009213693952) (hn : n ≤ 24) (hB : B ≤ w.heap.size) :
    Calls Tryd.prog 10 #[.pointer (some ⟨g, 0, none⟩), .int .i64 (n : Int)] w (MadeR B w g c n) := by
  refine (plant_c B g c n w h hc hn hB).mono ?_
  rintro e w' ⟨v, l, c', o, nx, rfl, own, h1, h2, hP, hc', hm, hg⟩
  obtain ⟨A, cp, rfl, h3, h4⟩ := own_form own
  exact ⟨A, l.length, cp, l, c', rfl, own, own_PR6 own, h1, (Pl.vErr_zero hP.ok).1, h3, h4, Lib.hid hP.ok, Lib.hid hP.names, hc', hm, hg⟩
theorem endsAt_some {l : List PE} {i : Nat} {x : PE} (h : l[i]? = some x) : Pl.endsAt l (i : Int) = Pl.ends x := by
  unfold Pl.endsAt
  rw [if_neg (by omega), Int.toNat_natCast, h]
end Go.Proofs.YtkkpkekkaoccbaaDoor
