/- What the laws about layouts share: a made layout, the text of a valid layout, remainders. -/
import Derived.Test.YtmjdjcpmkdninaaDoorLyS
import Derived.Test.YtmjdjcpmkdninaaDoorLyG4
import Derived.Test.YtmjdjcpmkdninaaDoorLyLine
namespace Go.Proofs.YtmjdjcpmkdninaaDoor
open Go.RowKit
theorem inMod (a m : Int) (hm : 0 < m) : ∃ r : Nat, (a.tmod m + m).tmod m = (r : Int) ∧ (r : Int) < m := by
  have h0 := tmod_bd a m hm
  obtain ⟨x, hx⟩ := Int.eq_ofNat_of_zero_le (show (0 : Int) ≤ a.tmod m + m by omega)
  obtain ⟨k, rfl⟩ := Int.eq_ofNat_of_zero_le (show (0 : Int) ≤ m by omega)
  rw [hx]
  refine ⟨x % k, ?_, ?_⟩
  · rw [Int.tmod_eq_emod_of_nonneg (by omega)]
    exact (Int.natCast_emod x k).symm
  · have := Nat.mod_lt x (show 0 < k by omega)
    omega
def LMadeR (B : Nat) (w : World) (g c N : Nat) (e : Ending) (w' : World) : Prop := ∃ A n cp l c', e = .returned (.slice A n cp) ∧ w'.ownsRow w.heap.size 48 8 (.slice A n cp) n (flat8 l) ∧ LR w' A n l ∧ n ≤ 6 * N + 4 ∧ n ≤ cp ∧ cp ≤ maxLen ∧ Hid (Ly.vErr l = 0) ∧ Hid (∀ x ∈ l, Ly.LeOk x) ∧ c' ≤ c + 40 * N + 20 ∧ Mk B w' g c' ∧ w.grownBy w' (some g)
theorem lmade_c (B g c n : Nat) (w : World) (h : Mk B w g c) (hc : c ≤ 1152921504606846976) (hn : n ≤ 12) (hB : B ≤ w.heap.size) :
    Calls Tryd.prog 18 #[.pointer (some ⟨g, 0, none⟩), .int .i64 (n : Int)] w (LMadeR B w g c n) := by
  refine (llayout_c B g c n w h hc hn hB).mono ?_
  rintro e w' ⟨v, l, c', rfl, own, hV, h1, hc', hm, hg⟩
  obtain ⟨A, cp, rfl, h3, h4⟩ := own_form own
  exact ⟨A, l.length, cp, l, c', rfl, own, own_LR own, h1, h3, h4, Lib.hid hV, Lib.hid (Ly.vErr_leok hV), hc', hm, hg⟩
theorem leOk_size {l : List LE} (h : ∀ x ∈ l, Ly.LeOk x) : ∀ x ∈ l, x.nm.size ≤ maxLen := fun x hx => by have := (h x hx).size; unfold maxLen; omega
theorem leOk_wf {l : List LE} (h : ∀ x ∈ l, Ly.LeOk x) : ∀ x ∈ l, (Lit.int .i64 x.p).wf = true ∧ (Lit.int .i64 x.sd).wf = true := fun x hx => by
  have h1 := (h x hx).2.1
  have h2 := (h x hx).2.2
  exact ⟨wf_small (by omega), wf_small (by omega)⟩
theorem lfmtOk_c (A : Option Addr) (n c : Nat) (l : List LE) (w : World) (hn : n ≤ maxLen) (h : LR w A n l) (hs : ∀ x ∈ l, Ly.LeOk x) (ht : Tab10 w) (hv : Ly.vErr l = 0) :
    Calls Tryd.prog 12 #[.slice A n c] w fun e w' => e = .returned (.tuple #[.string (baOf (Ly.fmtL l)), .int .i64 0]) ∧ Below w.heap.size w w' := by
  refine (lformat_c A n c l w hn h (leOk_size hs) (leOk_wf hs) ht).mono ?_
  rintro e w' ⟨he, hb⟩
  rw [Ly.fmt_ok hv] at he
  exact ⟨he, hb⟩
end Go.Proofs.YtmjdjcpmkdninaaDoor
