/- The walk of 'PlantRoundTrips'. -/
import Derived.Test.YtkkpkekkaoccbaaDoorPlY0
namespace Go.Proofs.YtkkpkekkaoccbaaDoor
open Go.RowKit
theorem fmtOk_c (A : Option Addr) (n c : Nat) (l : List PE) (w : World) (hn : n ≤ maxLen) (h : PR6 w A n l) (hs : ∀ x ∈ l, x.nm.size ≤ maxLen) (ht : Tab10 w) (hv : Pl.vErr l = 0) :
    Calls Tryd.prog 24 #[.slice A n c] w fun e w' => e = .returned (.tuple #[.string (bOf (Pl.fmtL l)), .int .i64 0]) ∧ Below w.heap.size w w' := by
  refine (format_c A n c l w hn h hs ht).mono ?_
  rintro e w' ⟨he, hb⟩
  rw [Pl.fmt_ok hv] at he
  exact ⟨he, hb⟩
set_option maxRecDepth 100000 in
set_option maxHeartbeats 8000000 in
theorem walk_PlantRoundTrips (a0 : Option Addr) (len0 cap0 : Nat) (z0 : List Int) (mx : Int) (w : World) (w0 : IsRow .i64 w a0 len0 cap0 z0) (hmx : w.cell? ⟨0, 0, none⟩ = some (.int .i64 mx)) (ht : Tab10 w) :
    Calls Tryd.prog 7 #[.slice a0 len0 cap0] w fun e w' => e = .returned (.bool true) ∧ Below w.heap.size w w' := by
  obtain ⟨r0, m0, _⟩ := w0.reads
  clear w0
  generalize z0.take len0 = l0 at r0
  go_enter Tryd.func7, Tryd.ntmps7
  go_wp2_with fail
  refine (new_c _ _ _ _ _ m0 r0).mono ?_
  rintro e w1 ⟨rfl, hm1, hb1, hz1⟩
  clear r0 m0
  go_wp2_with fail
  refine (made_c w.heap.size w.heap.size 0 20 w1 hm1 (by omega) (by omega) hb1.size).mono ?_
  rintro e w2 ⟨A, n, cp, l, c2, rfl, _, hR, hn1, hn96, _, _, Hok, Hnm, _, hm2, hg2⟩
  have hb2 := hb1.trans (grown_below hg2 hb1.size (Nat.le_refl _))
  have hmx2 := keep_cell hb2 hmx
  have ht2 := ht.below hb2
  have hll := hR.len
  have hnm : n ≤ maxLen := by unfold maxLen; omega
  have Hnx : Hid (∀ x ∈ l, x.nm.size ≤ maxLen) := Lib.hid (fun x hx => by have := Hnm.out x hx; unfold maxLen; omega)
  clear hm1 hb1 hz1 hm2 hg2 hmx ht
  have Hpos := Lib.hid (Pl.fmtL_pos (l := l) (by omega))
  have Hlen := Lib.hid (Pl.fmtL_len l (Pl.vErr_zero Hok.out).2)
  obtain ⟨s, hs⟩ : ∃ s, bOf (Pl.fmtL l) = s := ⟨_, rfl⟩
  have hs1 : 0 < s.size := by rw [← hs, bOf_size]; exact Hpos.out
  have hs2 : s.size ≤ 9600 := by rw [← hs, bOf_size]; have := Hlen.out; omega
  have Hp := Lib.hid (Pl.parse_fmt Hok.out)
  have HF1 := Lib.hid (fmtOk_c A n cp l w2 hnm hR Hnx.out ht2 Hok.out)
  rw [hs] at Hp HF1
  go_wp2_with fail
  refine HF1.out.mono ?_
  rintro e w3 ⟨rfl, hb3⟩
  have hmx3 := keep_cell hb3 hmx2
  have ht3 := ht2.below hb3
  have hR3 := hR.below hb3
  clear hR hmx2 ht2 HF1
  go_wp2_with fail
  refine (parse_c s mx w3 (by unfold maxLen; omega) hmx3).mono ?_
  rintro e w4 ⟨A4, n4, c4, rfl, hR4, hn4, _, hb4⟩
  rw [Hp.out] at hR4 ⊢
  obtain rfl : n4 = n := by rw [← hR4.len, ← hll]
  have hb4' := below_step hb3 hb4
  have ht4 := ht3.below hb4
  have hR3' := hR3.below hb4
  have hmx4 := keep_cell hb4 hmx3
  have HF2 := Lib.hid (fmtOk_c A4 n4 c4 l w4 hnm hR4 Hnx.out ht4 Hok.out)
  rw [hs] at HF2
  clear hR3 ht3 hmx3 hb3 hb4
  go_wp2_with fail
  refine HF2.out.mono ?_
  rintro e w5 ⟨rfl, hb5⟩
  have hb5' := below_step hb4' hb5
  have hR5 := hR3'.below hb5
  have hR5' := hR4.below hb5
  have hmx5 := keep_cell hb5 hmx4
  clear HF2 hR3' hR4 ht4 hmx4 hb4' hb5
  go_wp2_with fail
  refine (same_c A A4 n4 n4 cp c4 l w5 hnm hR5 hR5').mono ?_
  rintro e w6 ⟨rfl, hb6⟩
  have hb6' := below_step hb5' hb6
  have hmx6 := keep_cell hb6 hmx5
  clear hR5 hR5' hmx5 hb5' hb6
  go_wp2_with fail
  refine (sane_c mx w6 hmx6).mono ?_
  rintro e w7 ⟨rfl, hb7⟩
  have hb7' := below_step hb6' hb7
  go_wp2_with fail
  go_ret
  exact ⟨rfl, hb2.trans (hb7'.mono hb2.size)⟩
end Go.Proofs.YtkkpkekkaoccbaaDoor
