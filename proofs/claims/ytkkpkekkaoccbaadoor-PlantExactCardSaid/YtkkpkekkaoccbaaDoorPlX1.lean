/- The walk of the law's exact. -/
import Derived.Test.YtkkpkekkaoccbaaDoorPlG0
import Derived.Test.YtkkpkekkaoccbaaDoorGen1
namespace Go.Proofs.YtkkpkekkaoccbaaDoor
open Go.RowKit
set_option maxRecDepth 100000 in
set_option maxHeartbeats 4000000 in
theorem exact_c (A : Option Addr) (n c : Nat) (l : List PE) (i node : Int) (w : World) (hn : n ≤ maxLen) (h : PR6 w A n l) (hs : ∀ x ∈ l, x.nm.size ≤ maxLen) (ht : Tab10 w) (hi1 : -9223372036854775808 ≤ i) (hi2 : i ≤ 9223372036854775807) :
    Calls Tryd.prog 23 #[.slice A n c, .int .i64 i, .int .i64 node] w fun e w' => e = .returned (.bool true) ∧ Below w.heap.size w w' := by
  have HS := Lib.hid hs
  clear hs
  go_enter Tryd.func23, Tryd.ntmps23
  go_wp2_with fail
  refine (format_c A n c l w hn h HS.out ht).mono ?_
  rintro e w1 ⟨rfl, hb1⟩
  have h1 := h.below hb1
  go_wp2_with fail
  refine (rformat_c A n c l w1 hn h1 HS.out).mono ?_
  rintro e w2 ⟨rfl, hb2⟩
  have h2 := h1.below hb2
  have hb2' := below_step hb1 hb2
  clear h h1 hb1 hb2
  obtain ⟨fs, hfs⟩ : ∃ s, bOf (Pl.fmt l).1 = s := ⟨_, rfl⟩
  obtain ⟨fe, hfe⟩ : ∃ s, (Pl.fmt l).2 = s := ⟨_, rfl⟩
  rw [hfs, hfe]
  clear hfs hfe
  go_wp2_with fail
  refine (valid_c A n c l w2 hn h2 HS.out).mono ?_
  rintro e w3 ⟨rfl, hb3⟩
  have h3 := h2.below hb3
  have hb3' := below_step hb2' hb3
  clear h2 hb2' hb3
  go_wp2_with fail
  refine (rvalid_c A n c l w3 hn h3 HS.out).mono ?_
  rintro e w4 ⟨rfl, hb4⟩
  have h4 := h3.below hb4
  have hb4' := below_step hb3' hb4
  clear h3 hb3' hb4
  go_wp2_with fail
  refine (nb_c A n c l i node w4 hn h4).mono ?_
  rintro e w5 ⟨rfl, hb5⟩
  have h5 := h4.below hb5
  have hb5' := below_step hb4' hb5
  clear h4 hb4' hb5
  go_wp2_with fail
  refine (rnb_c A n c l i node w5 hn h5).mono ?_
  rintro e w6 ⟨rfl, hb6⟩
  have h6 := h5.below hb6
  have hb6' := below_step hb5' hb6
  clear h5 hb5' hb6
  go_wp2_with fail
  refine (pends_c A n c l i w6 hn h6 hi1 hi2).mono ?_
  rintro e w7 ⟨v7, rfl, own7, _, hb7⟩
  have h7 := h6.below hb7
  have hb7' := below_step hb6' hb7
  clear h6 hb6' hb7
  go_wp2_with fail
  refine (rends_c A n c l i w7 hn h7 hi1 hi2).mono ?_
  rintro e w8 ⟨v8, rfl, own8, _, hb8⟩
  have h8 := h7.below hb8
  have hb8' := below_step hb7' hb8
  have own7' := own_below own7 hb8
  have hel := endsAt_len l i
  obtain ⟨A7, c7, rfl, _, _⟩ := own_form own7'
  obtain ⟨A8, c8, rfl, _, _⟩ := own_form own8
  clear h7 hb7' hb8 own7
  have I7 := own_IR own7'
  have I8 := own_IR own8
  clear own7' own8
  go_wp2_with fail
  refine (ints_eq A7 A8 _ _ c7 c8 _ w8 (by unfold maxLen; omega) I7 I8).mono ?_
  rintro e w9 ⟨rfl, hb9⟩
  have h9 := h8.below hb9
  have hb9' := below_step hb8' hb9
  clear h8 hb8' hb9 I7 I8
  go_wp2_with fail
  refine (thru_c A n c l i node w9 hn h9 hi1 hi2).mono ?_
  rintro e w10 ⟨Ap, np, cp, rfl, Ip, hp3, hp4, hp5, hb10⟩
  have h10 := h9.below hb10
  have hb10' := below_step hb9' hb10
  clear h9 hb9' hb10
  go_wp2_with fail
  refine (rthru_c A n c l i node w10 hn h10 hi1 hi2).mono ?_
  rintro e w11 ⟨Aq, nq, cq, rfl, Iq, hq3, hq4, hq5, hb11⟩
  have Ip' := Ip.below hb11
  have hb11' := below_step hb10' hb11
  clear h10 hb10' hb11 Ip
  go_wp2_with fail
  refine (ints_eq Ap Aq np nq cp cq _ w11 (by unfold maxLen; omega) Ip' Iq).mono ?_
  rintro e w12 ⟨rfl, hb12⟩
  have hb12' := below_step hb11' hb12
  clear hb11' hb12 Ip' Iq
  go_wp2_with fail
  go_ret
  exact ⟨rfl, hb12'⟩
end Go.Proofs.YtkkpkekkaoccbaaDoor
