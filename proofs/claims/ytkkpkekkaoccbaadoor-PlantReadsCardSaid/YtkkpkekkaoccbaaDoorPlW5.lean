/- The walks of plant's Ends, Neighbour, Through. -/
import Derived.Test.YtkkpkekkaoccbaaDoorPlR4
namespace Go.Proofs.YtkkpkekkaoccbaaDoor
open Go.RowKit
set_option linter.unusedVariables false in
set_option maxHeartbeats 2000000 in
theorem pends_c (A : Option Addr) (n c : Nat) (l : List PE) (i : Int) (w : World) (hn : n ≤ maxLen) (h : PR6 w A n l) (hi1 : -9223372036854775808 ≤ i) (hi2 : i ≤ 9223372036854775807) :
    Calls Tryd.prog 18 #[.slice A n c, .int .i64 i] w (EndsAtR l i w) := by
  unfold maxLen at hn
  have hl := h.len
  by_cases h1 : i < 0
  · have d1 : decide (i < 0) = true := by simpa using h1
    have He := endsAt_out (l := l) (.inl h1)
    have HE := Lib.hid (show EndsAtR l i w (.returned (.slice none 0 0)) w from ⟨_, rfl, by rw [He]; exact World.ownsRow_nil _ _ _ _, fun _ => rfl, Below.refl _ _⟩)
    clear He
    go_enter Tryd.func18, Tryd.ntmps18
    go_wp2_with fail
    go_ret
    exact HE.out
  · have d1 : decide (i < 0) = false := by simpa using h1
    obtain ⟨k, rfl⟩ := Int.eq_ofNat_of_zero_le (show 0 ≤ i by omega)
    by_cases h2 : n ≤ k
    · have d2 : decide ((n : Int) ≤ (k : Int)) = true := by simp; omega
      have d2' : decide (n ≤ k) = true := by simp; omega
      have He := endsAt_out (l := l) (i := (k : Int)) (.inr (by omega))
      have HE := Lib.hid (show EndsAtR l (k : Int) w (.returned (.slice none 0 0)) w from ⟨_, rfl, by rw [He]; exact World.ownsRow_nil _ _ _ _, fun _ => rfl, Below.refl _ _⟩)
      clear He
      go_enter Tryd.func18, Tryd.ntmps18
      go_wp2_with fail
      go_ret
      exact HE.out
    · have d2 : decide ((n : Int) ≤ (k : Int)) = false := by simp; omega
      have d2' : decide (n ≤ k) = false := by simp; omega
      obtain ⟨ad, ⟨pk, nm, pa, pb, pc, pl⟩, rfl, hba, hp, c0, c1, c2, c3, c4, c5⟩ := h.at_ (i := k) (by omega)
      simp only at c0 c1 c2 c3 c4 c5
      have hkn : (k : Int) < (n : Int) := by omega
      have Hp := Lib.hid hp
      clear hp h
      go_enter Tryd.func18, Tryd.ntmps18
      go_wp2_with fail
      refine (ends_c pk pa pb pc pl nm w).mono ?_
      rintro e w1 ⟨v, rfl, own, hnil, hb⟩
      go_wp2_with fail
      go_ret
      exact EndsAtR.of Hp.out ⟨_, rfl, own, hnil, hb⟩
theorem nbGo_step {l : List PE} {t : Nat} {x : PE} {i node : Int} (h : l[t]? = some x) : Pl.nbGo i node (l.drop t) t = if (t : Int) ≠ i ∧ (Pl.ends x).contains node = true then (t : Int) else Pl.nbGo i node (l.drop (t + 1)) (t + 1) := by
  rw [drop_cons6 h]; rfl
set_option maxRecDepth 100000 in
set_option maxHeartbeats 4000000 in
theorem nb_c (A : Option Addr) (n c : Nat) (l : List PE) (i node : Int) (w : World) (hn : n ≤ maxLen) (h : PR6 w A n l) :
    Calls Tryd.prog 19 #[.slice A n c, .int .i64 i, .int .i64 node] w fun e w' => e = .returned (.int .i64 (Pl.nb l i node)) ∧ Below w.heap.size w w' := by
  unfold maxLen at hn
  have hl := h.len
  have Hh := Lib.hid h
  clear h
  go_enter Tryd.func19, Tryd.ntmps19
  go_wp2_with fail
  go_loopw [13] (fun p wr => ∃ t : Nat, t ≤ n ∧ p = .int .i64 t ∧ Hid (Pl.nb l i node = Pl.nbGo i node (l.drop t) t) ∧ Below w.heap.size w wr) (fun p _ => n - (intOf p).toNat)
  case atStart => exact ⟨0, by omega, rfl, Lib.hid rfl, Below.refl _ _⟩
  case round =>
    obtain ⟨t, ht, rfl, hnb, hbr⟩ := hrel
    by_cases hlt : t < n
    · obtain ⟨ad, ⟨pk, nm, pa, pb, pc, pl⟩, rfl, hba, hp, c0, c1, c2, c3, c4, c5⟩ := (Hh.out.below hbr).at_ hlt
      simp only at c0 c1 c2 c3 c4 c5
      obtain ⟨x, hx⟩ : ∃ x : PE, x = ⟨pk, nm, pa, pb, pc, pl⟩ := ⟨_, rfl⟩
      have hEx := fun W => ends_c pk pa pb pc pl nm W
      rw [← hx] at hEx hp
      have HE := Lib.hid hEx
      have Hst := Lib.hid (hnb.out.trans (nbGo_step hp))
      clear hEx hx hp hnb
      by_cases hti : (t : Int) = i
      · have dt : ((t : Int) == i) = true := by simpa using hti
        have Hnx : Hid (Pl.nb l i node = Pl.nbGo i node (l.drop (t + 1)) (t + 1)) := Lib.hid (by rw [Hst.out, if_neg (fun h => h.1 hti)])
        clear hti
        go_wp2_with fail
        go_roundw
        case rel => exact ⟨t + 1, by omega, by go_num, Hnx, hbr.alloc hbr.size _⟩
        case measure => simp [intOf]; omega
      · have dt : ((t : Int) == i) = false := by simpa using hti
        have Hti := Lib.hid hti
        clear hti
        go_wp2_with fail
        refine (HE.out _).mono ?_
        rintro e w1 ⟨v, rfl, own, hnil, hb⟩
        have hbr1 := below_step (hbr.alloc hbr.size (.cells #[.int .i64 pk, .string nm, .int .i64 pa, .int .i64 pb, .int .i64 pc, .int .i64 pl] 40)) hb
        obtain ⟨E, hE⟩ : ∃ E, Pl.ends x = E := ⟨_, rfl⟩
        have hE3 := Pl.ends_len x
        rw [hE] at own hE3
        obtain ⟨m, hm⟩ : ∃ m, E.length = m := ⟨_, rfl⟩
        rw [hm] at own hE3
        have HEe := Lib.hid hE
        have Hm := Lib.hid hm
        obtain ⟨Av, cv, rfl, v1, v2⟩ := own_form own
        clear hE hm hnil hb hbr c0 c1 c2 c3 c4 c5
        go_wp2_with fail
        go_loop [24] (fun p => ∃ q : Nat, q ≤ m ∧ p = .int .i64 q ∧ Hid ((E.take q).contains node = false)) (fun p => m - (intOf p).toNat)
        case atStart => exact ⟨0, by omega, rfl, Lib.hid rfl⟩
        case round =>
          obtain ⟨q, hq, rfl, hct⟩ := hrel
          by_cases hqm : q < m
          · obtain ⟨g, cap', hAe, hg1, hg2⟩ := own.form (by omega)
            obtain ⟨rfl, _, rfl⟩ : Av = some ⟨g, 0, none⟩ ∧ m = m ∧ cv = cap' := by simpa using hAe
            clear hAe
            have hc0 := own_cell own hqm
            obtain ⟨y, hy⟩ : ∃ y, E[q]? = some y := ⟨_, List.getElem?_eq_getElem (by rw [Hm.out]; exact hqm)⟩
            rw [List.getD_eq_getElem?_getD, hy, Option.getD_some] at hc0
            have Hy := Lib.hid hy
            clear hy
            by_cases hyn : y = node
            · have dy : (y == node) = true := by simpa using hyn
              have Hr : Hid (Pl.nb l i node = (t : Int)) := Lib.hid (by
                rw [Hst.out, if_pos ⟨Hti.out, by rw [HEe.out, ← hyn]; simpa using List.mem_of_getElem? Hy.out⟩])
              clear hyn
              go_wp2_with fail
              go_ret
              exact ⟨retv Hr.out.symm, hbr1⟩
            · have dy : (y == node) = false := by simpa using hyn
              have Hct : Hid ((E.take (q + 1)).contains node = false) := Lib.hid (by
                have h1 := hct.out
                rw [List.take_add_one, Hy.out]
                simp only [Option.toList_some, List.contains_eq_mem, List.mem_append, List.mem_singleton, decide_eq_false_iff_not, not_or] at h1 ⊢
                exact ⟨h1, fun e => hyn e.symm⟩)
              go_wp2_with fail
              go_round
              case rel => exact ⟨q + 1, by omega, by go_num, Hct⟩
              case measure => simp [intOf]; omega
          · have Hnx : Hid (Pl.nb l i node = Pl.nbGo i node (l.drop (t + 1)) (t + 1)) := Lib.hid (by
              have h1 := hct.out
              rw [List.take_of_length_le (by rw [Hm.out]; omega)] at h1
              rw [Hst.out, if_neg (fun h => by rw [HEe.out, h1] at h; exact absurd h.2 (by decide))])
            go_wp2_with fail
            go_roundw
            case rel => exact ⟨t + 1, by omega, by go_num, Hnx, hbr1⟩
            case measure => simp [intOf]; omega
    · have Hr : Hid (Pl.nb l i node = -1) := Lib.hid (by rw [hnb.out, List.drop_of_length_le (by omega)]; rfl)
      go_wp2_with fail
      go_ret
      exact ⟨retv Hr.out.symm, hbr⟩
end Go.Proofs.YtkkpkekkaoccbaaDoor
