/- The walk of 'PlantMeets'. -/
import Derived.Test.YtkkpkekkaoccbaaDoorPlY0
namespace Go.Proofs.YtkkpkekkaoccbaaDoor
open Go.RowKit
set_option maxRecDepth 100000 in
set_option maxHeartbeats 8000000 in
theorem walk_PlantMeets (a0 : Option Addr) (len0 cap0 : Nat) (z0 : List Int) (mx : Int) (w : World) (w0 : IsRow .i64 w a0 len0 cap0 z0) (hmx : w.cell? ⟨0, 0, none⟩ = some (.int .i64 mx)) :
    Calls Tryd.prog 4 #[.slice a0 len0 cap0] w fun e w' => e = .returned (.bool true) ∧ Below w.heap.size w w' := by
  obtain ⟨r0, m0, _⟩ := w0.reads
  clear w0
  generalize z0.take len0 = l0 at r0
  go_enter Tryd.func4, Tryd.ntmps4
  go_wp2_with fail
  refine (new_c _ _ _ _ _ m0 r0).mono ?_
  rintro e w1 ⟨rfl, hm1, hb1, hz1⟩
  clear r0 m0
  go_wp2_with fail
  refine (made_c w.heap.size w.heap.size 0 20 w1 hm1 (by omega) (by omega) hb1.size).mono ?_
  rintro e w2 ⟨A, n, cp, l, c2, rfl, _, hR, hn1, hn96, _, _, Hok, Hnm, _, hm2, hg2⟩
  have hb2 := hb1.trans (grown_below hg2 hb1.size (Nat.le_refl _))
  have hmx2 := keep_cell hb2 hmx
  have hll := hR.len
  have hnm : n ≤ maxLen := by unfold maxLen; omega
  clear hm1 hb1 hz1 hm2 hg2 hmx
  go_wp2_with fail
  refine (valid_c A n cp l w2 hnm hR (fun x hx => by have := Hnm.out x hx; unfold maxLen; omega)).mono ?_
  rw [Hok.out]
  rintro e w2' ⟨rfl, hb2'⟩
  go_wp2_with fail
  go_loopw [5] (fun p wr => ∃ i : Nat, i ≤ n ∧ p = .int .i64 i ∧ Below w2.heap.size w2 wr) (fun p _ => n - (intOf p).toNat)
  case atStart => exact ⟨0, by omega, rfl, hb2'⟩
  case round =>
    obtain ⟨i, hi, rfl, hbr⟩ := hrel
    by_cases hlt : i < n
    · obtain ⟨x, hx⟩ : ∃ x, l[i]? = some x := ⟨_, List.getElem?_eq_getElem (by omega)⟩
      have Hs := Lib.hid ((Pl.vErr_zero Hok.out).2 x (List.mem_of_getElem? hx))
      have HE := Lib.hid (endsAt_some hx)
      have Hx := Lib.hid hx
      clear hx
      have hilt : (i : Int) < (n : Int) := by omega
      go_wp2_with fail
      refine (pends_c A n cp l i _ hnm (hR.below hbr) (by omega) (by omega)).mono ?_
      rintro e w3 ⟨v3, rfl, own3, _, hb3⟩
      rw [HE.out] at own3
      obtain ⟨k, hk⟩ : ∃ k, (Pl.ends x).length = k := ⟨_, rfl⟩
      rw [hk] at own3
      have hcase : (k = 3 ∧ x.k = 2) ∨ (k = 2 ∧ x.k ≠ 2) := by
        rcases Pl.ends_sound Hs.out with ⟨h1, h2, _⟩ | ⟨h1, h2, _⟩
        · left; rw [h2] at hk; exact ⟨by simpa using hk.symm, h1⟩
        · right; rw [h2] at hk; exact ⟨by simpa using hk.symm, h1⟩
      have hk3 : k ≤ 3 := by have := Pl.ends_len x; omega
      have Hk := Lib.hid hk
      clear hk
      obtain ⟨A3, c3, rfl, _, _⟩ := own_form own3
      have hI3 := own_IR own3
      have hb3' := below_step hbr hb3
      obtain ⟨ad, p, rfl, _, hp, d0, _⟩ := (hR.below hb3').at_ hlt
      obtain rfl := Option.some.inj (Hx.out.symm.trans hp)
      clear own3 hb3 hp
      have hc2 : decide ((k : Int) < 2) = false := decide_eq_false (by omega)
      have hc3 : ((k : Int) == 3) = true ∧ (x.k == 2) = true ∨ ((k : Int) == 3) = false ∧ (x.k == 2) = false := by
        rcases hcase with ⟨h1, h2⟩ | ⟨h1, h2⟩
        · left; subst h1; exact ⟨rfl, by simp [h2]⟩
        · right; subst h1; exact ⟨rfl, by simp [h2]⟩
      clear hcase
      rcases hc3 with ⟨e1, e2⟩ | ⟨e1, e2⟩
      all_goals
        go_wp2_with fail
        go_loopw [7] (fun p wr => ∃ j : Nat, j ≤ k ∧ p = .int .i64 j ∧ Below w3.heap.size w3 wr) (fun p _ => k - (intOf p).toNat)
        case atStart => exact ⟨0, by omega, rfl, Below.refl _ _⟩
        case round =>
          obtain ⟨j, hj, rfl, hbj⟩ := hrel
          by_cases hjk : j < k
          · obtain ⟨ad3, rfl, _, _⟩ := hI3.at_ hjk
            obtain ⟨en, hen⟩ : ∃ en, (Pl.ends x).getD j 0 = en := ⟨_, rfl⟩
            have hget := getD_some (l := Pl.ends x) (i := j) (by have := Hk.out; omega)
            have hc3 := (hI3.below hbj).cc hjk
            rw [hen] at hget hc3
            have Hen := Lib.hid hen
            have Hnb := Lib.hid (Pl.nb_nb Hok.out (i := i) (n := en) ⟨x, Hx.out, List.mem_of_getElem? hget⟩)
            clear hget hen
            have hjlt : (j : Int) < (k : Int) := by omega
            go_wp2_with fail
            refine (nb_c _ n cp l i en _ hnm (hR.below (below_step hb3' hbj))).mono ?_
            rintro e w4 ⟨rfl, hb4⟩
            have hb4' := below_step hbj hb4
            have hc4 := (hI3.below hb4').cc hjk
            rw [Hen.out] at hc4
            clear hc3 hb4
            rcases Hnb.out with h1 | ⟨m, h1, h2, h3, h4⟩
            · rw [h1]
              have f1 : ((-1 : Int) == (i : Int)) = false := beq_eq_false_iff_ne.2 (by omega)
              clear h1
              go_wp2_with fail
              go_roundw
              case rel => exact ⟨j + 1, by omega, by go_num, hb4'⟩
              case measure => simp [intOf]; omega
            · rw [h1]
              have f1 : ((m : Int) == (i : Int)) = false := beq_eq_false_iff_ne.2 (by omega)
              have f2 : ¬ (m : Int) < 0 := by omega
              have H4 := Lib.hid h4
              clear h1 h2 h4
              go_wp2_with fail
              refine (nb_c _ n cp l m en _ hnm (hR.below (below_step hb3' hb4'))).mono ?_
              rw [H4.out]
              rintro e w5 ⟨rfl, hb5⟩
              have hb5' := below_step hb4' hb5
              go_wp2_with fail
              go_roundw
              case rel => exact ⟨j + 1, by omega, by go_num, hb5'⟩
              case measure => simp [intOf]; omega
          · have hjlt : ¬ (j : Int) < (k : Int) := by omega
            go_wp2_with fail
            go_roundw
            case rel => exact ⟨i + 1, by omega, by go_num, below_step hb3' hbj⟩
            case measure => simp [intOf]; omega
    · have hilt : ¬ (i : Int) < (n : Int) := by omega
      go_wp2_with fail
      refine (sane_c mx _ (below_cell0 hbr hmx2)).mono ?_
      rintro e w3 ⟨rfl, hb3⟩
      go_wp2_with fail
      go_ret
      exact ⟨rfl, hb2.trans ((below_step hbr hb3).mono hb2.size)⟩
end Go.Proofs.YtkkpkekkaoccbaaDoor
