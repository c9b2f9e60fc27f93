/- The walk of 'PlantTurns'. -/
import Derived.Test.YtkkpkekkaoccbaaDoorPlY0
namespace Go.Proofs.YtkkpkekkaoccbaaDoor
open Go.RowKit
theorem take_has (l : List Int) (s : Nat) (e : Int) (h : s < l.length) : (l.take (s + 1)).contains e = ((l.take s).contains e || decide (l.getD s 0 = e)) := by
  have hg := getD_some h
  rw [List.take_add_one, hg]
  rw [Bool.eq_iff_iff]
  simp
  constructor
  · rintro (h | h)
    · exact .inl h
    · exact .inr h.symm
  · rintro (h | h)
    · exact .inl h
    · exact .inr h.symm
set_option maxRecDepth 100000 in
set_option maxHeartbeats 8000000 in
theorem walk_PlantTurns (a0 : Option Addr) (len0 cap0 : Nat) (z0 : List Int) (mx : Int) (w : World) (w0 : IsRow .i64 w a0 len0 cap0 z0) (hmx : w.cell? ⟨0, 0, none⟩ = some (.int .i64 mx)) :
    Calls Tryd.prog 5 #[.slice a0 len0 cap0] w fun e w' => e = .returned (.bool true) ∧ Below w.heap.size w w' := by
  obtain ⟨r0, m0, _⟩ := w0.reads
  clear w0
  generalize z0.take len0 = l0 at r0
  go_enter Tryd.func5, Tryd.ntmps5
  go_wp2_with fail
  refine (new_c _ _ _ _ _ m0 r0).mono ?_
  rintro e w1 ⟨rfl, hm1, hb1, hz1⟩
  clear r0 m0
  go_wp2_with fail
  refine (made_c w.heap.size w.heap.size 0 20 w1 hm1 (by omega) (by omega) hb1.size).mono ?_
  rintro e w2 ⟨A, n, cp, l, c2, rfl, _, hR, hn1, hn96, _, _, Hok, _, _, hm2, hg2⟩
  have hb2 := hb1.trans (grown_below hg2 hb1.size (Nat.le_refl _))
  have hmx2 := keep_cell hb2 hmx
  have hll := hR.len
  have hnm : n ≤ maxLen := by unfold maxLen; omega
  clear hm1 hb1 hz1 hm2 hg2 hmx
  go_wp2_with fail
  go_loopw [5] (fun p wr => ∃ i : Nat, i ≤ n ∧ p = .int .i64 i ∧ Below w2.heap.size w2 wr) (fun p _ => n - (intOf p).toNat)
  case atStart => exact ⟨0, by omega, rfl, Below.refl _ _⟩
  case round =>
    obtain ⟨i, hi, rfl, hbr⟩ := hrel
    by_cases hlt : i < n
    · obtain ⟨x, hx⟩ : ∃ x, l[i]? = some x := ⟨_, List.getElem?_eq_getElem (by omega)⟩
      have Hs := Lib.hid ((Pl.vErr_zero Hok.out).2 x (List.mem_of_getElem? hx))
      have HE := Lib.hid (endsAt_some hx)
      have Hx := Lib.hid hx
      clear hx
      have hilt : (i : Int) < (n : Int) := by omega
      go_wp2_with fail
      refine (rends_c A n cp l i _ hnm (hR.below hbr) (by omega) (by omega)).mono ?_
      rintro e w3 ⟨v3, rfl, own3, _, hb3⟩
      rw [HE.out] at own3
      obtain ⟨k, hk⟩ : ∃ k, (Pl.ends x).length = k := ⟨_, rfl⟩
      rw [hk] at own3
      have Hk := Lib.hid hk
      have hk3 : k ≤ 3 := by have := Pl.ends_len x; omega
      clear hk
      obtain ⟨A3, c3, rfl, _, _⟩ := own_form own3
      have hI3 := own_IR own3
      have hb3' := below_step hbr hb3
      clear own3 hb3
      go_wp2_with fail
      go_loopw [7] (fun p wr => ∃ j : Nat, j ≤ k ∧ p = .int .i64 j ∧ Below w3.heap.size w3 wr) (fun p _ => k - (intOf p).toNat)
      case atStart => exact ⟨0, by omega, rfl, Below.refl _ _⟩
      case round =>
        obtain ⟨j, hj, rfl, hbj⟩ := hrel
        by_cases hjk : j < k
        · obtain ⟨ad3, rfl, _, _⟩ := hI3.at_ hjk
          obtain ⟨en, hen⟩ : ∃ en, (Pl.ends x).getD j 0 = en := ⟨_, rfl⟩
          have hget := getD_some (l := Pl.ends x) (i := j) (by have := Hk.out; omega)
          have hc3 := (hI3.below hbj).cc hjk
          rw [hen] at hget hc3
          have Ht := Lib.hid (Pl.turns Hs.out hget)
          clear hget
          have hjlt : (j : Int) < (k : Int) := by omega
          go_wp2_with fail
          refine (thru_c A n cp l i en _ hnm (hR.below (below_step hb3' hbj)) (by omega) (by omega)).mono ?_
          rintro e w4 ⟨A4, n4, c4, rfl, hI4, hn4, _, _, hb4⟩
          have hth : Pl.thru l (i : Int) en = Pl.thruGo en (Pl.ends x) := by unfold Pl.thru; rw [HE.out]
          rw [hth] at hI4
          clear hth
          have hl4 := hI4.len
          have ht1 := Ht.out.1
          have ht2 := Ht.out.2.1
          rw [hl4] at ht1 ht2
          have hb4' := below_step hbj hb4
          obtain ⟨ad, p, rfl, _, hp, d0, _⟩ := (hR.below (below_step hb3' hb4')).at_ hlt
          obtain rfl := Option.some.inj (Hx.out.symm.trans hp)
          clear hp hc3 hb4
          have hn41 : ¬ (n4 : Int) < 1 := by omega
          have hcase : ((n4 : Int) == 2) = true ∧ (x.k == 2) = true ∧ ((j : Int) == 0) = true ∨ ((n4 : Int) == 2) = false ∧ (x.k == 2) = false ∨ ((n4 : Int) == 2) = false ∧ (x.k == 2) = true ∧ ((j : Int) == 0) = false := by
            by_cases h1 : x.k = 2
            · by_cases h2 : j = 0
              · left
                have := ht2.2 ⟨h1, h2⟩
                refine ⟨?_, ?_, ?_⟩ <;> simp <;> omega
              · right; right
                have : n4 ≠ 2 := fun h => h2 (ht2.1 h).2
                refine ⟨?_, ?_, ?_⟩ <;> simp <;> omega
            · right; left
              have : n4 ≠ 2 := fun h => h1 (ht2.1 h).1
              refine ⟨?_, ?_⟩ <;> simp <;> omega
          have Hl4 := Lib.hid hl4
          clear ht1 ht2 hl4
          rcases hcase with ⟨e1, e2, e3⟩ | ⟨e1, e2⟩ | ⟨e1, e2, e3⟩
          all_goals
            go_wp2_with fail
            go_loopw [9] (fun p wr => ∃ q : Nat, q ≤ n4 ∧ p = .int .i64 q ∧ Below w4.heap.size w4 wr) (fun p _ => n4 - (intOf p).toNat)
            case atStart => exact ⟨0, by omega, rfl, Below.refl _ _⟩
            case round =>
              obtain ⟨q, hq, rfl, hbq⟩ := hrel
              by_cases hqk : q < n4
              · obtain ⟨ad4, rfl, _, _⟩ := hI4.at_ hqk
                obtain ⟨on, hon⟩ : ∃ on, (Pl.thruGo en (Pl.ends x)).getD q 0 = on := ⟨_, rfl⟩
                have hon' := hon
                have hget4 := getD_some (l := Pl.thruGo en (Pl.ends x)) (i := q) (by have := Hl4.out; omega)
                have hc4 := (hI4.below hbq).cc hqk
                rw [hon] at hget4 hc4
                have Ht2 := Lib.hid (Ht.out.2.2 on (List.mem_of_getElem? hget4))
                clear hget4 hon d0
                have hqlt : (q : Int) < (n4 : Int) := by omega
                go_wp2_with fail
                refine (thru_c _ n cp l i on _ hnm (hR.below (below_step hb3' (below_step hb4' hbq))) (by omega) (by omega)).mono ?_
                rintro e w5 ⟨A6, n5, c5, rfl, hI5, hn5, _, _, hb5⟩
                have hth : Pl.thru l (i : Int) on = Pl.thruGo on (Pl.ends x) := by unfold Pl.thru; rw [HE.out]
                rw [hth] at hI5
                clear hth hc4
                have Hl5 := Lib.hid hI5.len
                have hb5' := below_step hbq hb5
                clear hb5
                go_wp2_with fail
                go_loopw [11, 12] (fun f p wr => ∃ s : Nat, s ≤ n5 ∧ p = .int .i64 s ∧ (∃ fb : Bool, f = .bool fb ∧ Hid (((Pl.thruGo on (Pl.ends x)).take s).contains en = fb)) ∧ Below w5.heap.size w5 wr) (fun _ p _ => n5 - (intOf p).toNat)
                case atStart => exact ⟨0, by omega, rfl, ⟨false, rfl, Lib.hid (by simp)⟩, Below.refl _ _⟩
                case round =>
                  obtain ⟨s, hs, rfl, ⟨fb, rfl, Hfb⟩, hbs⟩ := hrel
                  have hb3s := below_step hb4' (below_step hb5' hbs)
                  have hc3 := (hI3.below hb3s).cc hjk
                  rw [hen] at hc3
                  by_cases hsk : s < n5
                  · obtain ⟨ad6, rfl, _, _⟩ := hI5.at_ hsk
                    obtain ⟨bn, hbn⟩ : ∃ bn, (Pl.thruGo on (Pl.ends x)).getD s 0 = bn := ⟨_, rfl⟩
                    have hc5 := (hI5.below hbs).cc hsk
                    have Hth := Lib.hid (take_has (Pl.thruGo on (Pl.ends x)) s en (by have := Hl5.out; omega))
                    rw [hbn] at hc5 Hth
                    rw [Hfb.out] at Hth
                    clear hbn
                    have hslt : (s : Int) < (n5 : Int) := by omega
                    cases fb with
                    | true =>
                      go_wp2_with fail
                      go_quiet (fail)
                      go_wp2_with fail
                      go_roundw
                      case rel => exact ⟨s + 1, by omega, by go_num, ⟨true, rfl, Lib.hid (by rw [Hth.out]; rfl)⟩, below_drewN hbs _⟩
                      case measure => simp [intOf]; omega
                    | false =>
                      by_cases heq : bn = en
                      · have de : (bn == en) = true := by simp [heq]
                        have Hb : Hid (((Pl.thruGo on (Pl.ends x)).take (s + 1)).contains en = true) := Lib.hid (by rw [Hth.out]; simp [heq])
                        clear heq
                        go_wp2_with fail
                        go_quiet (fail)
                        go_wp2_with fail
                        go_roundw
                        case rel => exact ⟨s + 1, by omega, by go_num, ⟨true, rfl, Hb⟩, below_drewN hbs _⟩
                        case measure => simp [intOf]; omega
                      · have de : (bn == en) = false := by simp [heq]
                        have Hb : Hid (((Pl.thruGo on (Pl.ends x)).take (s + 1)).contains en = false) := Lib.hid (by rw [Hth.out]; simp [heq])
                        clear heq
                        go_wp2_with fail
                        go_quiet (fail)
                        go_wp2_with fail
                        go_roundw
                        case rel => exact ⟨s + 1, by omega, by go_num, ⟨false, rfl, Hb⟩, below_drewN hbs _⟩
                        case measure => simp [intOf]; omega
                  · have hse : s = n5 := by omega
                    have hfb : fb = true := by
                      have h1 := Hfb.out
                      rw [hse, ← Hl5.out, List.take_length] at h1
                      rw [← h1]
                      simpa using Ht2.out.2
                    subst hfb
                    have hc4 := (hI4.below (below_step hb5' hbs)).cc hqk
                    rw [hon'] at hc4
                    have de : (on == en) = false := by simpa using Ht2.out.1
                    have hslt : ¬ (s : Int) < (n5 : Int) := by omega
                    clear hse
                    go_wp2_with fail
                    go_quiet (fail)
                    go_wp2_with fail
                    go_roundw
                    case rel => exact ⟨q + 1, by omega, by go_num, below_drewN (below_step hb5' hbs) _⟩
                    case measure => simp [intOf]; omega
              · have hqlt : ¬ (q : Int) < (n4 : Int) := by omega
                go_wp2_with fail
                go_roundw
                case rel => exact ⟨j + 1, by omega, by go_num, below_step hb4' hbq⟩
                case measure => simp [intOf]; omega
        · have hjlt : ¬ (j : Int) < (k : Int) := by omega
          go_wp2_with fail
          go_roundw
          case rel => exact ⟨i + 1, by omega, by go_num, below_step hb3' hbj⟩
          case measure => simp [intOf]; omega
    · have hilt : ¬ (i : Int) < (n : Int) := by omega
      go_wp2_with fail
      refine (sane_c mx _ (below_cell0 hbr hmx2)).mono ?_
      rintro e w3 ⟨rfl, hb3⟩
      go_wp2_with fail
      go_ret
      exact ⟨rfl, hb2.trans ((below_step hbr hb3).mono hb2.size)⟩
end Go.Proofs.YtkkpkekkaoccbaaDoor
