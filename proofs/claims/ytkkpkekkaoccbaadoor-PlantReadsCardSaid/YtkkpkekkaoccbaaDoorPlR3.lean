/- The walk of the reference's sound. -/
import Derived.Test.YtkkpkekkaoccbaaDoorPlR2
import Derived.Deep.DeepCutAuto
namespace Go.Proofs.YtkkpkekkaoccbaaDoor
open Go.RowKit
theorem ends_len_of {x : PE} (h : Pl.ends x ≠ []) : ((Pl.ends x).length = 2 ∧ (x.k = 1 ∨ x.k = 3)) ∨ ((Pl.ends x).length = 3 ∧ x.k = 2) := by
  unfold Pl.ends at h ⊢
  split
  · rename_i h1
    exact .inl ⟨rfl, h1⟩
  · rename_i h1
    split
    · rename_i h2
      exact .inr ⟨rfl, h2⟩
    · rename_i h2
      rw [if_neg h1, if_neg h2] at h
      exact absurd rfl h
theorem IR.take {k : IntKind} {w : World} {A : Option Addr} {n : Nat} {l : List Int} (h : IR k w A n l) {g : Nat} (hg : g ≤ n) : IR k w A g (l.take g) := by
  refine ⟨by simp [h.len]; omega, fun hg0 => ?_⟩
  obtain ⟨ad, e, hb, hc⟩ := h.2 (by omega)
  refine ⟨ad, e, hb, fun j u hu => hc j u ?_⟩
  rw [List.getElem?_map] at hu ⊢
  rw [List.getElem?_take] at hu
  split at hu
  · exact hu
  · simp at hu
theorem store6 {w w1 : World} {b B e n t size : Nat} {v z0 z1 z2 z3 z4 z5 : Value} {xs : List Value} (hB : Blk w1 b t #[z0, z1, z2, z3, z4, z5]) (own : w1.ownsRow B e size v n xs) (hne : v.ownBlock ≠ some b) (hbel : Below w.heap.size w w1) (hbw : w.heap.size ≤ b) (u0 u1 u2 u3 u4 u5 : Value) :
    Blk ((((((w1.setCell ⟨b, 0, none⟩ u0).setCell ⟨b, 1, none⟩ u1).setCell ⟨b, 2, none⟩ u2).setCell ⟨b, 3, none⟩ u3).setCell ⟨b, 4, none⟩ u4).setCell ⟨b, 5, none⟩ u5) b t #[u0, u1, u2, u3, u4, u5] ∧
    ((((((w1.setCell ⟨b, 0, none⟩ u0).setCell ⟨b, 1, none⟩ u1).setCell ⟨b, 2, none⟩ u2).setCell ⟨b, 3, none⟩ u3).setCell ⟨b, 4, none⟩ u4).setCell ⟨b, 5, none⟩ u5).ownsRow B e size v n xs ∧
    Below w.heap.size w ((((((w1.setCell ⟨b, 0, none⟩ u0).setCell ⟨b, 1, none⟩ u1).setCell ⟨b, 2, none⟩ u2).setCell ⟨b, 3, none⟩ u3).setCell ⟨b, 4, none⟩ u4).setCell ⟨b, 5, none⟩ u5) := by
  refine ⟨?_, ?_, ?_⟩
  · have := (((((hB.set_ 0 u0).set_ 1 u1).set_ 2 u2).set_ 3 u3).set_ 4 u4).set_ 5 u5
    simpa using this
  · exact own_set_other (own_set_other (own_set_other (own_set_other (own_set_other (own_set_other own hne _) hne _) hne _) hne _) hne _) hne _
  · exact (((((hbel.setCell (p := ⟨b, 0, none⟩) hbw u0).setCell (p := ⟨b, 1, none⟩) hbw u1).setCell (p := ⟨b, 2, none⟩) hbw u2).setCell (p := ⟨b, 3, none⟩) hbw u3).setCell (p := ⟨b, 4, none⟩) hbw u4).setCell (p := ⟨b, 5, none⟩) hbw u5
set_option maxRecDepth 100000 in
set_option maxHeartbeats 8000000 in
theorem rsound_c (A : Option Addr) (n c k : Nat) (l : List PE) (x : PE) (w : World) (hn : n ≤ maxLen) (h : PR6 w A n l) (hp : l[k]? = some x) (hs : x.nm.size ≤ maxLen) :
    Calls Tryd.prog 42 #[.slice A n c, .int .i64 (k : Int)] w (SoundR x w) := by
  have hl := h.len
  have hkn : k < n := by have := (List.getElem?_eq_some_iff.1 hp).1; omega
  have hkni : (k : Int) < (n : Int) := by omega
  have hmx := hn
  unfold maxLen at hn
  have hkm : (k : Int) ≤ 9223372036854775807 := by omega
  have HEc := Lib.hid (fun W (hW : PR6 W A n l) => rends_c A n c l (k : Int) W hmx hW (by omega) hkm)
  have hDr : PR6 w.drew A n l := h
  have hAl : ∀ o : Obj, PR6 (w.alloc o).drew A n l := fun o => h.below (((Below.refl w.heap.size w).alloc (Nat.le_refl _) o).trans (below_drew' (Below.refl _ _)))
  obtain ⟨ad, x', rfl, hba, hp', c0, c1, c2, c3, c4, c5⟩ := h.at_ (i := k) hkn
  obtain rfl : x' = x := Option.some.inj (hp'.symm.trans hp)
  have Hp := Lib.hid hp
  obtain ⟨x, hx⟩ : ∃ y : PE, y = x' := ⟨_, rfl⟩
  obtain ⟨pk, nm, pa, pb, pc, pl⟩ := x'
  simp only at c0 c1 c2 c3 c4 c5
  rw [← hx] at Hp
  rw [← hx]
  have hxs : x.nm = nm ∧ x.k = pk ∧ x.c = pc ∧ x.len = pl := by rw [hx]; exact ⟨rfl, rfl, rfl, rfl⟩
  have Hx := Lib.hid hx
  have Hxs := Lib.hid hxs
  simp only at hs
  clear hx hxs hp hp' h
  go_enter Tryd.func42, Tryd.ntmps42
  go_upto_region 1 with fail
  have HAl := Lib.hid hAl
  have HdR : Hid (PR6 w.drew (some ad) n l) := Lib.hid hDr
  clear hAl hDr
  go_cut [5, 6] (fun p v wx => ∃ b, w.heap.size ≤ b ∧ p = .pointer (some ⟨b, 0, none⟩) ∧ Blk wx b 40 #[.int .i64 pk, .string nm, .int .i64 pa, .int .i64 pb, .int .i64 pc, .int .i64 pl] ∧ wx.ownsRow w.heap.size 3 1 v (Pl.endsAt l (k : Int)).length ((Pl.endsAt l (k : Int)).map (Value.int .i64)) ∧ Below w.heap.size w wx)
  case first =>
    have g0 := cell_alloc c0
    have g1 := cell_alloc c1
    have g2 := cell_alloc c2
    have g3 := cell_alloc c3
    have g4 := cell_alloc c4
    have g5 := cell_alloc c5
    go_region_with (first
      | (go_at_call 20
         with_reducible refine (HEc.out w.drew HdR.out).mono ?_
         rintro e w1 ⟨v, rfl, own, hnil, hb⟩
         have d0 := keep_cell_d hb c0
         have d1 := keep_cell_d hb c1
         have d2 := keep_cell_d hb c2
         have d3 := keep_cell_d hb c3
         have d4 := keep_cell_d hb c4
         have d5 := keep_cell_d hb c5
         have h0 := cell_alloc d0
         have h1 := cell_alloc d1
         have h2 := cell_alloc d2
         have h3 := cell_alloc d3
         have h4 := cell_alloc d4
         have h5 := cell_alloc d5)
      | (go_at_call 20
         refine (HEc.out _ (HAl.out _)).mono ?_
         rintro e w1 ⟨v, rfl, own, hnil, hb⟩
         have d0 := keep_cell_d hb (cell_alloc c0 _)
         have d1 := keep_cell_d hb (cell_alloc c1 _)
         have d2 := keep_cell_d hb (cell_alloc c2 _)
         have d3 := keep_cell_d hb (cell_alloc c3 _)
         have d4 := keep_cell_d hb (cell_alloc c4 _)
         have d5 := keep_cell_d hb (cell_alloc c5 _)
         have hB := (Blk.drew (Blk.new w 40 #[.int .i64 0, .string ⟨#[]⟩, .int .i64 0, .int .i64 0, .int .i64 0, .int .i64 0])).below hb (by simp)
         have z0 : w1.cell? ⟨w.heap.size, 0, none⟩ = some (.int .i64 0) := hB.cell 0
         have z1 : w1.cell? ⟨w.heap.size, 1, none⟩ = some (.string ⟨#[]⟩) := hB.cell 1
         have z2 : w1.cell? ⟨w.heap.size, 2, none⟩ = some (.int .i64 0) := hB.cell 2
         have z3 : w1.cell? ⟨w.heap.size, 3, none⟩ = some (.int .i64 0) := hB.cell 3
         have z4 : w1.cell? ⟨w.heap.size, 4, none⟩ = some (.int .i64 0) := hB.cell 4
         have z5 : w1.cell? ⟨w.heap.size, 5, none⟩ = some (.int .i64 0) := hB.cell 5
         have f0 := hB.frozen 0
         have f1 := hB.frozen 1
         have f2 := hB.frozen 2
         have f3 := hB.frozen 3
         have f4 := hB.frozen 4
         have f5 := hB.frozen 5))
    all_goals
      go_wp2_with fail
      go_meet
      first
        | exact ⟨w1.heap.size, hb.size, rfl, Blk.new w1 _ _, own.alloc _, (below_drew' hb).alloc hb.size _⟩
        | (have hne : v.ownBlock ≠ some w.heap.size := fun e => by
             have := own_ge own _ e
             simp at this
             omega
           have hbel : Below w.heap.size w w1 := ((Below.refl _ _).alloc (Nat.le_refl _) _).trans (below_drew' (hb.mono (by simp)))
           obtain ⟨q1, q2, q3⟩ := store6 hB own hne hbel (Nat.le_refl _) (.int .i64 pk) (.string nm) (.int .i64 pa) (.int .i64 pb) (.int .i64 pc) (.int .i64 pl)
           exact ⟨w.heap.size, Nat.le_refl _, rfl, q1, own_more q2 (by simp), q3⟩)
  case rest =>
    obtain ⟨b, hbw, rfl, hB, own, hbel⟩ := hcut
    have hEe := endsAt_in Hp.out
    rw [hEe] at own
    have hE3 := Pl.ends_len x
    obtain ⟨E, hE⟩ : ∃ E, Pl.ends x = E := ⟨_, rfl⟩
    rw [hE] at own hE3
    have HEe := Lib.hid hE
    obtain ⟨m, hm⟩ : ∃ m, E.length = m := ⟨_, rfl⟩
    rw [hm] at own hE3
    have Hm := Lib.hid hm
    clear hEe hE hm
    have b1 : wc.cell? ⟨b, 1, none⟩ = some (.string nm) := hB.cell 1
    have b0 : wc.cell? ⟨b, 0, none⟩ = some (.int .i64 pk) := hB.cell 0
    have b4 : wc.cell? ⟨b, 4, none⟩ = some (.int .i64 pc) := hB.cell 4
    have b5 : wc.cell? ⟨b, 5, none⟩ = some (.int .i64 pl) := hB.cell 5
    clear hB c0 c1 c2 c3 c4 c5
    obtain ⟨Av, cv, rfl, v1, v2⟩ := own_form own
    by_cases h0 : m = 0
    · have d0 : ((m : Int) == 0) = true := by simp; omega
      have Hs : Hid (Pl.sound x = false) := Lib.hid (sound_noends (by rw [HEe.out]; exact List.eq_nil_of_length_eq_zero (by rw [Hm.out]; exact h0)))
      clear h0
      go_wp2_with fail
      go_ret
      exact ⟨retb Hs.out.symm, hbel⟩
    · have d0 : ((m : Int) == 0) = false := by simp; omega
      by_cases hnm : Pl.nameOk nm = true
      · go_wp2_with (go_at_call 51; refine (name06_c nm wc hs).mono ?_; rintro e w' ⟨rfl, rfl⟩)
        obtain ⟨g, cap', hAe, hg1, hg2⟩ := own.form (by omega)
        obtain ⟨rfl, _, rfl⟩ : Av = some ⟨g, 0, none⟩ ∧ m = m ∧ cv = cap' := by simpa using hAe
        clear hAe
        go_loopw [7] (fun p wr => ∃ t : Nat, t ≤ m ∧ p = .int .i64 t ∧ Hid (Pl.nodes E [] = Pl.nodes (E.drop t) (E.take t)) ∧ Below wc.heap.size wc wr) (fun p _ => m - (intOf p).toNat)
        case atStart => exact ⟨0, by omega, rfl, Lib.hid rfl, Below.refl _ _⟩
        case round =>
          obtain ⟨t, ht, rfl, hnd, hbr⟩ := hrel
          have own' := own_below own hbr
          have hbel' := below_step hbel hbr
          by_cases hlt : t < m
          · have hc0 := own_cell own' hlt
            obtain ⟨y, hy⟩ : ∃ y, E[t]? = some y := ⟨_, List.getElem?_eq_getElem (by rw [Hm.out]; exact hlt)⟩
            rw [List.getD_eq_getElem?_getD, hy, Option.getD_some] at hc0
            have Hst := Lib.hid (hnd.out.trans (nodes_step hy))
            have Hfalse : Hid ((decide (0 ≤ y) && decide (y < 64) && !(E.take t).contains y) = false → Pl.sound x = false) := Lib.hid (fun h => sound_nonodes (by rw [HEe.out, Hst.out, h]; rfl))
            have hlti : (t : Int) < (m : Int) := by omega
            have htc : (t : Int) ≤ (cv : Int) := by omega
            have htc' : t ≤ cv := by omega
            have Hhas := Lib.hid (fun q => has_c (some ⟨g, 0, none⟩) t cv (E.take t) y (wr.drewN q) (by omega) ((own_IR own').take (by omega)))
            clear hy hnd
            by_cases y0 : y < 0
            · have d1 : decide (y < 0) = true := by simpa using y0
              have Hs := Lib.hid (Hfalse.out (by simp; omega))
              go_wp2_with fail
              go_quiet (fail)
              go_wp2_with fail
              go_ret
              exact ⟨retb Hs.out.symm, below_drewN hbel' _⟩
            · have d1 : decide (y < 0) = false := by simpa using y0
              by_cases y1 : 64 ≤ y
              · have d2 : decide (64 ≤ y) = true := by simpa using y1
                have Hs := Lib.hid (Hfalse.out (by simp; omega))
                go_wp2_with fail
                go_quiet (fail)
                go_wp2_with fail
                go_ret
                exact ⟨retb Hs.out.symm, below_drewN hbel' _⟩
              · have d2 : decide (64 ≤ y) = false := by simpa using y1
                by_cases hh : hasB (E.take t) y = true
                · have Hs := Lib.hid (Hfalse.out (by unfold hasB at hh; rw [hh]; simp))
                  have HhT : Hid (∀ q, Calls Tryd.prog 48 #[.slice (some ⟨g, 0, none⟩) t cv, .int .i64 y] (wr.drewN q) fun e w' => e = .returned (.bool true) ∧ w' = wr.drewN q) := Lib.hid (fun q => (Hhas.out q).mono fun _ _ h => ⟨by rw [← hh]; exact h.1, h.2.symm⟩)
                  clear hh Hhas
                  go_wp2_with fail
                  go_quiet ((go_at_call 48; exact Calls.quiet_of_same (HhT.out _)))
                  go_wp2_with fail
                  go_ret
                  exact ⟨retb Hs.out.symm, below_drewN hbel' _⟩
                · have hf : hasB (E.take t) y = false := by simpa using hh
                  have HhF : Hid (∀ q, Calls Tryd.prog 48 #[.slice (some ⟨g, 0, none⟩) t cv, .int .i64 y] (wr.drewN q) fun e w' => e = .returned (.bool false) ∧ w' = wr.drewN q) := Lib.hid (fun q => (Hhas.out q).mono fun _ _ h => ⟨by rw [← hf]; exact h.1, h.2.symm⟩)
                  have Hnx : Hid (Pl.nodes E [] = Pl.nodes (E.drop (t + 1)) (E.take (t + 1))) := Lib.hid (by rw [Hst.out]; unfold hasB at hf; rw [hf]; simp; omega)
                  clear hh hf Hhas
                  go_wp2_with fail
                  go_quiet ((go_at_call 48; exact Calls.quiet_of_same (HhF.out _)))
                  go_wp2_with fail
                  go_roundw
                  case rel => exact ⟨t + 1, by omega, by go_num, Hnx, below_drewN hbr _⟩
                  case measure => simp [intOf]; omega
          · obtain rfl : t = m := by omega
            have hnod : Pl.nodes (Pl.ends x) [] = true := by
              rw [HEe.out, hnd.out, List.drop_of_length_le (by rw [Hm.out]; exact Nat.le_refl _)]
              rfl
            have hne : Pl.ends x ≠ [] := by
              rw [HEe.out]
              intro h
              have := Hm.out
              rw [h] at this
              exact h0 this.symm
            have hR := sound_rest hne (by rw [Hxs.out.1]; exact hnm) hnod
            obtain ⟨hR1, hR2⟩ := sound_fields Hx.out hR
            have hl23 := ends_len_of hne
            rw [HEe.out, Hm.out, Hxs.out.2.1] at hl23
            have HR1 := Lib.hid hR1
            have HR2 := Lib.hid hR2
            have f0 := keep_cell hbr b0
            have f4 := keep_cell hbr b4
            have f5 := keep_cell hbr b5
            clear hR hR1 hR2 hnod hne hnd
            rcases hl23 with ⟨ht2, hk⟩ | ⟨ht3, hk⟩
            · have e1 : ((t : Int) == 2) = true := by simp; omega
              by_cases c0 : pc = 0
              · have e2 : (pc != 0) = false := by simpa using c0
                rcases hk with k1 | k3
                · have HR := Lib.hid (HR1.out k1)
                  have e3 : (pk == 1) = true := by simpa using k1
                  by_cases l1 : 1 ≤ pl
                  · have e4 : decide (1 ≤ pl) = true := by simpa using l1
                    have HR' : Hid (Pl.sound x = decide (pl ≤ 100000)) := Lib.hid (by rw [HR.out]; simp [c0, l1])
                    clear c0 k1 ht2
                    go_wp2_with fail
                    go_ret
                    exact ⟨retb HR'.out.symm, hbel'⟩
                  · have e4 : decide (1 ≤ pl) = false := by simpa using l1
                    have HR' : Hid (Pl.sound x = false) := Lib.hid (by rw [HR.out]; simp [c0]; omega)
                    clear c0 k1 ht2
                    go_wp2_with fail
                    go_ret
                    exact ⟨retb HR'.out.symm, hbel'⟩
                · have HR := Lib.hid (HR2.out (by omega))
                  have e3 : (pk == 1) = false := by simp [k3]
                  by_cases l0 : pl = 0
                  · have e4 : (pl == 0) = true := by simpa using l0
                    have HR' : Hid (Pl.sound x = true) := Lib.hid (by rw [HR.out]; simp [l0, c0])
                    clear l0 c0 k3 ht2
                    go_wp2_with fail
                    go_ret
                    exact ⟨retb HR'.out.symm, hbel'⟩
                  · have e4 : (pl == 0) = false := by simpa using l0
                    have HR' : Hid (Pl.sound x = false) := Lib.hid (by rw [HR.out]; simp [l0])
                    clear l0 c0 k3 ht2
                    go_wp2_with fail
                    go_ret
                    exact ⟨retb HR'.out.symm, hbel'⟩
              · have e2 : (pc != 0) = true := by simpa using c0
                have HR' : Hid (Pl.sound x = false) := Lib.hid (by
                  rcases hk with k1 | k3
                  · rw [HR1.out k1]; simp [c0]
                  · rw [HR2.out (by omega)]; simp [c0, k3])
                clear c0 hk ht2
                go_wp2_with fail
                go_ret
                exact ⟨retb HR'.out.symm, hbel'⟩
            · have e1 : ((t : Int) == 2) = false := by simp; omega
              have HR := Lib.hid (HR2.out (by omega))
              have e3 : (pk == 1) = false := by simp [hk]
              by_cases l0 : pl = 0
              · have e4 : (pl == 0) = true := by simpa using l0
                have HR' : Hid (Pl.sound x = true) := Lib.hid (by rw [HR.out]; simp [l0, hk])
                clear l0 hk ht3
                go_wp2_with fail
                go_ret
                exact ⟨retb HR'.out.symm, hbel'⟩
              · have e4 : (pl == 0) = false := by simpa using l0
                have HR' : Hid (Pl.sound x = false) := Lib.hid (by rw [HR.out]; simp [l0])
                clear l0 hk ht3
                go_wp2_with fail
                go_ret
                exact ⟨retb HR'.out.symm, hbel'⟩
      · have hnf : Pl.nameOk nm = false := by simpa using hnm
        have Hs : Hid (Pl.sound x = false) := Lib.hid (sound_noname (by rw [Hxs.out.1]; exact hnf))
        clear hnm
        go_wp2_with (go_at_call 51; refine (name06_c nm wc hs).mono ?_; rintro e w' ⟨rfl, rfl⟩)
        go_ret
        exact ⟨retb Hs.out.symm, hbel⟩
end Go.Proofs.YtkkpkekkaoccbaaDoor
