/- The walks of a line's wagon, program and reference. -/
import Derived.Test.YtiegpkbollihgaaDoorFnWords
import Derived.Test.YtiegpkbollihgaaDoorFnW8
import Derived.StillTailTactics
import Derived.Deep.CutBlock
namespace Go.Proofs.YtiegpkbollihgaaDoor
open Go.RowKit
def storeW (W : World) (b : Nat) (x : WG) : World := (((((((W.setCell ⟨b, 0, none⟩ (.string x.nu)).setCell ⟨b, 1, none⟩ (.int .i64 x.len)).setCell ⟨b, 2, none⟩ (.int .i64 x.ax)).setCell ⟨b, 3, none⟩ (.int .i64 x.ms)).setCell ⟨b, 4, none⟩ (.int .i64 x.br)).setCell ⟨b, 5, none⟩ (.int .i64 x.gd)).setCell ⟨b, 6, none⟩ (.bool x.gt)).setCell ⟨b, 7, none⟩ (.string x.de)
theorem storeW_blk {W : World} {b : Nat} {t : TypeId} (x : WG) (h : Blk W b t #[.string ⟨#[]⟩, .int .i64 0, .int .i64 0, .int .i64 0, .int .i64 0, .int .i64 0, .bool false, .string ⟨#[]⟩]) : Blk (storeW W b x) b t #[.string x.nu, .int .i64 x.len, .int .i64 x.ax, .int .i64 x.ms, .int .i64 x.br, .int .i64 x.gd, .bool x.gt, .string x.de] := by
  have h0 : Blk (W.setCell ⟨b, 0, none⟩ (.string x.nu)) b t #[.string x.nu, .int .i64 0, .int .i64 0, .int .i64 0, .int .i64 0, .int .i64 0, .bool false, .string ⟨#[]⟩] := h.set_ 0 _
  have h1 : Blk ((W.setCell ⟨b, 0, none⟩ (.string x.nu)).setCell ⟨b, 1, none⟩ (.int .i64 x.len)) b t #[.string x.nu, .int .i64 x.len, .int .i64 0, .int .i64 0, .int .i64 0, .int .i64 0, .bool false, .string ⟨#[]⟩] := h0.set_ 1 _
  have h2 : Blk (((W.setCell ⟨b, 0, none⟩ (.string x.nu)).setCell ⟨b, 1, none⟩ (.int .i64 x.len)).setCell ⟨b, 2, none⟩ (.int .i64 x.ax)) b t #[.string x.nu, .int .i64 x.len, .int .i64 x.ax, .int .i64 0, .int .i64 0, .int .i64 0, .bool false, .string ⟨#[]⟩] := h1.set_ 2 _
  have h3 : Blk ((((W.setCell ⟨b, 0, none⟩ (.string x.nu)).setCell ⟨b, 1, none⟩ (.int .i64 x.len)).setCell ⟨b, 2, none⟩ (.int .i64 x.ax)).setCell ⟨b, 3, none⟩ (.int .i64 x.ms)) b t #[.string x.nu, .int .i64 x.len, .int .i64 x.ax, .int .i64 x.ms, .int .i64 0, .int .i64 0, .bool false, .string ⟨#[]⟩] := h2.set_ 3 _
  have h4 : Blk (((((W.setCell ⟨b, 0, none⟩ (.string x.nu)).setCell ⟨b, 1, none⟩ (.int .i64 x.len)).setCell ⟨b, 2, none⟩ (.int .i64 x.ax)).setCell ⟨b, 3, none⟩ (.int .i64 x.ms)).setCell ⟨b, 4, none⟩ (.int .i64 x.br)) b t #[.string x.nu, .int .i64 x.len, .int .i64 x.ax, .int .i64 x.ms, .int .i64 x.br, .int .i64 0, .bool false, .string ⟨#[]⟩] := h3.set_ 4 _
  have h5 : Blk ((((((W.setCell ⟨b, 0, none⟩ (.string x.nu)).setCell ⟨b, 1, none⟩ (.int .i64 x.len)).setCell ⟨b, 2, none⟩ (.int .i64 x.ax)).setCell ⟨b, 3, none⟩ (.int .i64 x.ms)).setCell ⟨b, 4, none⟩ (.int .i64 x.br)).setCell ⟨b, 5, none⟩ (.int .i64 x.gd)) b t #[.string x.nu, .int .i64 x.len, .int .i64 x.ax, .int .i64 x.ms, .int .i64 x.br, .int .i64 x.gd, .bool false, .string ⟨#[]⟩] := h4.set_ 5 _
  have h6 : Blk (((((((W.setCell ⟨b, 0, none⟩ (.string x.nu)).setCell ⟨b, 1, none⟩ (.int .i64 x.len)).setCell ⟨b, 2, none⟩ (.int .i64 x.ax)).setCell ⟨b, 3, none⟩ (.int .i64 x.ms)).setCell ⟨b, 4, none⟩ (.int .i64 x.br)).setCell ⟨b, 5, none⟩ (.int .i64 x.gd)).setCell ⟨b, 6, none⟩ (.bool x.gt)) b t #[.string x.nu, .int .i64 x.len, .int .i64 x.ax, .int .i64 x.ms, .int .i64 x.br, .int .i64 x.gd, .bool x.gt, .string ⟨#[]⟩] := h5.set_ 6 _
  have h7 : Blk ((((((((W.setCell ⟨b, 0, none⟩ (.string x.nu)).setCell ⟨b, 1, none⟩ (.int .i64 x.len)).setCell ⟨b, 2, none⟩ (.int .i64 x.ax)).setCell ⟨b, 3, none⟩ (.int .i64 x.ms)).setCell ⟨b, 4, none⟩ (.int .i64 x.br)).setCell ⟨b, 5, none⟩ (.int .i64 x.gd)).setCell ⟨b, 6, none⟩ (.bool x.gt)).setCell ⟨b, 7, none⟩ (.string x.de)) b t #[.string x.nu, .int .i64 x.len, .int .i64 x.ax, .int .i64 x.ms, .int .i64 x.br, .int .i64 x.gd, .bool x.gt, .string x.de] := h6.set_ 7 _
  exact h7
theorem storeW_grown (W : World) (b : Nat) (x : WG) : W.grownBy (storeW W b x) (some b) := by
  have g : ∀ (W : World) (j : Nat) (u : Value), W.grownBy (W.setCell ⟨b, j, none⟩ u) (some b) := fun W j u => ⟨rfl, rfl, rfl, by simp [World.setCell], fun j' _ hne => Below.heap_setCell W ⟨b, j, none⟩ u j' (fun e => hne (by rw [e]))⟩
  exact (((((((g _ _ _).trans (g _ _ _)).trans (g _ _ _)).trans (g _ _ _)).trans (g _ _ _)).trans (g _ _ _)).trans (g _ _ _)).trans (g _ _ _)
def wgZ : WG := ⟨⟨#[]⟩, 0, 0, 0, 0, 0, false, ⟨#[]⟩⟩
def WagQ (W : List (List UInt8)) (x : WG) (ok : Bool) : Prop := match Fn.wagonB W with
  | none => ok = false ∧ x = wgZ
  | some y => ok = true ∧ x = y
def WagR (W : List (List UInt8)) (w : World) (e : Ending) (w' : World) : Prop := ∃ x ok, e = .returned (.tuple #[wgV x, .bool ok]) ∧ WagQ W x ok ∧ Below w.heap.size w w'
theorem wag_end {Ws : List (List UInt8)} {w W : World} (hb : Blk W w.heap.size 34 #[.string ⟨#[]⟩, .int .i64 0, .int .i64 0, .int .i64 0, .int .i64 0, .int .i64 0, .bool false, .string ⟨#[]⟩]) (hw : Below w.heap.size w W) (x : WG) (ok : Bool) (hq : WagQ Ws x ok) :
    Blk (storeW W w.heap.size x) w.heap.size 34 #[.string x.nu, .int .i64 x.len, .int .i64 x.ax, .int .i64 x.ms, .int .i64 x.br, .int .i64 x.gd, .bool x.gt, .string x.de] ∧ WagR Ws w (.returned (.tuple #[wgV x, .bool ok])) (storeW W w.heap.size x) :=
  ⟨storeW_blk x hb, x, ok, rfl, hq, hw.grown (storeW_grown W w.heap.size x) hw.size (fun g e => by have := Option.some.inj e; omega)⟩
namespace Fn
theorem wag_no {W : List (List UInt8)} (h : W.length ≠ 9 ∨ plainW (wd W 1) = false ∨ plainW (wd W 8) = false ∨ (wd W 7 ≠ wGentle ∧ wd W 7 ≠ wFirm)) : wagonB W = none := by unfold wagonB; rw [if_pos h]
theorem wag_go {W : List (List UInt8)} (h : ¬ (W.length ≠ 9 ∨ plainW (wd W 1) = false ∨ plainW (wd W 8) = false ∨ (wd W 7 ≠ wGentle ∧ wd W 7 ≠ wFirm))) : wagonB W = match ints ((W.drop 2).take 5) with
    | none => none
    | some l => some ⟨baOf (wd W 1), iAt l 0, iAt l 1, iAt l 2, iAt l 3, iAt l 4, decide (wd W 7 = wGentle), baOf (wd W 8)⟩ := by unfold wagonB; rw [if_neg h]; rfl
end Fn
theorem wagQ_no {W : List (List UInt8)} (h : Fn.wagonB W = none) : WagQ W wgZ false := by unfold WagQ; rw [h]; exact ⟨rfl, rfl⟩
theorem wagQ_ok {W : List (List UInt8)} {x : WG} (h : Fn.wagonB W = some x) : WagQ W x true := by unfold WagQ; rw [h]; exact ⟨rfl, rfl⟩
theorem ba_eqW (p q : List UInt8) : ((baOf p).toList == q) = decide (p = q) := by
  rw [Lib.toList_data, baOf_data]
  by_cases h : p = q
  · rw [decide_eq_true h, h]; simp
  · rw [decide_eq_false h]; exact beq_eq_false_iff_ne.2 h
theorem wd_sub {W : List (List UInt8)} (h : ∀ j, (Fn.wd W j).length ≤ 1000000) (j : Nat) : (Fn.wd ((W.drop 2).take 5) j).length ≤ 1000000 := by
  by_cases hj : j < 5
  · rw [wd_take hj, wd_drop]; exact h _
  · unfold Fn.wd
    rw [List.getD_eq_getElem?_getD, List.getElem?_eq_none (by rw [List.length_take]; omega)]
    exact Nat.zero_le _
set_option maxRecDepth 100000 in
set_option maxHeartbeats 16000000 in
theorem fwagon_c (g n c : Nat) (W : List (List UInt8)) (w : World) (hnc : n ≤ c) (hcm : c ≤ maxLen) (h : StrR w (some ⟨g, 0, none⟩) n W) (hz : ∀ j, (Fn.wd W j).length ≤ 1000000) :
    Calls Tryd.prog 48 #[.slice (some ⟨g, 0, none⟩) n c] w (WagR W w) := by
  have HWn := Lib.hid h.1
  have Hz := Lib.hid hz
  unfold maxLen at hcm
  obtain ⟨W1, hW1⟩ : ∃ W1, w.alloc (.cells #[.string ⟨#[]⟩, .int .i64 0, .int .i64 0, .int .i64 0, .int .i64 0, .int .i64 0, .bool false, .string ⟨#[]⟩] 34) = W1 := ⟨_, rfl⟩
  have hR : Blk W1 w.heap.size 34 #[.string ⟨#[]⟩, .int .i64 0, .int .i64 0, .int .i64 0, .int .i64 0, .int .i64 0, .bool false, .string ⟨#[]⟩] := by rw [← hW1]; exact Blk.new w _ _
  have hb1 : Below w.heap.size w W1 := by rw [← hW1]; exact (Below.refl _ _).alloc (Nat.le_refl _) _
  have H := Lib.hid (h.below hb1)
  clear h hz
  by_cases h9 : n = 9
  case neg =>
    have d9 : ((n : Int) != 9) = true := by simp; omega
    have Hno := Lib.hid (Fn.wag_no (W := W) (.inl (by rw [HWn.out]; exact h9)))
    clear h9
    go_enter Tryd.func48, Tryd.ntmps48
    have HQ := Lib.hid (wag_end (Ws := W) hR hb1 wgZ false (wagQ_no (Hno.out)))
    have r0 : W1.cell? ⟨w.heap.size, 0, none⟩ = some (.string ⟨#[]⟩) := hR.cell 0
    have z0 : W1.frozen? ⟨w.heap.size, 0, none⟩ = false := hR.frozen 0
    have r1 : W1.cell? ⟨w.heap.size, 1, none⟩ = some (.int .i64 0) := hR.cell 1
    have z1 : W1.frozen? ⟨w.heap.size, 1, none⟩ = false := hR.frozen 1
    have r2 : W1.cell? ⟨w.heap.size, 2, none⟩ = some (.int .i64 0) := hR.cell 2
    have z2 : W1.frozen? ⟨w.heap.size, 2, none⟩ = false := hR.frozen 2
    have r3 : W1.cell? ⟨w.heap.size, 3, none⟩ = some (.int .i64 0) := hR.cell 3
    have z3 : W1.frozen? ⟨w.heap.size, 3, none⟩ = false := hR.frozen 3
    have r4 : W1.cell? ⟨w.heap.size, 4, none⟩ = some (.int .i64 0) := hR.cell 4
    have z4 : W1.frozen? ⟨w.heap.size, 4, none⟩ = false := hR.frozen 4
    have r5 : W1.cell? ⟨w.heap.size, 5, none⟩ = some (.int .i64 0) := hR.cell 5
    have z5 : W1.frozen? ⟨w.heap.size, 5, none⟩ = false := hR.frozen 5
    have r6 : W1.cell? ⟨w.heap.size, 6, none⟩ = some (.bool false) := hR.cell 6
    have z6 : W1.frozen? ⟨w.heap.size, 6, none⟩ = false := hR.frozen 6
    have r7 : W1.cell? ⟨w.heap.size, 7, none⟩ = some (.string ⟨#[]⟩) := hR.cell 7
    have z7 : W1.frozen? ⟨w.heap.size, 7, none⟩ = false := hR.frozen 7
    go_wp2_with fail
    obtain ⟨hB, hE⟩ := HQ.out
    change bodyPost _ _ _ _ _ (storeW W1 w.heap.size wgZ)
    generalize storeW W1 w.heap.size wgZ = WW at hB hE ⊢
    have q0 : WW.cell? ⟨w.heap.size, 0, none⟩ = some (.string ⟨#[]⟩) := hB.cell 0
    have q1 : WW.cell? ⟨w.heap.size, 1, none⟩ = some (.int .i64 0) := hB.cell 1
    have q2 : WW.cell? ⟨w.heap.size, 2, none⟩ = some (.int .i64 0) := hB.cell 2
    have q3 : WW.cell? ⟨w.heap.size, 3, none⟩ = some (.int .i64 0) := hB.cell 3
    have q4 : WW.cell? ⟨w.heap.size, 4, none⟩ = some (.int .i64 0) := hB.cell 4
    have q5 : WW.cell? ⟨w.heap.size, 5, none⟩ = some (.int .i64 0) := hB.cell 5
    have q6 : WW.cell? ⟨w.heap.size, 6, none⟩ = some (.bool false) := hB.cell 6
    have q7 : WW.cell? ⟨w.heap.size, 7, none⟩ = some (.string ⟨#[]⟩) := hB.cell 7
    exact bodyPost_ret (v := .tuple #[wgV wgZ, .bool false]) (by simp [results, wgV, wgZ, Tryd.results48, go_sem, q0, q1, q2, q3, q4, q5, q6, q7]) rfl hE
  case pos =>
  subst h9
  have d9 : (((9 : Nat) : Int) != 9) = false := rfl
  obtain ⟨_, e0, _, hc⟩ := H.out.2 (by omega)
  obtain rfl := Option.some.inj e0
  have c1 : W1.cell? ⟨g, 1, none⟩ = some (.string (baOf (Fn.wd W 1))) := hc 1 (by omega)
  have c7 : W1.cell? ⟨g, 7, none⟩ = some (.string (baOf (Fn.wd W 7))) := hc 7 (by omega)
  have c8 : W1.cell? ⟨g, 8, none⟩ = some (.string (baOf (Fn.wd W 8))) := hc 8 (by omega)
  have hz1 := Hz.out 1
  have hz8 := Hz.out 8
  have hbs : ∀ p : List UInt8, (baOf p).size = p.length := fun p => by simp [baOf, ByteArray.size]
  obtain ⟨p1, hp1⟩ : ∃ p, Fn.plainW (Fn.wd W 1) = p := ⟨_, rfl⟩
  obtain ⟨p8, hp8⟩ : ∃ p, Fn.plainW (Fn.wd W 8) = p := ⟨_, rfl⟩
  have HP1 : Hid (∀ V, Calls Tryd.prog 47 #[.string (baOf (Fn.wd W 1))] V fun e w' => e = .returned (.bool p1) ∧ V = w') := Lib.hid (fun V => by
    have := plain_c (baOf (Fn.wd W 1)) V (by rw [hbs]; unfold maxLen; omega)
    rwa [baOf_data, hp1] at this)
  have HP8 : Hid (∀ V, Calls Tryd.prog 47 #[.string (baOf (Fn.wd W 8))] V fun e w' => e = .returned (.bool p8) ∧ V = w') := Lib.hid (fun V => by
    have := plain_c (baOf (Fn.wd W 8)) V (by rw [hbs]; unfold maxLen; omega)
    rwa [baOf_data, hp8] at this)
  obtain ⟨s1, hs1⟩ : ∃ s, baOf (Fn.wd W 1) = s := ⟨_, rfl⟩
  obtain ⟨s7, hs7⟩ : ∃ s, baOf (Fn.wd W 7) = s := ⟨_, rfl⟩
  obtain ⟨s8, hs8⟩ : ∃ s, baOf (Fn.wd W 8) = s := ⟨_, rfl⟩
  obtain ⟨bg, hbg⟩ : ∃ b, decide (Fn.wd W 7 = Fn.wGentle) = b := ⟨_, rfl⟩
  obtain ⟨bf, hbf⟩ : ∃ b, decide (Fn.wd W 7 = Fn.wFirm) = b := ⟨_, rfl⟩
  have eg : (s7.toList == [103, 101, 110, 116, 108, 101]) = bg := by rw [← hs7, ba_eqW]; exact hbg
  have ef : (s7.toList == [102, 105, 114, 109]) = bf := by rw [← hs7, ba_eqW]; exact hbf
  have HP := Lib.hid (And.intro hp1 hp8)
  have HG := Lib.hid (And.intro hbg hbf)
  have HS := Lib.hid (And.intro hs1 hs8)
  have Hsub := Lib.hid (H.out.sub (k := 2) (m := 5) (by omega))
  rw [hs1] at c1 HP1
  rw [hs7] at c7
  rw [hs8] at c8 HP8
  have h9c : (9 : Int) ≤ (c : Int) := by omega
  have h7c : (7 : Int) ≤ (c : Int) := by omega
  have hc2 : ¬ c = 2 := by omega
  clear hp1 hp8 hbg hbf hs1 hs7 hs8 hc e0 hz1 hz8 hbs
  go_enter Tryd.func48, Tryd.ntmps48
  go_upto_region 1 with fail
  go_cut [34] from 6 to 71 (fun b V => b = .bool (!(p1 && p8 && (bg || bf))) ∧ V = W1)
  case first =>
    cases p1 with
    | false =>
      go_wp2_with fail
      refine (HP1.out _).mono ?_
      rintro e w2 ⟨rfl, rfl⟩
      go_wp2_with fail
      go_meet
      exact ⟨by simp, rfl⟩
    | true =>
      cases p8 with
      | false =>
        go_wp2_with fail
        refine (HP1.out _).mono ?_
        rintro e w2 ⟨rfl, rfl⟩
        go_wp2_with fail
        refine (HP8.out _).mono ?_
        rintro e w2 ⟨rfl, rfl⟩
        go_wp2_with fail
        go_meet
        exact ⟨by simp, rfl⟩
      | true =>
        cases bg with
        | true =>
          go_wp2_with fail
          refine (HP1.out _).mono ?_
          rintro e w2 ⟨rfl, rfl⟩
          go_wp2_with fail
          refine (HP8.out _).mono ?_
          rintro e w2 ⟨rfl, rfl⟩
          go_wp2_with fail
          go_meet
          exact ⟨by simp, rfl⟩
        | false =>
          cases bf with
          | true =>
            go_wp2_with fail
            refine (HP1.out _).mono ?_
            rintro e w2 ⟨rfl, rfl⟩
            go_wp2_with fail
            refine (HP8.out _).mono ?_
            rintro e w2 ⟨rfl, rfl⟩
            go_wp2_with fail
            go_meet
            exact ⟨by simp, rfl⟩
          | false =>
            go_wp2_with fail
            refine (HP1.out _).mono ?_
            rintro e w2 ⟨rfl, rfl⟩
            go_wp2_with fail
            refine (HP8.out _).mono ?_
            rintro e w2 ⟨rfl, rfl⟩
            go_wp2_with fail
            go_meet
            exact ⟨by simp, rfl⟩
  case rest =>
    obtain ⟨rfl, hwc⟩ := hcut
    subst hwc
    by_cases hgood : (p1 && p8 && (bg || bf)) = true
    case neg =>
      have hbad : (p1 && p8 && (bg || bf)) = false := by simpa using hgood
      have Hno : Hid (Fn.wagonB W = none) := Lib.hid (Fn.wag_no (by
        have h1 := HP.out.1
        have h2 := HP.out.2
        have h3 := HG.out.1
        have h4 := HG.out.2
        cases p1
        · exact .inr (.inl h1)
        cases p8
        · exact .inr (.inr (.inl h2))
        cases bg
        · cases bf
          · exact .inr (.inr (.inr ⟨of_decide_eq_false h3, of_decide_eq_false h4⟩))
          · cases hbad
        · cases hbad))
      rw [hbad]
      clear hgood hbad
      have HQ := Lib.hid (wag_end (Ws := W) hR hb1 wgZ false (wagQ_no (Hno.out)))
      have r0 : wc.cell? ⟨w.heap.size, 0, none⟩ = some (.string ⟨#[]⟩) := hR.cell 0
      have z0 : wc.frozen? ⟨w.heap.size, 0, none⟩ = false := hR.frozen 0
      have r1 : wc.cell? ⟨w.heap.size, 1, none⟩ = some (.int .i64 0) := hR.cell 1
      have z1 : wc.frozen? ⟨w.heap.size, 1, none⟩ = false := hR.frozen 1
      have r2 : wc.cell? ⟨w.heap.size, 2, none⟩ = some (.int .i64 0) := hR.cell 2
      have z2 : wc.frozen? ⟨w.heap.size, 2, none⟩ = false := hR.frozen 2
      have r3 : wc.cell? ⟨w.heap.size, 3, none⟩ = some (.int .i64 0) := hR.cell 3
      have z3 : wc.frozen? ⟨w.heap.size, 3, none⟩ = false := hR.frozen 3
      have r4 : wc.cell? ⟨w.heap.size, 4, none⟩ = some (.int .i64 0) := hR.cell 4
      have z4 : wc.frozen? ⟨w.heap.size, 4, none⟩ = false := hR.frozen 4
      have r5 : wc.cell? ⟨w.heap.size, 5, none⟩ = some (.int .i64 0) := hR.cell 5
      have z5 : wc.frozen? ⟨w.heap.size, 5, none⟩ = false := hR.frozen 5
      have r6 : wc.cell? ⟨w.heap.size, 6, none⟩ = some (.bool false) := hR.cell 6
      have z6 : wc.frozen? ⟨w.heap.size, 6, none⟩ = false := hR.frozen 6
      have r7 : wc.cell? ⟨w.heap.size, 7, none⟩ = some (.string ⟨#[]⟩) := hR.cell 7
      have z7 : wc.frozen? ⟨w.heap.size, 7, none⟩ = false := hR.frozen 7
      go_wp2_with fail
      obtain ⟨hB, hE⟩ := HQ.out
      change bodyPost _ _ _ _ _ (storeW wc w.heap.size wgZ)
      generalize storeW wc w.heap.size wgZ = WW at hB hE ⊢
      have q0 : WW.cell? ⟨w.heap.size, 0, none⟩ = some (.string ⟨#[]⟩) := hB.cell 0
      have q1 : WW.cell? ⟨w.heap.size, 1, none⟩ = some (.int .i64 0) := hB.cell 1
      have q2 : WW.cell? ⟨w.heap.size, 2, none⟩ = some (.int .i64 0) := hB.cell 2
      have q3 : WW.cell? ⟨w.heap.size, 3, none⟩ = some (.int .i64 0) := hB.cell 3
      have q4 : WW.cell? ⟨w.heap.size, 4, none⟩ = some (.int .i64 0) := hB.cell 4
      have q5 : WW.cell? ⟨w.heap.size, 5, none⟩ = some (.int .i64 0) := hB.cell 5
      have q6 : WW.cell? ⟨w.heap.size, 6, none⟩ = some (.bool false) := hB.cell 6
      have q7 : WW.cell? ⟨w.heap.size, 7, none⟩ = some (.string ⟨#[]⟩) := hB.cell 7
      exact bodyPost_ret (v := .tuple #[wgV wgZ, .bool false]) (by simp [results, wgV, wgZ, Tryd.results48, go_sem, q0, q1, q2, q3, q4, q5, q6, q7]) rfl hE
    case pos =>
      have Hgo : Hid (Fn.wagonB W = match Fn.ints ((W.drop 2).take 5) with
          | none => none
          | some l => some ⟨baOf (Fn.wd W 1), Fn.iAt l 0, Fn.iAt l 1, Fn.iAt l 2, Fn.iAt l 3, Fn.iAt l 4, decide (Fn.wd W 7 = Fn.wGentle), baOf (Fn.wd W 8)⟩) := Lib.hid ((Fn.wag_go (by
        have h1 := HP.out.1
        have h2 := HP.out.2
        have h3 := HG.out.1
        have h4 := HG.out.2
        simp only [Bool.and_eq_true, Bool.or_eq_true] at hgood
        rintro (h | h | h | ⟨ha, hb⟩)
        · exact h HWn.out
        · rw [h1, hgood.1.1] at h; cases h
        · rw [h2, hgood.1.2] at h; cases h
        · rcases hgood.2 with h | h
          · rw [h] at h3; exact ha (of_decide_eq_true h3)
          · rw [h] at h4; exact hb (of_decide_eq_true h4))).trans rfl)
      rw [hgood]
      clear hgood
      have HI := Lib.hid (all_c (some ⟨g, 2, none⟩) 5 (c - 2) ((W.drop 2).take 5) 5 wc (by omega) Hsub.out (fun j => wd_sub Hz.out j))
      go_wp2_with fail
      refine HI.out.mono ?_
      rintro e w2 ⟨h, _⟩
      obtain ⟨⟨v, ok, rfl, hm⟩, hb2⟩ := h (by trivial)
      have hR2 := hR.below hb2 hR.lt
      have hb2' := below_step hb1 hb2
      have c1' := keep_cell hb2 c1
      have c7' := keep_cell hb2 c7
      have c8' := keep_cell hb2 c8
      clear HI Hsub HP1 HP8 c1 c7 c8 hR hb1
      cases hi : Fn.ints ((W.drop 2).take 5) with
      | none =>
        rw [hi] at hm
        obtain ⟨rfl, rfl⟩ := hm
        have Hno : Hid (Fn.wagonB W = none) := Lib.hid (by rw [Hgo.out, hi])
        clear hi
        have HQ := Lib.hid (wag_end (Ws := W) hR2 hb2' wgZ false (wagQ_no (Hno.out)))
        have r0 : w2.cell? ⟨w.heap.size, 0, none⟩ = some (.string ⟨#[]⟩) := hR2.cell 0
        have z0 : w2.frozen? ⟨w.heap.size, 0, none⟩ = false := hR2.frozen 0
        have r1 : w2.cell? ⟨w.heap.size, 1, none⟩ = some (.int .i64 0) := hR2.cell 1
        have z1 : w2.frozen? ⟨w.heap.size, 1, none⟩ = false := hR2.frozen 1
        have r2 : w2.cell? ⟨w.heap.size, 2, none⟩ = some (.int .i64 0) := hR2.cell 2
        have z2 : w2.frozen? ⟨w.heap.size, 2, none⟩ = false := hR2.frozen 2
        have r3 : w2.cell? ⟨w.heap.size, 3, none⟩ = some (.int .i64 0) := hR2.cell 3
        have z3 : w2.frozen? ⟨w.heap.size, 3, none⟩ = false := hR2.frozen 3
        have r4 : w2.cell? ⟨w.heap.size, 4, none⟩ = some (.int .i64 0) := hR2.cell 4
        have z4 : w2.frozen? ⟨w.heap.size, 4, none⟩ = false := hR2.frozen 4
        have r5 : w2.cell? ⟨w.heap.size, 5, none⟩ = some (.int .i64 0) := hR2.cell 5
        have z5 : w2.frozen? ⟨w.heap.size, 5, none⟩ = false := hR2.frozen 5
        have r6 : w2.cell? ⟨w.heap.size, 6, none⟩ = some (.bool false) := hR2.cell 6
        have z6 : w2.frozen? ⟨w.heap.size, 6, none⟩ = false := hR2.frozen 6
        have r7 : w2.cell? ⟨w.heap.size, 7, none⟩ = some (.string ⟨#[]⟩) := hR2.cell 7
        have z7 : w2.frozen? ⟨w.heap.size, 7, none⟩ = false := hR2.frozen 7
        go_wp2_with fail
        obtain ⟨hB, hE⟩ := HQ.out
        change bodyPost _ _ _ _ _ (storeW w2 w.heap.size wgZ)
        generalize storeW w2 w.heap.size wgZ = WW at hB hE ⊢
        have q0 : WW.cell? ⟨w.heap.size, 0, none⟩ = some (.string ⟨#[]⟩) := hB.cell 0
        have q1 : WW.cell? ⟨w.heap.size, 1, none⟩ = some (.int .i64 0) := hB.cell 1
        have q2 : WW.cell? ⟨w.heap.size, 2, none⟩ = some (.int .i64 0) := hB.cell 2
        have q3 : WW.cell? ⟨w.heap.size, 3, none⟩ = some (.int .i64 0) := hB.cell 3
        have q4 : WW.cell? ⟨w.heap.size, 4, none⟩ = some (.int .i64 0) := hB.cell 4
        have q5 : WW.cell? ⟨w.heap.size, 5, none⟩ = some (.int .i64 0) := hB.cell 5
        have q6 : WW.cell? ⟨w.heap.size, 6, none⟩ = some (.bool false) := hB.cell 6
        have q7 : WW.cell? ⟨w.heap.size, 7, none⟩ = some (.string ⟨#[]⟩) := hB.cell 7
        exact bodyPost_ret (v := .tuple #[wgV wgZ, .bool false]) (by simp [results, wgV, wgZ, Tryd.results48, go_sem, q0, q1, q2, q3, q4, q5, q6, q7]) rfl hE
      | some l =>
        rw [hi] at hm
        obtain ⟨rfl, own⟩ := hm
        obtain ⟨gv, cap, rfl, _⟩ := own.form (by omega)
        have hl5 : l.length = 5 := own_len own
        match l, hl5 with
        | [n0, n1, n2, n3, n4], _ =>
          have i0 : w2.cell? ⟨gv, 0, none⟩ = some (.int .i64 n0) := own_cell own (j := 0) (by omega)
          have i1 : w2.cell? ⟨gv, 1, none⟩ = some (.int .i64 n1) := own_cell own (j := 1) (by omega)
          have i2 : w2.cell? ⟨gv, 2, none⟩ = some (.int .i64 n2) := own_cell own (j := 2) (by omega)
          have i3 : w2.cell? ⟨gv, 3, none⟩ = some (.int .i64 n3) := own_cell own (j := 3) (by omega)
          have i4 : w2.cell? ⟨gv, 4, none⟩ = some (.int .i64 n4) := own_cell own (j := 4) (by omega)
          have Hx : Hid (Fn.wagonB W = some ⟨s1, n0, n1, n2, n3, n4, bg, s8⟩) := Lib.hid (by rw [Hgo.out, hi, HS.out.1, HS.out.2, HG.out.1]; rfl)
          have hR3 : Blk w2.drew w.heap.size 34 #[.string ⟨#[]⟩, .int .i64 0, .int .i64 0, .int .i64 0, .int .i64 0, .int .i64 0, .bool false, .string ⟨#[]⟩] := hR2
          have hb3 : Below w.heap.size w w2.drew := hb2'.drew
          clear hi own hR2 hb2' hl5
          go_wp2_with fail
          go_still_tail 25, (by kernel_rfl)
          change wpList _ _ _ _ _ w2.drew
          generalize w2.drew = w3 at hR3 hb3
          have HQ := Lib.hid (wag_end (Ws := W) hR3 hb3 ⟨s1, n0, n1, n2, n3, n4, bg, s8⟩ true (wagQ_ok Hx.out))
          have r0 : w3.cell? ⟨w.heap.size, 0, none⟩ = some (.string ⟨#[]⟩) := hR3.cell 0
          have z0 : w3.frozen? ⟨w.heap.size, 0, none⟩ = false := hR3.frozen 0
          have r1 : w3.cell? ⟨w.heap.size, 1, none⟩ = some (.int .i64 0) := hR3.cell 1
          have z1 : w3.frozen? ⟨w.heap.size, 1, none⟩ = false := hR3.frozen 1
          have r2 : w3.cell? ⟨w.heap.size, 2, none⟩ = some (.int .i64 0) := hR3.cell 2
          have z2 : w3.frozen? ⟨w.heap.size, 2, none⟩ = false := hR3.frozen 2
          have r3 : w3.cell? ⟨w.heap.size, 3, none⟩ = some (.int .i64 0) := hR3.cell 3
          have z3 : w3.frozen? ⟨w.heap.size, 3, none⟩ = false := hR3.frozen 3
          have r4 : w3.cell? ⟨w.heap.size, 4, none⟩ = some (.int .i64 0) := hR3.cell 4
          have z4 : w3.frozen? ⟨w.heap.size, 4, none⟩ = false := hR3.frozen 4
          have r5 : w3.cell? ⟨w.heap.size, 5, none⟩ = some (.int .i64 0) := hR3.cell 5
          have z5 : w3.frozen? ⟨w.heap.size, 5, none⟩ = false := hR3.frozen 5
          have r6 : w3.cell? ⟨w.heap.size, 6, none⟩ = some (.bool false) := hR3.cell 6
          have z6 : w3.frozen? ⟨w.heap.size, 6, none⟩ = false := hR3.frozen 6
          have r7 : w3.cell? ⟨w.heap.size, 7, none⟩ = some (.string ⟨#[]⟩) := hR3.cell 7
          have z7 : w3.frozen? ⟨w.heap.size, 7, none⟩ = false := hR3.frozen 7
          go_wp2_with fail
          obtain ⟨hB, hE⟩ := HQ.out
          change bodyPost _ _ _ _ _ (storeW w3 w.heap.size ⟨s1, n0, n1, n2, n3, n4, bg, s8⟩)
          generalize storeW w3 w.heap.size ⟨s1, n0, n1, n2, n3, n4, bg, s8⟩ = WW at hB hE ⊢
          have q0 : WW.cell? ⟨w.heap.size, 0, none⟩ = some (.string s1) := hB.cell 0
          have q1 : WW.cell? ⟨w.heap.size, 1, none⟩ = some (.int .i64 n0) := hB.cell 1
          have q2 : WW.cell? ⟨w.heap.size, 2, none⟩ = some (.int .i64 n1) := hB.cell 2
          have q3 : WW.cell? ⟨w.heap.size, 3, none⟩ = some (.int .i64 n2) := hB.cell 3
          have q4 : WW.cell? ⟨w.heap.size, 4, none⟩ = some (.int .i64 n3) := hB.cell 4
          have q5 : WW.cell? ⟨w.heap.size, 5, none⟩ = some (.int .i64 n4) := hB.cell 5
          have q6 : WW.cell? ⟨w.heap.size, 6, none⟩ = some (.bool bg) := hB.cell 6
          have q7 : WW.cell? ⟨w.heap.size, 7, none⟩ = some (.string s8) := hB.cell 7
          exact bodyPost_ret (v := .tuple #[wgV ⟨s1, n0, n1, n2, n3, n4, bg, s8⟩, .bool true]) (by simp [results, wgV, Tryd.results48, go_sem, q0, q1, q2, q3, q4, q5, q6, q7]) rfl hE
set_option maxRecDepth 100000 in
set_option maxHeartbeats 16000000 in
theorem rwagon_c (g n c : Nat) (W : List (List UInt8)) (w : World) (hnc : n ≤ c) (hcm : c ≤ maxLen) (h : StrR w (some ⟨g, 0, none⟩) n W) (hz : ∀ j, (Fn.wd W j).length ≤ 1000000) :
    Calls Tryd.prog 52 #[.slice (some ⟨g, 0, none⟩) n c] w (WagR W w) := by
  have HWn := Lib.hid h.1
  have Hz := Lib.hid hz
  unfold maxLen at hcm
  obtain ⟨W1, hW1⟩ : ∃ W1, w.alloc (.cells #[.string ⟨#[]⟩, .int .i64 0, .int .i64 0, .int .i64 0, .int .i64 0, .int .i64 0, .bool false, .string ⟨#[]⟩] 34) = W1 := ⟨_, rfl⟩
  have hR : Blk W1 w.heap.size 34 #[.string ⟨#[]⟩, .int .i64 0, .int .i64 0, .int .i64 0, .int .i64 0, .int .i64 0, .bool false, .string ⟨#[]⟩] := by rw [← hW1]; exact Blk.new w _ _
  have hb1 : Below w.heap.size w W1 := by rw [← hW1]; exact (Below.refl _ _).alloc (Nat.le_refl _) _
  have H := Lib.hid (h.below hb1)
  clear h hz
  by_cases h9 : n = 9
  case neg =>
    have d9 : ((n : Int) != 9) = true := by simp; omega
    have Hno := Lib.hid (Fn.wag_no (W := W) (.inl (by rw [HWn.out]; exact h9)))
    clear h9
    go_enter Tryd.func52, Tryd.ntmps52
    have HQ := Lib.hid (wag_end (Ws := W) hR hb1 wgZ false (wagQ_no (Hno.out)))
    have r0 : W1.cell? ⟨w.heap.size, 0, none⟩ = some (.string ⟨#[]⟩) := hR.cell 0
    have z0 : W1.frozen? ⟨w.heap.size, 0, none⟩ = false := hR.frozen 0
    have r1 : W1.cell? ⟨w.heap.size, 1, none⟩ = some (.int .i64 0) := hR.cell 1
    have z1 : W1.frozen? ⟨w.heap.size, 1, none⟩ = false := hR.frozen 1
    have r2 : W1.cell? ⟨w.heap.size, 2, none⟩ = some (.int .i64 0) := hR.cell 2
    have z2 : W1.frozen? ⟨w.heap.size, 2, none⟩ = false := hR.frozen 2
    have r3 : W1.cell? ⟨w.heap.size, 3, none⟩ = some (.int .i64 0) := hR.cell 3
    have z3 : W1.frozen? ⟨w.heap.size, 3, none⟩ = false := hR.frozen 3
    have r4 : W1.cell? ⟨w.heap.size, 4, none⟩ = some (.int .i64 0) := hR.cell 4
    have z4 : W1.frozen? ⟨w.heap.size, 4, none⟩ = false := hR.frozen 4
    have r5 : W1.cell? ⟨w.heap.size, 5, none⟩ = some (.int .i64 0) := hR.cell 5
    have z5 : W1.frozen? ⟨w.heap.size, 5, none⟩ = false := hR.frozen 5
    have r6 : W1.cell? ⟨w.heap.size, 6, none⟩ = some (.bool false) := hR.cell 6
    have z6 : W1.frozen? ⟨w.heap.size, 6, none⟩ = false := hR.frozen 6
    have r7 : W1.cell? ⟨w.heap.size, 7, none⟩ = some (.string ⟨#[]⟩) := hR.cell 7
    have z7 : W1.frozen? ⟨w.heap.size, 7, none⟩ = false := hR.frozen 7
    go_wp2_with fail
    obtain ⟨hB, hE⟩ := HQ.out
    change bodyPost _ _ _ _ _ (storeW W1 w.heap.size wgZ)
    generalize storeW W1 w.heap.size wgZ = WW at hB hE ⊢
    have q0 : WW.cell? ⟨w.heap.size, 0, none⟩ = some (.string ⟨#[]⟩) := hB.cell 0
    have q1 : WW.cell? ⟨w.heap.size, 1, none⟩ = some (.int .i64 0) := hB.cell 1
    have q2 : WW.cell? ⟨w.heap.size, 2, none⟩ = some (.int .i64 0) := hB.cell 2
    have q3 : WW.cell? ⟨w.heap.size, 3, none⟩ = some (.int .i64 0) := hB.cell 3
    have q4 : WW.cell? ⟨w.heap.size, 4, none⟩ = some (.int .i64 0) := hB.cell 4
    have q5 : WW.cell? ⟨w.heap.size, 5, none⟩ = some (.int .i64 0) := hB.cell 5
    have q6 : WW.cell? ⟨w.heap.size, 6, none⟩ = some (.bool false) := hB.cell 6
    have q7 : WW.cell? ⟨w.heap.size, 7, none⟩ = some (.string ⟨#[]⟩) := hB.cell 7
    exact bodyPost_ret (v := .tuple #[wgV wgZ, .bool false]) (by simp [results, wgV, wgZ, Tryd.results52, go_sem, q0, q1, q2, q3, q4, q5, q6, q7]) rfl hE
  case pos =>
  subst h9
  have d9 : (((9 : Nat) : Int) != 9) = false := rfl
  obtain ⟨_, e0, _, hc⟩ := H.out.2 (by omega)
  obtain rfl := Option.some.inj e0
  have c1 : W1.cell? ⟨g, 1, none⟩ = some (.string (baOf (Fn.wd W 1))) := hc 1 (by omega)
  have c7 : W1.cell? ⟨g, 7, none⟩ = some (.string (baOf (Fn.wd W 7))) := hc 7 (by omega)
  have c8 : W1.cell? ⟨g, 8, none⟩ = some (.string (baOf (Fn.wd W 8))) := hc 8 (by omega)
  have hz1 := Hz.out 1
  have hz8 := Hz.out 8
  have hbs : ∀ p : List UInt8, (baOf p).size = p.length := fun p => by simp [baOf, ByteArray.size]
  obtain ⟨p1, hp1⟩ : ∃ p, Fn.plainW (Fn.wd W 1) = p := ⟨_, rfl⟩
  obtain ⟨p8, hp8⟩ : ∃ p, Fn.plainW (Fn.wd W 8) = p := ⟨_, rfl⟩
  have HP1 : Hid (∀ V, Calls Tryd.prog 51 #[.string (baOf (Fn.wd W 1))] V fun e w' => e = .returned (.bool p1) ∧ V = w') := Lib.hid (fun V => by
    have := word_c (baOf (Fn.wd W 1)) V (by rw [hbs]; unfold maxLen; omega)
    rwa [baOf_data, hp1] at this)
  have HP8 : Hid (∀ V, Calls Tryd.prog 51 #[.string (baOf (Fn.wd W 8))] V fun e w' => e = .returned (.bool p8) ∧ V = w') := Lib.hid (fun V => by
    have := word_c (baOf (Fn.wd W 8)) V (by rw [hbs]; unfold maxLen; omega)
    rwa [baOf_data, hp8] at this)
  obtain ⟨s1, hs1⟩ : ∃ s, baOf (Fn.wd W 1) = s := ⟨_, rfl⟩
  obtain ⟨s7, hs7⟩ : ∃ s, baOf (Fn.wd W 7) = s := ⟨_, rfl⟩
  obtain ⟨s8, hs8⟩ : ∃ s, baOf (Fn.wd W 8) = s := ⟨_, rfl⟩
  obtain ⟨bg, hbg⟩ : ∃ b, decide (Fn.wd W 7 = Fn.wGentle) = b := ⟨_, rfl⟩
  obtain ⟨bf, hbf⟩ : ∃ b, decide (Fn.wd W 7 = Fn.wFirm) = b := ⟨_, rfl⟩
  have eg : (s7.toList == [103, 101, 110, 116, 108, 101]) = bg := by rw [← hs7, ba_eqW]; exact hbg
  have ef : (s7.toList == [102, 105, 114, 109]) = bf := by rw [← hs7, ba_eqW]; exact hbf
  have HP := Lib.hid (And.intro hp1 hp8)
  have HG := Lib.hid (And.intro hbg hbf)
  have HS := Lib.hid (And.intro hs1 hs8)
  have Hsub := Lib.hid (H.out.sub (k := 2) (m := 5) (by omega))
  rw [hs1] at c1 HP1
  rw [hs7] at c7
  rw [hs8] at c8 HP8
  have h9c : (9 : Int) ≤ (c : Int) := by omega
  have h7c : (7 : Int) ≤ (c : Int) := by omega
  have hc2 : ¬ c = 2 := by omega
  clear hp1 hp8 hbg hbf hs1 hs7 hs8 hc e0 hz1 hz8 hbs
  go_enter Tryd.func52, Tryd.ntmps52
  go_upto_region 1 with fail
  go_cut [34] from 6 to 71 (fun b V => b = .bool (!(p1 && p8 && (bg || bf))) ∧ V = W1)
  case first =>
    cases p1 with
    | false =>
      go_wp2_with fail
      refine (HP1.out _).mono ?_
      rintro e w2 ⟨rfl, rfl⟩
      go_wp2_with fail
      go_meet
      exact ⟨by simp, rfl⟩
    | true =>
      cases bf with
      | true =>
        cases p8 with
        | false =>
          go_wp2_with fail
          refine (HP1.out _).mono ?_
          rintro e w2 ⟨rfl, rfl⟩
          go_wp2_with fail
          refine (HP8.out _).mono ?_
          rintro e w2 ⟨rfl, rfl⟩
          go_wp2_with fail
          go_meet
          exact ⟨by simp, rfl⟩
        | true =>
          go_wp2_with fail
          refine (HP1.out _).mono ?_
          rintro e w2 ⟨rfl, rfl⟩
          go_wp2_with fail
          refine (HP8.out _).mono ?_
          rintro e w2 ⟨rfl, rfl⟩
          go_wp2_with fail
          go_meet
          exact ⟨by simp, rfl⟩
      | false =>
        cases bg with
        | true =>
          cases p8 with
          | false =>
            go_wp2_with fail
            refine (HP1.out _).mono ?_
            rintro e w2 ⟨rfl, rfl⟩
            go_wp2_with fail
            refine (HP8.out _).mono ?_
            rintro e w2 ⟨rfl, rfl⟩
            go_wp2_with fail
            go_meet
            exact ⟨by simp, rfl⟩
          | true =>
            go_wp2_with fail
            refine (HP1.out _).mono ?_
            rintro e w2 ⟨rfl, rfl⟩
            go_wp2_with fail
            refine (HP8.out _).mono ?_
            rintro e w2 ⟨rfl, rfl⟩
            go_wp2_with fail
            go_meet
            exact ⟨by simp, rfl⟩
        | false =>
          go_wp2_with fail
          refine (HP1.out _).mono ?_
          rintro e w2 ⟨rfl, rfl⟩
          go_wp2_with fail
          go_meet
          exact ⟨by simp, rfl⟩
  case rest =>
    obtain ⟨rfl, hwc⟩ := hcut
    subst hwc
    by_cases hgood : (p1 && p8 && (bg || bf)) = true
    case neg =>
      have hbad : (p1 && p8 && (bg || bf)) = false := by simpa using hgood
      have Hno : Hid (Fn.wagonB W = none) := Lib.hid (Fn.wag_no (by
        have h1 := HP.out.1
        have h2 := HP.out.2
        have h3 := HG.out.1
        have h4 := HG.out.2
        cases p1
        · exact .inr (.inl h1)
        cases p8
        · exact .inr (.inr (.inl h2))
        cases bg
        · cases bf
          · exact .inr (.inr (.inr ⟨of_decide_eq_false h3, of_decide_eq_false h4⟩))
          · cases hbad
        · cases hbad))
      rw [hbad]
      clear hgood hbad
      have HQ := Lib.hid (wag_end (Ws := W) hR hb1 wgZ false (wagQ_no (Hno.out)))
      have r0 : wc.cell? ⟨w.heap.size, 0, none⟩ = some (.string ⟨#[]⟩) := hR.cell 0
      have z0 : wc.frozen? ⟨w.heap.size, 0, none⟩ = false := hR.frozen 0
      have r1 : wc.cell? ⟨w.heap.size, 1, none⟩ = some (.int .i64 0) := hR.cell 1
      have z1 : wc.frozen? ⟨w.heap.size, 1, none⟩ = false := hR.frozen 1
      have r2 : wc.cell? ⟨w.heap.size, 2, none⟩ = some (.int .i64 0) := hR.cell 2
      have z2 : wc.frozen? ⟨w.heap.size, 2, none⟩ = false := hR.frozen 2
      have r3 : wc.cell? ⟨w.heap.size, 3, none⟩ = some (.int .i64 0) := hR.cell 3
      have z3 : wc.frozen? ⟨w.heap.size, 3, none⟩ = false := hR.frozen 3
      have r4 : wc.cell? ⟨w.heap.size, 4, none⟩ = some (.int .i64 0) := hR.cell 4
      have z4 : wc.frozen? ⟨w.heap.size, 4, none⟩ = false := hR.frozen 4
      have r5 : wc.cell? ⟨w.heap.size, 5, none⟩ = some (.int .i64 0) := hR.cell 5
      have z5 : wc.frozen? ⟨w.heap.size, 5, none⟩ = false := hR.frozen 5
      have r6 : wc.cell? ⟨w.heap.size, 6, none⟩ = some (.bool false) := hR.cell 6
      have z6 : wc.frozen? ⟨w.heap.size, 6, none⟩ = false := hR.frozen 6
      have r7 : wc.cell? ⟨w.heap.size, 7, none⟩ = some (.string ⟨#[]⟩) := hR.cell 7
      have z7 : wc.frozen? ⟨w.heap.size, 7, none⟩ = false := hR.frozen 7
      go_wp2_with fail
      obtain ⟨hB, hE⟩ := HQ.out
      change bodyPost _ _ _ _ _ (storeW wc w.heap.size wgZ)
      generalize storeW wc w.heap.size wgZ = WW at hB hE ⊢
      have q0 : WW.cell? ⟨w.heap.size, 0, none⟩ = some (.string ⟨#[]⟩) := hB.cell 0
      have q1 : WW.cell? ⟨w.heap.size, 1, none⟩ = some (.int .i64 0) := hB.cell 1
      have q2 : WW.cell? ⟨w.heap.size, 2, none⟩ = some (.int .i64 0) := hB.cell 2
      have q3 : WW.cell? ⟨w.heap.size, 3, none⟩ = some (.int .i64 0) := hB.cell 3
      have q4 : WW.cell? ⟨w.heap.size, 4, none⟩ = some (.int .i64 0) := hB.cell 4
      have q5 : WW.cell? ⟨w.heap.size, 5, none⟩ = some (.int .i64 0) := hB.cell 5
      have q6 : WW.cell? ⟨w.heap.size, 6, none⟩ = some (.bool false) := hB.cell 6
      have q7 : WW.cell? ⟨w.heap.size, 7, none⟩ = some (.string ⟨#[]⟩) := hB.cell 7
      exact bodyPost_ret (v := .tuple #[wgV wgZ, .bool false]) (by simp [results, wgV, wgZ, Tryd.results52, go_sem, q0, q1, q2, q3, q4, q5, q6, q7]) rfl hE
    case pos =>
      have Hgo : Hid (Fn.wagonB W = match Fn.ints ((W.drop 2).take 5) with
          | none => none
          | some l => some ⟨baOf (Fn.wd W 1), Fn.iAt l 0, Fn.iAt l 1, Fn.iAt l 2, Fn.iAt l 3, Fn.iAt l 4, decide (Fn.wd W 7 = Fn.wGentle), baOf (Fn.wd W 8)⟩) := Lib.hid ((Fn.wag_go (by
        have h1 := HP.out.1
        have h2 := HP.out.2
        have h3 := HG.out.1
        have h4 := HG.out.2
        simp only [Bool.and_eq_true, Bool.or_eq_true] at hgood
        rintro (h | h | h | ⟨ha, hb⟩)
        · exact h HWn.out
        · rw [h1, hgood.1.1] at h; cases h
        · rw [h2, hgood.1.2] at h; cases h
        · rcases hgood.2 with h | h
          · rw [h] at h3; exact ha (of_decide_eq_true h3)
          · rw [h] at h4; exact hb (of_decide_eq_true h4))).trans rfl)
      rw [hgood]
      clear hgood
      have HI := Lib.hid (rints_c (some ⟨g, 2, none⟩) 5 (c - 2) ((W.drop 2).take 5) wc (by omega) Hsub.out (fun j => wd_sub Hz.out j))
      go_wp2_with fail
      refine HI.out.mono ?_
      rintro e w2 ⟨⟨v, ok, rfl, hm⟩, hb2⟩
      have hR2 := hR.below hb2 hR.lt
      have hb2' := below_step hb1 hb2
      have c1' := keep_cell hb2 c1
      have c7' := keep_cell hb2 c7
      have c8' := keep_cell hb2 c8
      clear HI Hsub HP1 HP8 c1 c7 c8 hR hb1
      cases hi : Fn.ints ((W.drop 2).take 5) with
      | none =>
        rw [hi] at hm
        obtain ⟨rfl, rfl⟩ := hm
        have Hno : Hid (Fn.wagonB W = none) := Lib.hid (by rw [Hgo.out, hi])
        clear hi
        have HQ := Lib.hid (wag_end (Ws := W) hR2 hb2' wgZ false (wagQ_no (Hno.out)))
        have r0 : w2.cell? ⟨w.heap.size, 0, none⟩ = some (.string ⟨#[]⟩) := hR2.cell 0
        have z0 : w2.frozen? ⟨w.heap.size, 0, none⟩ = false := hR2.frozen 0
        have r1 : w2.cell? ⟨w.heap.size, 1, none⟩ = some (.int .i64 0) := hR2.cell 1
        have z1 : w2.frozen? ⟨w.heap.size, 1, none⟩ = false := hR2.frozen 1
        have r2 : w2.cell? ⟨w.heap.size, 2, none⟩ = some (.int .i64 0) := hR2.cell 2
        have z2 : w2.frozen? ⟨w.heap.size, 2, none⟩ = false := hR2.frozen 2
        have r3 : w2.cell? ⟨w.heap.size, 3, none⟩ = some (.int .i64 0) := hR2.cell 3
        have z3 : w2.frozen? ⟨w.heap.size, 3, none⟩ = false := hR2.frozen 3
        have r4 : w2.cell? ⟨w.heap.size, 4, none⟩ = some (.int .i64 0) := hR2.cell 4
        have z4 : w2.frozen? ⟨w.heap.size, 4, none⟩ = false := hR2.frozen 4
        have r5 : w2.cell? ⟨w.heap.size, 5, none⟩ = some (.int .i64 0) := hR2.cell 5
        have z5 : w2.frozen? ⟨w.heap.size, 5, none⟩ = false := hR2.frozen 5
        have r6 : w2.cell? ⟨w.heap.size, 6, none⟩ = some (.bool false) := hR2.cell 6
        have z6 : w2.frozen? ⟨w.heap.size, 6, none⟩ = false := hR2.frozen 6
        have r7 : w2.cell? ⟨w.heap.size, 7, none⟩ = some (.string ⟨#[]⟩) := hR2.cell 7
        have z7 : w2.frozen? ⟨w.heap.size, 7, none⟩ = false := hR2.frozen 7
        go_wp2_with fail
        obtain ⟨hB, hE⟩ := HQ.out
        change bodyPost _ _ _ _ _ (storeW w2 w.heap.size wgZ)
        generalize storeW w2 w.heap.size wgZ = WW at hB hE ⊢
        have q0 : WW.cell? ⟨w.heap.size, 0, none⟩ = some (.string ⟨#[]⟩) := hB.cell 0
        have q1 : WW.cell? ⟨w.heap.size, 1, none⟩ = some (.int .i64 0) := hB.cell 1
        have q2 : WW.cell? ⟨w.heap.size, 2, none⟩ = some (.int .i64 0) := hB.cell 2
        have q3 : WW.cell? ⟨w.heap.size, 3, none⟩ = some (.int .i64 0) := hB.cell 3
        have q4 : WW.cell? ⟨w.heap.size, 4, none⟩ = some (.int .i64 0) := hB.cell 4
        have q5 : WW.cell? ⟨w.heap.size, 5, none⟩ = some (.int .i64 0) := hB.cell 5
        have q6 : WW.cell? ⟨w.heap.size, 6, none⟩ = some (.bool false) := hB.cell 6
        have q7 : WW.cell? ⟨w.heap.size, 7, none⟩ = some (.string ⟨#[]⟩) := hB.cell 7
        exact bodyPost_ret (v := .tuple #[wgV wgZ, .bool false]) (by simp [results, wgV, wgZ, Tryd.results52, go_sem, q0, q1, q2, q3, q4, q5, q6, q7]) rfl hE
      | some l =>
        rw [hi] at hm
        obtain ⟨rfl, own⟩ := hm
        obtain ⟨gv, cap, rfl, _⟩ := own.form (by omega)
        have hl5 : l.length = 5 := own_len own
        match l, hl5 with
        | [n0, n1, n2, n3, n4], _ =>
          have i0 : w2.cell? ⟨gv, 0, none⟩ = some (.int .i64 n0) := own_cell own (j := 0) (by omega)
          have i1 : w2.cell? ⟨gv, 1, none⟩ = some (.int .i64 n1) := own_cell own (j := 1) (by omega)
          have i2 : w2.cell? ⟨gv, 2, none⟩ = some (.int .i64 n2) := own_cell own (j := 2) (by omega)
          have i3 : w2.cell? ⟨gv, 3, none⟩ = some (.int .i64 n3) := own_cell own (j := 3) (by omega)
          have i4 : w2.cell? ⟨gv, 4, none⟩ = some (.int .i64 n4) := own_cell own (j := 4) (by omega)
          have Hx : Hid (Fn.wagonB W = some ⟨s1, n0, n1, n2, n3, n4, bg, s8⟩) := Lib.hid (by rw [Hgo.out, hi, HS.out.1, HS.out.2, HG.out.1]; rfl)
          have hR3 : Blk w2.drew w.heap.size 34 #[.string ⟨#[]⟩, .int .i64 0, .int .i64 0, .int .i64 0, .int .i64 0, .int .i64 0, .bool false, .string ⟨#[]⟩] := hR2
          have hb3 : Below w.heap.size w w2.drew := hb2'.drew
          clear hi own hR2 hb2' hl5
          go_wp2_with fail
          go_still_tail 25, (by kernel_rfl)
          change wpList _ _ _ _ _ w2.drew
          generalize w2.drew = w3 at hR3 hb3
          have HQ := Lib.hid (wag_end (Ws := W) hR3 hb3 ⟨s1, n0, n1, n2, n3, n4, bg, s8⟩ true (wagQ_ok Hx.out))
          have r0 : w3.cell? ⟨w.heap.size, 0, none⟩ = some (.string ⟨#[]⟩) := hR3.cell 0
          have z0 : w3.frozen? ⟨w.heap.size, 0, none⟩ = false := hR3.frozen 0
          have r1 : w3.cell? ⟨w.heap.size, 1, none⟩ = some (.int .i64 0) := hR3.cell 1
          have z1 : w3.frozen? ⟨w.heap.size, 1, none⟩ = false := hR3.frozen 1
          have r2 : w3.cell? ⟨w.heap.size, 2, none⟩ = some (.int .i64 0) := hR3.cell 2
          have z2 : w3.frozen? ⟨w.heap.size, 2, none⟩ = false := hR3.frozen 2
          have r3 : w3.cell? ⟨w.heap.size, 3, none⟩ = some (.int .i64 0) := hR3.cell 3
          have z3 : w3.frozen? ⟨w.heap.size, 3, none⟩ = false := hR3.frozen 3
          have r4 : w3.cell? ⟨w.heap.size, 4, none⟩ = some (.int .i64 0) := hR3.cell 4
          have z4 : w3.frozen? ⟨w.heap.size, 4, none⟩ = false := hR3.frozen 4
          have r5 : w3.cell? ⟨w.heap.size, 5, none⟩ = some (.int .i64 0) := hR3.cell 5
          have z5 : w3.frozen? ⟨w.heap.size, 5, none⟩ = false := hR3.frozen 5
          have r6 : w3.cell? ⟨w.heap.size, 6, none⟩ = some (.bool false) := hR3.cell 6
          have z6 : w3.frozen? ⟨w.heap.size, 6, none⟩ = false := hR3.frozen 6
          have r7 : w3.cell? ⟨w.heap.size, 7, none⟩ = some (.string ⟨#[]⟩) := hR3.cell 7
          have z7 : w3.frozen? ⟨w.heap.size, 7, none⟩ = false := hR3.frozen 7
          go_wp2_with fail
          obtain ⟨hB, hE⟩ := HQ.out
          change bodyPost _ _ _ _ _ (storeW w3 w.heap.size ⟨s1, n0, n1, n2, n3, n4, bg, s8⟩)
          generalize storeW w3 w.heap.size ⟨s1, n0, n1, n2, n3, n4, bg, s8⟩ = WW at hB hE ⊢
          have q0 : WW.cell? ⟨w.heap.size, 0, none⟩ = some (.string s1) := hB.cell 0
          have q1 : WW.cell? ⟨w.heap.size, 1, none⟩ = some (.int .i64 n0) := hB.cell 1
          have q2 : WW.cell? ⟨w.heap.size, 2, none⟩ = some (.int .i64 n1) := hB.cell 2
          have q3 : WW.cell? ⟨w.heap.size, 3, none⟩ = some (.int .i64 n2) := hB.cell 3
          have q4 : WW.cell? ⟨w.heap.size, 4, none⟩ = some (.int .i64 n3) := hB.cell 4
          have q5 : WW.cell? ⟨w.heap.size, 5, none⟩ = some (.int .i64 n4) := hB.cell 5
          have q6 : WW.cell? ⟨w.heap.size, 6, none⟩ = some (.bool bg) := hB.cell 6
          have q7 : WW.cell? ⟨w.heap.size, 7, none⟩ = some (.string s8) := hB.cell 7
          exact bodyPost_ret (v := .tuple #[wgV ⟨s1, n0, n1, n2, n3, n4, bg, s8⟩, .bool true]) (by simp [results, wgV, Tryd.results52, go_sem, q0, q1, q2, q3, q4, q5, q6, q7]) rfl hE
end Go.Proofs.YtiegpkbollihgaaDoor
