/- The walk of 'LayoutReturns'. -/
import Derived.Test.YtmjdjcpmkdninaaDoorLyY
namespace Go.Proofs.YtmjdjcpmkdninaaDoor
open Go.RowKit
def gapG (n : Nat) (l : List Int) (i : Nat) : Int := if n = 0 then 0 else ((l.getD (i % n) 0).tmod 5 + 5).tmod 5
theorem gap_step {s : ByteArray} {j : Nat} (hj : j < s.size) (G : Nat → Int) : baOf (Ly.gapF G (s.data.toList.take (j + 1)) 0) = baOf (Ly.gapF G (s.data.toList.take j) 0) ++ baOf (Ly.piece s[j] (G j)) := by
  have hj' : j < s.data.toList.length := by simpa using hj
  have hl : (s.data.toList.take j).length = j := by rw [List.length_take]; omega
  rw [List.take_succ_eq_append_getElem hj', Ly.gapF_snoc, hl, Nat.zero_add]
  refine Ly.nm_ext ?_
  simp [baOf]
  rfl
theorem ext_one {s : ByteArray} {j : Nat} (hj : j < s.size) : s.extract j (j + 1) = baOf [s[j]] := by
  refine Ly.nm_ext ?_
  have hj' : j < s.data.toList.length := by simpa using hj
  rw [ByteArray.data_extract]
  simp only [Array.toList_extract, List.extract_eq_take_drop, baOf]
  rw [show j + 1 - j = 1 by omega, List.drop_eq_getElem_cons hj']
  rfl
theorem piece_blank {b : UInt8} {g : Int} (h1 : b.toNat = 32) (h2 : g = 1) : Ly.piece b g = [32, 32, 32] := by
  unfold Ly.piece
  rw [if_pos ⟨UInt8.toNat_inj.1 h1, h2⟩]
theorem piece_line {b : UInt8} {g : Int} (h1 : b.toNat = 10) (h2 : g = 2) : Ly.piece b g = [32, 10, 10, 35, 32, 99, 114, 101, 115, 116, 32, 120, 10, 32] := by
  unfold Ly.piece
  rw [if_neg (by rintro ⟨e, _⟩; rw [e] at h1; exact absurd h1 (by decide)), if_pos ⟨UInt8.toNat_inj.1 h1, h2⟩]
theorem piece_one {b : UInt8} {g : Int} (h1 : ¬ (b.toNat = 32 ∧ g = 1)) (h2 : ¬ (b.toNat = 10 ∧ g = 2)) : Ly.piece b g = [b] := by
  unfold Ly.piece
  rw [if_neg (by rintro ⟨e, h⟩; exact h1 ⟨by rw [e]; rfl, h⟩), if_neg (by rintro ⟨e, h⟩; exact h2 ⟨by rw [e]; rfl, h⟩)]
def RtI (s : ByteArray) (G : Nat → Int) (w : World) (vo vi : Value) (wr : World) : Prop := ∃ j : Nat, j ≤ s.size ∧ vi = .int .i64 (j : Int) ∧ vo = .string (baOf (Ly.gapF G (s.data.toList.take j) 0)) ∧ Below w.heap.size w wr
set_option linter.unusedVariables false in
set_option maxRecDepth 100000 in
set_option maxHeartbeats 8000000 in
theorem walk_LayoutReturns (a0 : Option Addr) (len0 cap0 : Nat) (z0 : List Int) (a1 : Option Addr) (len1 cap1 : Nat) (z1 : List Int) (mx : Int) (w : World) (w0 : IsRow .i64 w a0 len0 cap0 z0) (w1 : IsRow .i64 w a1 len1 cap1 z1) (hmx : w.cell? ⟨1, 0, none⟩ = some (.int .i64 mx)) (ht : Tab10 w) :
    Calls Tryd.prog 7 #[.slice a0 len0 cap0, .slice a1 len1 cap1] w fun e w' => e = .returned (.bool true) ∧ Below w.heap.size w w' := by
  obtain ⟨r0, m0, _⟩ := w0.reads
  obtain ⟨r1, m1, _⟩ := w1.reads
  clear w0 w1
  generalize z0.take len0 = l0 at r0
  generalize z1.take len1 = l1 at r1
  unfold maxLen at m1
  have HR1 := Lib.hid r1
  clear r1
  go_enter Tryd.func7, Tryd.ntmps7
  go_wp2_with fail
  refine (new_c _ _ _ _ _ m0 r0).mono ?_
  rintro e w1 ⟨rfl, hm1, hb1, hz1⟩
  clear r0 m0
  go_wp2_with fail
  refine (lmade_c w.heap.size w.heap.size 0 6 w1 hm1 (by omega) (by omega) hb1.size).mono ?_
  rintro e w2 ⟨A, n, cp, l, c2, rfl, _, hR, hn1, _, _, Hok, HL, _, hm2, hg2⟩
  have hb2 := hb1.trans (grown_below hg2 hb1.size (Nat.le_refl _))
  have ht2 := ht.below hb2
  have hll := hR.len
  have hnm : n ≤ maxLen := by unfold maxLen; omega
  clear hm1 hb1 hz1 hm2 hg2
  have HF1 := Lib.hid (lfmtOk_c A n cp l w2 hnm hR HL.out ht2 Hok.out)
  have Hfits := Lib.hid (Ly.vErr_zero Hok.out).2.2.1
  have Hlen := Lib.hid (Ly.fmtL_len Hfits.out)
  obtain ⟨s, hs⟩ : ∃ s, baOf (Ly.fmtL l) = s := ⟨_, rfl⟩
  have hs2 : s.size ≤ 5120 := by rw [← hs, Ly.baOf_size]; have := Hlen.out; omega
  have Hpf := Lib.hid (Ly.parse_fmt Hok.out)
  rw [hs] at HF1 Hpf
  have Hsd : Hid (s.data.toList = Ly.fmtL l) := Lib.hid (by rw [← hs]; rfl)
  clear hs
  go_wp2_with fail
  refine HF1.out.mono ?_
  rintro e w3 ⟨rfl, hb3⟩
  have hb3' := below_step hb2 hb3
  have hR3 := hR.below hb3
  clear HF1 hb2 hb3 ht2 hR
  go_wp2_with fail
  refine (lparse_c s mx _ (by unfold maxLen; omega) (keep_cell hb3' hmx)).mono ?_
  rintro e w4 ⟨A4, n4, c4, rfl, hR4, hn4, _, hb4⟩
  rw [Hpf.out] at hR4 ⊢
  have hb4' := below_step hb3' hb4
  have hR34 := hR3.below hb4
  clear hb3' hb4 hR3
  go_wp2_with fail
  refine (elems_c A A4 n n4 cp c4 l w4 hnm hR34 hR4).mono ?_
  rintro e w5 ⟨rfl, hb5⟩
  have hb5' := below_step hb4' hb5
  have hR5 := hR34.below hb5
  clear hb4' hb5 hR34 hR4
  obtain ⟨G, hG⟩ : ∃ G, gapG len1 l1 = G := ⟨_, rfl⟩
  have HG := Lib.hid (fun i => congrFun hG i)
  clear hG
  go_wp2_with fail
  go_loopw [11, 12] (fun vo vi wr => RtI s G w5 vo vi wr) (fun _ vi _ => s.size - (intOf vi).toNat)
  case atStart => exact (show RtI _ _ _ _ _ _ from ⟨0, by omega, rfl, rfl, Below.refl _ _⟩)
  case round =>
    obtain ⟨j, hj, rfl, rfl, hbr⟩ := hrel
    have HPl := Lib.hid (Ly.gapF_len G (s.data.toList.take j) 0)
    have hPl : (baOf (Ly.gapF G (s.data.toList.take j) 0)).size ≤ 71680 := by
      rw [Ly.baOf_size]
      have := HPl.out
      rw [List.length_take] at this
      omega
    by_cases hlt : j < s.size
    · have hlti : (j : Int) < (s.size : Int) := by omega
      have Hst := Lib.hid (gap_step hlt G)
      have Hext := Lib.hid (ext_one hlt)
      obtain ⟨P, hP⟩ : ∃ P, baOf (Ly.gapF G (s.data.toList.take j) 0) = P := ⟨_, rfl⟩
      rw [hP] at hPl Hst ⊢
      obtain ⟨b, hb⟩ : ∃ b, s[j] = b := ⟨_, rfl⟩
      rw [hb] at Hst Hext
      obtain ⟨c, hc⟩ : ∃ c, s[j].toNat = c := ⟨_, rfl⟩
      have Hbc : Hid (b.toNat = c) := Lib.hid (by rw [← hb]; exact hc)
      clear hP hb
      obtain ⟨gv, hgv⟩ : ∃ gv, G j = gv := ⟨_, rfl⟩
      rw [hgv] at Hst
      have key : (c = 32 ∧ gv = 1 ∧ Hid (Ly.piece b gv = [32, 32, 32])) ∨ (c = 10 ∧ gv = 2 ∧ Hid (Ly.piece b gv = [32, 10, 10, 35, 32, 99, 114, 101, 115, 116, 32, 120, 10, 32])) ∨ (c = 32 ∧ gv ≠ 1 ∧ Hid (Ly.piece b gv = [b])) ∨ (c = 10 ∧ gv ≠ 2 ∧ Hid (Ly.piece b gv = [b])) ∨ (c ≠ 32 ∧ c ≠ 10 ∧ Hid (Ly.piece b gv = [b])) := by
        by_cases h32 : c = 32
        · by_cases h1 : gv = 1
          · exact .inl ⟨h32, h1, Lib.hid (piece_blank (Hbc.out.trans h32) h1)⟩
          · exact .inr (.inr (.inl ⟨h32, h1, Lib.hid (piece_one (fun h => h1 h.2) (fun h => by have := Hbc.out; omega))⟩))
        · by_cases h10 : c = 10
          · by_cases h2 : gv = 2
            · exact .inr (.inl ⟨h10, h2, Lib.hid (piece_line (Hbc.out.trans h10) h2)⟩)
            · exact .inr (.inr (.inr (.inl ⟨h10, h2, Lib.hid (piece_one (fun h => by have := Hbc.out; omega) (fun h => h2 h.2))⟩)))
          · exact .inr (.inr (.inr (.inr ⟨h32, h10, Lib.hid (piece_one (fun h => by have := Hbc.out; omega) (fun h => by have := Hbc.out; omega))⟩)))
      have HGj := Lib.hid ((HG.out j).trans hgv)
      clear hgv
      by_cases hn0 : 0 < len1
      · have dl : decide ((0 : Int) < (len1 : Int)) = true := decide_eq_true (by omega)
        have dl' : decide (0 < len1) = true := decide_eq_true hn0
        obtain ⟨q, hq⟩ : ∃ q, q = j % len1 := ⟨_, rfl⟩
        have hqn : q < len1 := by rw [hq]; exact Nat.mod_lt _ hn0
        have hqi : (j : Int) % (len1 : Int) = (q : Int) := by omega
        have hqw : IntKind.i64.wrap (q : Int) = (q : Int) := IntWalk.i64_in _ ⟨by omega, by omega⟩
        obtain ⟨ad, hae, _, hca⟩ := (HR1.out.below (hb5'.trans (hbr.mono hb5'.size))).at_ hqn
        have Hx : Hid (gv = ((l1.getD q 0).tmod 5 + 5).tmod 5) := Lib.hid (by
          rw [← HGj.out]
          unfold gapG
          rw [if_neg (by omega), hq])
        subst hae
        generalize l1.getD q 0 = x at hca Hx
        obtain ⟨r, hr, hrx⟩ := inMod x 5 (by omega)
        have t0 := tmod_bd x 5 (by omega)
        have hgr : gv = (r : Int) := Hx.out.trans hr
        subst hgr
        clear hq HGj
        rcases key with ⟨k1, k2, Hpc⟩ | ⟨k1, k2, Hpc⟩ | ⟨k1, k2, Hpc⟩ | ⟨k1, k2, Hpc⟩ | ⟨k1, k2, Hpc⟩
        · have e1 : ((c : Int) == 32) = true := by simp [k1]
          have e2 : ((r : Int) == 1) = true := by simp [k2]
          have Hst2 := Lib.hid (Hst.out.trans (by rw [Hpc.out]))
          clear k1 k2
          go_wp2_with fail
          go_roundw
          case rel => exact (show RtI _ _ _ _ _ _ from ⟨j + 1, by omega, by go_num, by rw [Hst2.out]; rfl, hbr⟩)
          case measure => simp [intOf]; omega
        · have e1 : ((c : Int) == 32) = false := by simp; omega
          have e2 : ((c : Int) == 10) = true := by simp [k1]
          have e3 : ((r : Int) == 2) = true := by simp [k2]
          have Hst2 := Lib.hid (Hst.out.trans (by rw [Hpc.out]))
          clear k1 k2
          go_wp2_with fail
          go_roundw
          case rel => exact (show RtI _ _ _ _ _ _ from ⟨j + 1, by omega, by go_num, by rw [Hst2.out]; rfl, hbr⟩)
          case measure => simp [intOf]; omega
        · have e1 : ((c : Int) == 32) = true := by simp [k1]
          have e2 : ((r : Int) == 1) = false := by simp; omega
          have e3 : ((c : Int) == 10) = false := by simp; omega
          have Hst2 := Lib.hid (Hst.out.trans (by rw [Hpc.out, ← Hext.out]))
          clear k1 k2
          go_wp2_with fail
          go_roundw
          case rel => exact (show RtI _ _ _ _ _ _ from ⟨j + 1, by omega, by go_num, by rw [Hst2.out], hbr⟩)
          case measure => simp [intOf]; omega
        · have e1 : ((c : Int) == 32) = false := by simp; omega
          have e2 : ((r : Int) == 2) = false := by simp; omega
          have e3 : ((c : Int) == 10) = true := by simp [k1]
          have Hst2 := Lib.hid (Hst.out.trans (by rw [Hpc.out, ← Hext.out]))
          clear k1 k2
          go_wp2_with fail
          go_roundw
          case rel => exact (show RtI _ _ _ _ _ _ from ⟨j + 1, by omega, by go_num, by rw [Hst2.out], hbr⟩)
          case measure => simp [intOf]; omega
        · have e1 : ((c : Int) == 32) = false := by simp; omega
          have e3 : ((c : Int) == 10) = false := by simp; omega
          have Hst2 := Lib.hid (Hst.out.trans (by rw [Hpc.out, ← Hext.out]))
          clear k1 k2
          go_wp2_with fail
          go_roundw
          case rel => exact (show RtI _ _ _ _ _ _ from ⟨j + 1, by omega, by go_num, by rw [Hst2.out], hbr⟩)
          case measure => simp [intOf]; omega
      · have dl : decide ((0 : Int) < (len1 : Int)) = false := decide_eq_false (by omega)
        have dl' : decide (0 < len1) = false := decide_eq_false hn0
        have hg0 : gv = 0 := by
          rw [← HGj.out]
          unfold gapG
          rw [if_pos (by omega)]
        subst hg0
        clear HGj
        rcases key with ⟨k1, k2, Hpc⟩ | ⟨k1, k2, Hpc⟩ | ⟨k1, k2, Hpc⟩ | ⟨k1, k2, Hpc⟩ | ⟨k1, k2, Hpc⟩
        · omega
        · omega
        · have e1 : ((c : Int) == 32) = true := by simp [k1]
          have e3 : ((c : Int) == 10) = false := by simp; omega
          have Hst2 := Lib.hid (Hst.out.trans (by rw [Hpc.out, ← Hext.out]))
          clear k1 k2
          go_wp2_with fail
          go_roundw
          case rel => exact (show RtI _ _ _ _ _ _ from ⟨j + 1, by omega, by go_num, by rw [Hst2.out], hbr⟩)
          case measure => simp [intOf]; omega
        · have e1 : ((c : Int) == 32) = false := by simp; omega
          have e3 : ((c : Int) == 10) = true := by simp [k1]
          have Hst2 := Lib.hid (Hst.out.trans (by rw [Hpc.out, ← Hext.out]))
          clear k1 k2
          go_wp2_with fail
          go_roundw
          case rel => exact (show RtI _ _ _ _ _ _ from ⟨j + 1, by omega, by go_num, by rw [Hst2.out], hbr⟩)
          case measure => simp [intOf]; omega
        · have e1 : ((c : Int) == 32) = false := by simp; omega
          have e3 : ((c : Int) == 10) = false := by simp; omega
          have Hst2 := Lib.hid (Hst.out.trans (by rw [Hpc.out, ← Hext.out]))
          clear k1 k2
          go_wp2_with fail
          go_roundw
          case rel => exact (show RtI _ _ _ _ _ _ from ⟨j + 1, by omega, by go_num, by rw [Hst2.out], hbr⟩)
          case measure => simp [intOf]; omega
    · have hta : s.data.toList.take j = Ly.fmtL l := by rw [← Hsd.out, List.take_of_length_le (by simp; omega)]
      rw [hta] at hPl ⊢
      have Hsz : Hid ((baOf (Ly.gapF G (Ly.fmtL l) 0)).size = (Ly.gapF G (Ly.fmtL l) 0).length) := Lib.hid (Ly.baOf_size _)
      have Hpg := Lib.hid (Ly.parse_gaps Hok.out G)
      obtain ⟨T, hT⟩ : ∃ T, baOf (Ly.gapF G (Ly.fmtL l) 0) = T := ⟨_, rfl⟩
      rw [hT] at hPl Hsz Hpg ⊢
      have hbw := hb5'.trans (hbr.mono hb5'.size)
      have hR6 := hR5.below hbr
      clear hT hta HPl
      go_wp2_with fail
      refine (lparse_c T mx _ (by unfold maxLen; omega) (keep_cell hbw hmx)).mono ?_
      rintro e w6 ⟨A6, n6, c6, rfl, hR7, hn6, _, hb6⟩
      have hb6' := below_step hbw hb6
      have hR6' := hR6.below hb6
      by_cases hbig : 16384 < T.size
      · have d1 : decide (16384 < (T.size : Int)) = true := decide_eq_true (by omega)
        have d1' : decide (16384 < T.size) = true := decide_eq_true hbig
        clear hR7
        go_wp2_with fail
        go_ret
        exact ⟨rfl, hb6'⟩
      · have d1 : decide (16384 < (T.size : Int)) = false := decide_eq_false (by omega)
        have d1' : decide (16384 < T.size) = false := decide_eq_false hbig
        have HP := Lib.hid (Hpg.out (by rw [← Hsz.out]; omega))
        rw [HP.out] at hR7 ⊢
        go_wp2_with fail
        refine (elems_c A A6 n n6 cp c6 l w6 hnm hR6' hR7).mono ?_
        rintro e w7 ⟨rfl, hb7⟩
        have hb7' := below_step hb6' hb7
        go_wp2_with fail
        refine (lsane_c mx w7 (keep_cell hb7' hmx) (ht.below hb7')).mono ?_
        rintro e w8 ⟨rfl, hb8⟩
        go_wp2_with fail
        go_ret
        exact ⟨rfl, below_step hb7' hb8⟩
end Go.Proofs.YtmjdjcpmkdninaaDoor
