/- The walk of plant's Parse. -/
import Derived.Test.YtkkpkekkaoccbaaDoorPlL4
import Derived.Deep.DeepCutAuto
namespace Go.Proofs.YtkkpkekkaoccbaaDoor
open Go.RowKit
theorem wd_map (L : List (List UInt8)) (j : Nat) (h : j < L.length) : Pl.wd (L.map baOf) j = baOf L[j] := by
  unfold Pl.wd
  rw [List.getD_eq_getElem?_getD, List.getElem?_map, List.getElem?_eq_getElem h]
  rfl
theorem last_wd (L : List (List UInt8)) (n : Nat) (h : L.length = n + 1) : L.getLastD [] = (Pl.wd (L.map baOf) n).data.toList := by
  rw [wd_map L n (by omega), List.getLastD_eq_getLast?, List.getLast?_eq_getElem?, show L.length - 1 = n by omega, List.getElem?_eq_getElem (by omega)]
  rfl
theorem lines_cut {s : ByteArray} {L : List ByteArray} {n : Nat} (hL : L = (Tx.cutAt 10 s.data.toList).map baOf) (hn : L.length = n + 1) (h : (Pl.wd L n).size = 0) : (Pl.linesB s).length = n ∧ ∀ j, j < n → Pl.wd (Pl.linesB s) j = Pl.wd L j := by
  have hn' : (Tx.cutAt 10 s.data.toList).length = n + 1 := by rw [hL, List.length_map] at hn; exact hn
  have hz : (Tx.cutAt 10 s.data.toList).getLastD [] = [] := by
    rw [last_wd _ n hn', ← hL]
    exact List.eq_nil_of_length_eq_zero (by simpa using h)
  have hP : Pl.linesB s = ((Tx.cutAt 10 s.data.toList).dropLast).map baOf := by unfold Pl.linesB linesP; rw [if_pos hz]
  rw [hP, hL]
  refine ⟨by rw [List.length_map, List.length_dropLast, hn']; rfl, fun j hj => ?_⟩
  rw [wd_map _ j (by rw [List.length_dropLast, hn']; exact hj), wd_map _ j (by omega), List.getElem_dropLast]
theorem lines_full {s : ByteArray} {L : List ByteArray} {n : Nat} (hL : L = (Tx.cutAt 10 s.data.toList).map baOf) (hn : L.length = n + 1) (h : (Pl.wd L n).size ≠ 0) : Pl.linesB s = L := by
  have hn' : (Tx.cutAt 10 s.data.toList).length = n + 1 := by rw [hL, List.length_map] at hn; exact hn
  have hz : ¬ (Tx.cutAt 10 s.data.toList).getLastD [] = [] := by
    rw [last_wd _ n hn', ← hL]
    intro e
    exact h (by simpa using congrArg List.length e)
  unfold Pl.linesB linesP
  rw [if_neg hz, hL]
/-- The cells of a block are these strings. -/
def StrAt (w : World) (g M : Nat) (L : List ByteArray) : Prop := g < w.heap.size ∧ ∀ j, j < M → w.cell? ⟨g, j, none⟩ = some (.string (Pl.wd L j))
theorem StrAt.below {w w' : World} {g M B : Nat} {L : List ByteArray} (h : StrAt w g M L) (hb : Below B w w') (hg : g < B) : StrAt w' g M L :=
  ⟨Nat.lt_of_lt_of_le h.1 hb.size, fun j hj => (hb.cell (p := ⟨g, j, none⟩) hg).trans (h.2 j hj)⟩
theorem StrAt.new (w : World) (L : List ByteArray) (M : Nat) (hM : M ≤ L.length) (t : TypeId) : StrAt (w.alloc (.cells (L.map Value.string).toArray t)) w.heap.size M L := by
  have hB := Blk.new w t (L.map Value.string).toArray
  refine ⟨by simp, fun j hj => ?_⟩
  rw [hB.cell]
  have hj' : j < L.length := by omega
  simp [Pl.wd, hj']
theorem StrAt.same {w : World} {g M : Nat} {L L' : List ByteArray} (h : StrAt w g M L) (he : ∀ j, j < M → Pl.wd L' j = Pl.wd L j) : StrAt w g M L' := ⟨h.1, fun j hj => by rw [he j hj]; exact h.2 j hj⟩
set_option maxRecDepth 100000 in
set_option maxHeartbeats 4000000 in
theorem parse_c (s : ByteArray) (m : Int) (w : World) (hs : s.size ≤ maxLen) (hm : w.cell? ⟨0, 0, none⟩ = some (.int .i64 m)) :
    Calls Tryd.prog 13 #[.string s] w (ParseR s w) := by
  unfold maxLen at hs
  have hsi : (s.size : Int) ≤ 9223372036854775807 := by omega
  by_cases hbig : 16384 < s.size
  · have d1 : decide (16384 < (s.size : Int)) = true := by simp; omega
    have d1' : decide (16384 < s.size) = true := by simp; omega
    have HE := Lib.hid (Pl.parse_big hbig)
    clear hbig
    go_enter Tryd.func13, Tryd.ntmps13
    go_wp2_with fail
    go_ret3
    exact parseR_nil HE.out (Below.refl _ _)
  · have d1 : decide (16384 < (s.size : Int)) = false := by simp; omega
    have d1' : decide (16384 < s.size) = false := by simp; omega
    have HE := Lib.hid (Pl.parse_start hbig)
    have hs4 : s.size ≤ 16384 := by omega
    clear hbig
    go_enter Tryd.func13, Tryd.ntmps13
    go_wp2_with fail
    refine (split_c 10 s m _ (by omega) hm).mono ?_
    rintro e w1 ⟨L, n, hL, hnl, hn1, hn2, rfl, rfl⟩
    obtain ⟨k, rfl⟩ : ∃ k, n = k + 1 := ⟨n - 1, by omega⟩
    have HL := Lib.hid hL
    have Hnl := Lib.hid hnl
    have hc : (w.alloc (.cells (L.map Value.string).toArray 9)).cell? ⟨w.heap.size, k, none⟩ = some (.string (Pl.wd L k)) := (StrAt.new w L (k + 1) (Nat.le_of_eq hnl.symm) _).2 k (by omega)
    clear hL hnl
    have hk1 : ((k : Int) + 1 - 1) = (k : Int) := by omega
    go_upto_if 21 with fail
    go_cut [5] (fun a wx => ∃ M, a = .slice (some ⟨w.heap.size, 0, none⟩) M (k + 1) ∧ M ≤ k + 1 ∧ Hid ((Pl.linesB s).length = M) ∧ StrAt wx w.heap.size M (Pl.linesB s) ∧ Below w.heap.size w wx)
    case first =>
      have hSt := StrAt.new w L (k + 1) (Nat.le_of_eq Hnl.out.symm) 9
      have hbl := (Below.refl w.heap.size w).alloc (Nat.le_refl _) (.cells (L.map Value.string).toArray 9)
      by_cases hz : (Pl.wd L k).size = 0
      · have d2 := isEmpty_zero hz
        have Hlc := Lib.hid (lines_cut HL.out Hnl.out hz)
        have HR : Hid (StrAt (w.alloc (.cells (L.map Value.string).toArray 9)) w.heap.size k (Pl.linesB s)) := Lib.hid (StrAt.same ⟨hSt.1, fun j hj => hSt.2 j (by omega)⟩ Hlc.out.2)
        clear hz hSt
        rw [d2]
        go_wp2_with fail
        go_meet
        exact ⟨k, rfl, by omega, Lib.hid Hlc.out.1, HR.out, hbl⟩
      · have d2 := isEmpty_of (s := Pl.wd L k) (by omega)
        have Hlf := Lib.hid (lines_full HL.out Hnl.out hz)
        have HR : Hid (StrAt (w.alloc (.cells (L.map Value.string).toArray 9)) w.heap.size (k + 1) (Pl.linesB s)) := Lib.hid (by rw [Hlf.out]; exact hSt)
        clear hz hSt
        rw [d2]
        go_wp2_with fail
        go_meet
        exact ⟨k + 1, rfl, by omega, Lib.hid (by rw [Hlf.out]; exact Hnl.out), HR.out, hbl⟩
    case rest =>
      obtain ⟨M, rfl, hMk, HM, hSt, hbc⟩ := hcut
      obtain ⟨L', hL'⟩ : ∃ L', Pl.linesB s = L' := ⟨_, rfl⟩
      rw [hL'] at HM hSt
      have HL' := Lib.hid hL'
      clear hL' hc hk1
      have hsz0 := hSt.1
      go_wp2_with fail
      go_loopw [2, 29] (fun vl vi wr => ∃ (l : List PE) (i : Nat), i ≤ M ∧ vi = .int .i64 i ∧ wr.ownsRow (w.heap.size + 1) 40 6 vl i (flat6 l) ∧ StrAt wr w.heap.size M L' ∧ Hid (Pl.parse s = Pl.parseS l (Pl.parseGo (L'.drop i) i)) ∧ Hid (∀ x ∈ l, x.nm.size ≤ s.size) ∧ Below w.heap.size w wr) (fun _ vi _ => M - (intOf vi).toNat)
      case atStart => exact ⟨[], 0, by omega, rfl, World.ownsRow_nil _ _ _ _, hSt, Lib.hid (by rw [HE.out, HL'.out]; rfl), Lib.hid (by simp), hbc⟩
      case round =>
        obtain ⟨l, i, hin, rfl, ownl, hSt, HP, HN, hbr⟩ := hrel
        have hil : l.length = i := own6_len ownl
        have HL6 := Lib.hid hil
        clear hil
        have hmr := keep_cell hbr hm
        have hgs := hSt.1
        by_cases hlt : i < M
        · have hcell := hSt.2 i hlt
          have hlti : (i : Int) < (M : Int) := by omega
          have Hli := Lib.hid (show i < L'.length by rw [HM.out]; exact hlt)
          have HLs := Lib.hid (show (Pl.wd L' i).size ≤ 16384 by have := line_size s i; rw [HL'.out] at this; omega)
          go_wp2_with fail
          refine (read_c (Pl.wd L' i) m wr (by have := HLs.out; omega) hmr).mono ?_
          rintro e w2 ⟨⟨p, rfl, hp⟩, hb2⟩
          obtain ⟨o, ho⟩ : ∃ o, Pl.lineB (Pl.wordsB (Pl.wd L' i)) = o := ⟨_, rfl⟩
          rw [ho] at hp ⊢
          have Ho := Lib.hid ho
          clear ho
          cases o with
          | none =>
            have HE2 := Lib.hid (HP.out.trans (Pl.parseS_bad Hli.out Ho.out))
            have hbr2 := below_step hbr hb2
            unfold peV
            clear hp
            go_wp2_with fail
            go_ret3
            exact parseR_nil HE2.out (hbr2.alloc hbr2.size _)
          | some x =>
            obtain rfl := hp x rfl
            have HP2 := Lib.hid (HP.out.trans (Pl.parseS_good Hli.out Ho.out))
            have HN2 : Hid (∀ y ∈ l ++ [p], y.nm.size ≤ s.size) := Lib.hid (fun y hy => by
              rcases List.mem_append.1 hy with h | h
              · exact HN.out y h
              · rw [List.mem_singleton] at h
                subst h
                rw [Pl.lineB_nm Ho.out]
                have h1 := wd_size (Pl.wd L' i) 1
                have h2 := line_size s i
                rw [HL'.out] at h2
                omega)
            have hbr2 := below_step hbr hb2
            have hsz2 := hb2.size
            have ownl2 := (own_below ownl hb2).alloc (.cells #[.int .i64 p.k, .string p.nm, .int .i64 p.a, .int .i64 p.b, .int .i64 p.c, .int .i64 p.len] 40)
            have hSt2 := (hSt.below hb2 hgs).below ((Below.refl w2.heap.size w2).alloc (Nat.le_refl _) (.cells #[.int .i64 p.k, .string p.nm, .int .i64 p.a, .int .i64 p.b, .int .i64 p.c, .int .i64 p.len] 40)) (by omega)
            unfold peV
            clear hp
            have hbsz := hbr2.size
            have h56 : (i + 1) * 56 ≤ 140737488355328 := by omega
            go_wp2_with (at_builtin
                         go_must (
                         refine wpList_pushb sl6 rfl (.tmp 43) (.tmp 45) rfl (w.heap.size + 1) _ _ _ rfl ownl2 1 1 (w2.heap.size + 1) (by simp) rfl rfl rfl (by simp only [maxLen]; omega) h56 (by simp; omega) ?_
                         intro v' w3 own3 hgr
                         have hb4 := hgr.below (own_ge ownl2) (by simp; omega)
                         have hSt3 := hSt2.below hb4 (by omega)
                         have hb3 := (hbr2.alloc hbr2.size (.cells #[.int .i64 p.k, .string p.nm, .int .i64 p.a, .int .i64 p.b, .int .i64 p.c, .int .i64 p.len] 40)).trans (hb4.mono (by omega))))
            go_roundw
            case rel => exact ⟨l ++ [p], i + 1, by omega, by go_num, by rw [flat6_snoc]; exact own3, hSt3, HP2, HN2, hb3⟩
            case measure => simp [intOf]; omega
        · obtain rfl : i = M := by omega
          have HE2 := Lib.hid (HP.out.trans (Pl.parseS_end (Nat.le_of_eq HM.out)))
          obtain ⟨A, c, rfl, hc1, hc2⟩ := own_form ownl
          have hR := own_PR6 ownl
          have hmx : i ≤ maxLen := by unfold maxLen; omega
          have HNm : Hid (∀ x ∈ l, x.nm.size ≤ maxLen) := Lib.hid (fun x hx => by have := HN.out x hx; unfold maxLen; omega)
          go_wp2_with fail
          refine (valid_c A i c l wr hmx hR HNm.out).mono ?_
          rintro e w2 ⟨rfl, hb2⟩
          by_cases h0 : Pl.vErr l = 0
          · have d3 : (Pl.vErr l != 0) = false := by simp [h0]
            have H3 := Lib.hid (HE2.out.trans (if_pos h0))
            clear h0
            have hbr2 := below_step hbr hb2
            have hR2 := hR.below hb2
            go_wp2_with fail
            go_ret3
            exact parseR_ok H3.out hR2 hmx HN.out hbr2
          · have d3 : (Pl.vErr l != 0) = true := by simp [h0]
            have H3 := Lib.hid (HE2.out.trans (if_neg h0))
            clear h0
            have hbr2 := below_step hbr hb2
            go_wp2_with fail
            go_ret3
            exact parseR_nil H3.out hbr2
end Go.Proofs.YtkkpkekkaoccbaaDoor
