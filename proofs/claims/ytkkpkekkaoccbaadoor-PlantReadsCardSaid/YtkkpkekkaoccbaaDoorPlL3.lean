/- The walk of plant's read. -/
import Derived.Test.YtkkpkekkaoccbaaDoorPlL2
import Derived.Test.YtkkpkekkaoccbaaDoorShelf
namespace Go.Proofs.YtkkpkekkaoccbaaDoor
open Go.RowKit
def SplitR (c : UInt8) (s : ByteArray) (w : World) (e : Ending) (w' : World) : Prop := ∃ (L : List ByteArray) (n : Nat), L = (Tx.cutAt c s.data.toList).map baOf ∧ L.length = n ∧ 1 ≤ n ∧ n ≤ s.size + 1 ∧ e = .returned (.slice (some ⟨w.heap.size, 0, none⟩) n n) ∧ w' = w.alloc (.cells (L.map Value.string).toArray 9)
theorem split_c (c : UInt8) (s : ByteArray) (m : Int) (w : World) (hs : s.size ≤ 1000000) (hm : w.cell? ⟨0, 0, none⟩ = some (.int .i64 m)) :
    Calls Tryd.prog 29 #[.string s, .string ⟨#[c]⟩] w (SplitR c s w) := by
  refine (Tryd.strings_Split s ⟨#[c]⟩ m w (by omega) hm (by show 1 ≤ 1; omega)).mono ?_
  rintro e w' ⟨he, hw⟩
  have hL : Lib.splitB ⟨#[c]⟩ 0 (Lib.countB s ⟨#[c]⟩) s = (Tx.cutAt c s.data.toList).map baOf := by
    refine bytesOfL_inj ?_
    rw [bytesOfL_ba]
    exact Tx.split_bytes c s
  have hc : Lib.countB s ⟨#[c]⟩ = Lib.count s.data.toList [c] := rfl
  have hl := Tx.cut_len c s.data.toList
  have hcn : Lib.count s.data.toList [c] ≤ s.size := by
    rw [Lib.count_one]
    have := List.count_le_length (a := c) (l := s.data.toList)
    simpa using this
  exact ⟨_, _, rfl, by rw [List.length_map, hl], by omega, by omega, by rw [he, hc], by rw [hw, hL]⟩
theorem nv_last2 {L : List ByteArray} {n i : Nat} {v : Int} (hn : L.length = n) (h : n ≤ i + 2) (hv : (if 2 < i then Pl.nv L 4 else 0) = v) : Pl.nv L 4 = v := by
  by_cases h4 : 2 < i
  · rw [if_pos h4] at hv; exact hv
  · rw [if_neg h4] at hv
    rw [← hv, Pl.nv, Pl.wd, List.getD_eq_getElem?_getD, List.getElem?_eq_none (by omega)]
    rfl
theorem lnOf {s : ByteArray} {L : List ByteArray} {o : Option PE} (h : Pl.wordsB s = L) (h2 : Pl.lineB L = o) : Pl.lineB (Pl.wordsB s) = o := by rw [h]; exact h2
theorem wordK_eq (s : ByteArray) (k : Int) (h : k = 1 ∨ k = 2 ∨ k = 3) : ((WordK k).1.toList == s.toList) = decide (Pl.kindOf s.data.toList = k) := by
  rw [Lib.toList_data, Lib.toList_data]
  generalize s.data.toList = l
  have hd : ∀ (a : List UInt8) (p : Prop) [Decidable p], ((l = a) ↔ p) → (a == l) = decide p := by
    intro a p _ hp
    by_cases e : l = a
    · rw [decide_eq_true (hp.1 e), beq_iff_eq]; exact e.symm
    · rw [decide_eq_false (fun h => e (hp.2 h)), beq_eq_false_iff_ne]; exact fun h => e h.symm
  have hk := kind_cases l
  rcases h with rfl | rfl | rfl
  · refine hd Pl.track _ ⟨fun e => by rw [e]; rfl, fun e => ?_⟩
    rcases hk with h | h | h | h <;> first | exact h.2 | omega
  · refine hd Pl.switch _ ⟨fun e => by rw [e]; rfl, fun e => ?_⟩
    rcases hk with h | h | h | h <;> first | exact h.2 | omega
  · refine hd Pl.derailer _ ⟨fun e => by rw [e]; rfl, fun e => ?_⟩
    rcases hk with h | h | h | h <;> first | exact h.2 | omega
theorem wordK_two (k : Int) (h : k = 1 ∨ k = 2 ∨ k = 3) : (WordK k).2 = (Pl.wantOf k : Int) - 2 := by
  rcases h with rfl | rfl | rfl <;> rfl
/-- Which kind has been found up to k. -/
def KindS (K k K' c' : Int) : Prop := (K' = 0 ∧ c' = 0 ∧ ¬ (0 < K ∧ K < k)) ∨ (K' = K ∧ c' = (Pl.wantOf K : Int) - 2 ∧ 0 < K ∧ K < k)
theorem KindS.miss {K k K' c' : Int} (h : KindS K k K' c') (h1 : ¬ K = k) : KindS K (k + 1) K' c' := by
  rcases h with ⟨a, b, c⟩ | ⟨a, b, c⟩
  · exact .inl ⟨a, b, by omega⟩
  · exact .inr ⟨a, b, by omega⟩
theorem KindS.hit {K k : Int} (h : K = k) (h1 : 1 ≤ k) (h3 : k ≤ 3) : KindS K (k + 1) k (WordK k).2 :=
  .inr ⟨h.symm, by rw [h]; exact wordK_two k (by omega), by omega⟩
set_option maxRecDepth 100000 in
set_option maxHeartbeats 4000000 in
theorem read_c (s : ByteArray) (m : Int) (w : World) (hs : s.size ≤ 1000000) (hm : w.cell? ⟨0, 0, none⟩ = some (.int .i64 m)) :
    Calls Tryd.prog 30 #[.string s] w (LineR (Pl.lineB (Pl.wordsB s)) w) := by
  have hm1 := cell_alloc hm
  go_enter Tryd.func30, Tryd.ntmps30
  go_wp2_with fail
  refine (split_c 32 s m _ hs (hm1 _)).mono ?_
  rintro e w1 ⟨L', n, hL, hnl, hn1, hn2, rfl, rfl⟩
  have HL := Lib.hid (show Pl.wordsB s = L' from hL.symm)
  have Hnl := Lib.hid hnl
  clear hL hnl
  go_wp2_with fail
  go_loopw [6, 7] (fun vc vk wr => ∃ k K' c' : Int, 1 ≤ k ∧ k ≤ 4 ∧ vk = .int .i64 k ∧ vc = .int .i64 c' ∧ KindS (Pl.kindOf (Pl.wd L' 0).data.toList) k K' c' ∧ wr.ownsRow (w.heap.size + 1) 9 1 (.slice (some ⟨w.heap.size + 1, 0, none⟩) n n) n (L'.map Value.string) ∧
    Blk wr w.heap.size 40 #[.int .i64 0, .string ⟨#[]⟩, .int .i64 0, .int .i64 0, .int .i64 0, .int .i64 0] ∧ Blk wr (w.heap.size + 1 + 1) 40 #[.int .i64 K', .string ⟨#[]⟩, .int .i64 0, .int .i64 0, .int .i64 0, .int .i64 0] ∧ Below w.heap.size w wr) (fun _ vk _ => (4 - intOf vk).toNat)
  case atStart =>
    refine ⟨1, 0, 0, by omega, by omega, rfl, rfl, .inl ⟨rfl, rfl, by omega⟩, ?_, ?_, ?_, ?_⟩
    · refine World.ownsRow.alloc ?_ _
      have h := World.ownsRow_lit (base := w.heap.size + 1) (e := 9) (size := 1) (w.alloc (.cells #[.int .i64 0, .string ⟨#[]⟩, .int .i64 0, .int .i64 0, .int .i64 0, .int .i64 0] 40)) (L'.map Value.string).toArray n (by simp) (by unfold maxLen; omega) (by simpa using Hnl.out)
      simpa using h
    · exact ((Blk.new w 40 _).alloc _).alloc _
    · have h := Blk.new ((w.alloc (.cells #[.int .i64 0, .string ⟨#[]⟩, .int .i64 0, .int .i64 0, .int .i64 0, .int .i64 0] 40)).alloc (.cells (L'.map Value.string).toArray 9)) 40 #[.int .i64 0, .string ⟨#[]⟩, .int .i64 0, .int .i64 0, .int .i64 0, .int .i64 0]
      simpa using h
    · exact (((Below.refl _ _).alloc (Nat.le_refl _) _).alloc (by simp) _).alloc (by simp; omega) _
  case round =>
    obtain ⟨k, K', c', hk1, hk4, rfl, rfl, hks, own, hR, hX, hbr⟩ := hrel
    have hn0 : 0 < n := by omega
    have c0 := own_str own hn0
    have z0 : wr.cell? ⟨w.heap.size + 1 + 1, 0, none⟩ = some (.int .i64 K') := hX.cell 0
    have f0 := hX.frozen 0
    by_cases hlt : k ≤ 3
    · have hk3 : k = 1 ∨ k = 2 ∨ k = 3 := by omega
      obtain ⟨b, hb⟩ : ∃ b, decide (Pl.kindOf (Pl.wd L' 0).data.toList = k) = b := ⟨_, rfl⟩
      have hq := wordK_eq (Pl.wd L' 0) k hk3
      rw [hb] at hq
      have Hb := Lib.hid hb
      clear hb hk3
      cases b
      · have HK := Lib.hid (of_decide_eq_false Hb.out)
        go_wp2_with fail
        refine (word_c k _).mono ?_
        rintro e w' ⟨rfl, rfl⟩
        go_wp2_with fail
        go_roundw
        case rel => exact ⟨k + 1, K', c', by omega, by omega, rfl, rfl, hks.miss HK.out, own, hR, hX, hbr⟩
        case measure => simp [intOf]; omega
      · have HK := Lib.hid (of_decide_eq_true Hb.out)
        have own' := Lib.hid (own_set_other (g := w.heap.size + 1 + 1) (j := 0) own (by simp [Value.ownBlock]) (.int .i64 k))
        have hR' := Lib.hid (hR.far (p := ⟨w.heap.size + 1 + 1, 0, none⟩) (by simp; omega) (.int .i64 k))
        have hX' := Lib.hid (hX.set_ 0 (.int .i64 k))
        have hbr' := Lib.hid (hbr.setCell (p := ⟨w.heap.size + 1 + 1, 0, none⟩) (by simp; omega) (.int .i64 k))
        go_wp2_with fail
        refine (word_c k _).mono ?_
        rintro e w' ⟨rfl, rfl⟩
        go_wp2_with fail
        go_roundw
        case rel => exact ⟨k + 1, k, (WordK k).2, by omega, by omega, rfl, rfl, KindS.hit HK.out (by omega) hlt, own'.out, hR'.out, by simpa using hX'.out, hbr'.out⟩
        case measure => simp [intOf]; omega
    · obtain rfl : k = 4 := by omega
      obtain ⟨K, hK⟩ : ∃ K, Pl.kindOf (Pl.wd L' 0).data.toList = K := ⟨_, rfl⟩
      have hkc : K = 0 ∨ K = 1 ∨ K = 2 ∨ K = 3 := by
        rw [← hK]
        rcases kind_cases (Pl.wd L' 0).data.toList with h | h | h | h
        · exact .inr (.inl h.1)
        · exact .inr (.inr (.inl h.1))
        · exact .inr (.inr (.inr h.1))
        · exact .inl h.1
      rw [hK] at hks
      obtain rfl : K = K' := by
        rcases hks with ⟨a, b, c⟩ | ⟨a, b, c⟩
        · omega
        · exact a.symm
      obtain ⟨M, hM⟩ : ∃ M, Pl.wantOf K = M := ⟨_, rfl⟩
      have hMK : M = 4 ∧ K = 3 ∨ M = 5 ∧ K ≠ 3 := by
        rw [← hM]
        unfold Pl.wantOf
        by_cases h : K = 3
        · exact .inl ⟨if_pos h, h⟩
        · exact .inr ⟨if_neg h, h⟩
      have hc' : K = 0 ∧ c' = 0 ∨ K ≠ 0 ∧ c' + 2 = (M : Int) := by
        rcases hks with ⟨a, b, c⟩ | ⟨a, b, c⟩
        · exact .inl ⟨by omega, b⟩
        · rw [hM] at b
          exact .inr ⟨by omega, by omega⟩
      have HK := Lib.hid hK
      have HM := Lib.hid hM
      clear hK hM hks hlt hk1 hk4
      have z1 : wr.cell? ⟨w.heap.size + 1 + 1, 1, none⟩ = some (.string ⟨#[]⟩) := hX.cell 1
      have z2 : wr.cell? ⟨w.heap.size + 1 + 1, 2, none⟩ = some (.int .i64 0) := hX.cell 2
      have z3 : wr.cell? ⟨w.heap.size + 1 + 1, 3, none⟩ = some (.int .i64 0) := hX.cell 3
      have z4 : wr.cell? ⟨w.heap.size + 1 + 1, 4, none⟩ = some (.int .i64 0) := hX.cell 4
      have z5 : wr.cell? ⟨w.heap.size + 1 + 1, 5, none⟩ = some (.int .i64 0) := hX.cell 5
      have y0 : wr.cell? ⟨w.heap.size, 0, none⟩ = some (.int .i64 0) := hR.cell 0
      have y1 : wr.cell? ⟨w.heap.size, 1, none⟩ = some (.string ⟨#[]⟩) := hR.cell 1
      have y2 : wr.cell? ⟨w.heap.size, 2, none⟩ = some (.int .i64 0) := hR.cell 2
      have y3 : wr.cell? ⟨w.heap.size, 3, none⟩ = some (.int .i64 0) := hR.cell 3
      have y4 : wr.cell? ⟨w.heap.size, 4, none⟩ = some (.int .i64 0) := hR.cell 4
      have y5 : wr.cell? ⟨w.heap.size, 5, none⟩ = some (.int .i64 0) := hR.cell 5
      have x0 := hR.frozen 0
      have x1 := hR.frozen 1
      have x2 := hR.frozen 2
      have x3 := hR.frozen 3
      have x4 := hR.frozen 4
      have x5 := hR.frozen 5
      have Hne : Hid ((Value.slice (some ⟨w.heap.size + 1, 0, none⟩) n n).ownBlock ≠ some w.heap.size) := Lib.hid (by simp [Value.ownBlock])
      by_cases hk0 : K = 0
      · have d0 : (K == 0) = true := by simpa using hk0
        have Hn := Lib.hid (show Pl.lineB L' = none by unfold Pl.lineB; rw [HK.out, if_pos (.inl hk0)])
        clear hk0 hkc hMK hc'
        obtain ⟨q1, q2, q3⟩ := store6 hR own Hne.out hbr (Nat.le_refl _) (.int .i64 K) (.string ⟨#[]⟩) (.int .i64 0) (.int .i64 0) (.int .i64 0) (.int .i64 0)
        have Q1 := Lib.hid q1
        have Q3 := Lib.hid q3
        clear q1 q2 q3
        go_wp2_with fail
        have r0 := Q1.out.cell 0
        have r1 := Q1.out.cell 1
        have r2 := Q1.out.cell 2
        have r3 := Q1.out.cell 3
        have r4 := Q1.out.cell 4
        have r5 := Q1.out.cell 5
        have R3 := Q3.out
        generalize ((((((wr.setCell ⟨w.heap.size, 0, none⟩ (.int .i64 K)).setCell ⟨w.heap.size, 1, none⟩ (.string ⟨#[]⟩)).setCell ⟨w.heap.size, 2, none⟩ (.int .i64 0)).setCell ⟨w.heap.size, 3, none⟩ (.int .i64 0)).setCell ⟨w.heap.size, 4, none⟩ (.int .i64 0)).setCell ⟨w.heap.size, 5, none⟩ (.int .i64 0)) = W at r0 r1 r2 r3 r4 r5 R3 ⊢
        have R4 := R3
        refine bodyPost_ret (v := .tuple #[.agg #[(.int .i64 K), (.string ⟨#[]⟩), (.int .i64 0), (.int .i64 0), (.int .i64 0), (.int .i64 0)], .bool false]) (by simp [results, Tryd.results30, go_sem, r0, r1, r2, r3, r4, r5]) rfl ?_
        exact lineR_none (lnOf HL.out Hn.out) R4
      · have d0 : (K == 0) = false := by simpa using hk0
        obtain ⟨N, hN⟩ : ∃ N : Nat, N + 2 = M := ⟨M - 2, by omega⟩
        obtain rfl : c' = (N : Int) := by omega
        have hN3 : N = 2 ∧ K = 3 ∨ N = 3 ∧ K ≠ 3 := by omega
        have hNle : N ≤ 3 := by omega
        clear hc' hMK
        have HN := Lib.hid hN
        clear hN
        by_cases hnM : n = N + 2
        · have d1 : ((n : Int) != (N : Int) + 2) = false := by simp; omega
          have c1 := own_str own (j := 1) (by omega)
          have h1n : (1 : Int) < (n : Int) := by omega
          have hnM1 := Nat.le_of_eq hnM
          have hnM2 := Nat.le_of_eq hnM.symm
          clear hnM
          by_cases hz : (Pl.wd L' 1).size = 0
          · have d2 := isEmpty_zero hz
            have Hn := Lib.hid (show Pl.lineB L' = none by unfold Pl.lineB; rw [if_pos (.inr (.inr hz))])
            clear hz hk0 hkc hN3
            obtain ⟨q1, q2, q3⟩ := store6 hR own Hne.out hbr (Nat.le_refl _) (.int .i64 K) (.string ⟨#[]⟩) (.int .i64 0) (.int .i64 0) (.int .i64 0) (.int .i64 0)
            have Q1 := Lib.hid q1
            have Q3 := Lib.hid q3
            clear q1 q2 q3
            go_wp2_with fail
            have r0 := Q1.out.cell 0
            have r1 := Q1.out.cell 1
            have r2 := Q1.out.cell 2
            have r3 := Q1.out.cell 3
            have r4 := Q1.out.cell 4
            have r5 := Q1.out.cell 5
            have R3 := Q3.out
            generalize ((((((wr.setCell ⟨w.heap.size, 0, none⟩ (.int .i64 K)).setCell ⟨w.heap.size, 1, none⟩ (.string ⟨#[]⟩)).setCell ⟨w.heap.size, 2, none⟩ (.int .i64 0)).setCell ⟨w.heap.size, 3, none⟩ (.int .i64 0)).setCell ⟨w.heap.size, 4, none⟩ (.int .i64 0)).setCell ⟨w.heap.size, 5, none⟩ (.int .i64 0)) = W at r0 r1 r2 r3 r4 r5 R3 ⊢
            have R4 := R3
            refine bodyPost_ret (v := .tuple #[.agg #[(.int .i64 K), (.string ⟨#[]⟩), (.int .i64 0), (.int .i64 0), (.int .i64 0), (.int .i64 0)], .bool false]) (by simp [results, Tryd.results30, go_sem, r0, r1, r2, r3, r4, r5]) rfl ?_
            exact lineR_none (lnOf HL.out Hn.out) R4
          · have d2 := isEmpty_of (s := Pl.wd L' 1) (by omega)
            go_wp2_with fail
            obtain ⟨wo, rfl⟩ : ∃ wo : World, wo = wr := ⟨_, rfl⟩
            have Hwd : Hid (∀ t, (Pl.wd L' t).size ≤ maxLen) := Lib.hid (fun t => by
              have := wd_size s t
              rw [HL.out] at this
              unfold maxLen
              omega)
            go_loopw [51] (fun vi wr => ∃ i : Nat, i ≤ N ∧ vi = .int .i64 i ∧ Hid (∀ t, 2 ≤ t → t < i + 2 → Pl.numOkB (Pl.wd L' t) = true) ∧ ArrAt wr wo.heap.size 3 (fun j => if j < i then Pl.nv L' (j + 2) else 0) ∧ Below wo.heap.size wo wr) (fun vi _ => N - (intOf vi).toNat)
            case atStart => exact ⟨0, by omega, rfl, Lib.hid (fun t h1 h2 => by omega), zeros3 wo _ _ rfl (fun j => if_neg (by omega)), (Below.refl _ _).alloc (Nat.le_refl _) _⟩
            case round =>
              obtain ⟨i, hiN, rfl, hok, hA, hbw⟩ := hrel
              have own' := own_below own hbw
              have hR' := hR.below hbw hR.lt
              have hX' := hX.below hbw hX.lt
              have hbr' := below_step hbr hbw
              have y0 : wr.cell? ⟨w.heap.size, 0, none⟩ = some (.int .i64 0) := hR'.cell 0
              have x0 := hR'.frozen 0
              have y1 : wr.cell? ⟨w.heap.size, 1, none⟩ = some (.string ⟨#[]⟩) := hR'.cell 1
              have x1 := hR'.frozen 1
              have y2 : wr.cell? ⟨w.heap.size, 2, none⟩ = some (.int .i64 0) := hR'.cell 2
              have x2 := hR'.frozen 2
              have y3 : wr.cell? ⟨w.heap.size, 3, none⟩ = some (.int .i64 0) := hR'.cell 3
              have x3 := hR'.frozen 3
              have y4 : wr.cell? ⟨w.heap.size, 4, none⟩ = some (.int .i64 0) := hR'.cell 4
              have x4 := hR'.frozen 4
              have y5 : wr.cell? ⟨w.heap.size, 5, none⟩ = some (.int .i64 0) := hR'.cell 5
              have x5 := hR'.frozen 5
              have z0 : wr.cell? ⟨w.heap.size + 1 + 1, 0, none⟩ = some (.int .i64 K) := hX'.cell 0
              have z1 : wr.cell? ⟨w.heap.size + 1 + 1, 1, none⟩ = some (.string ⟨#[]⟩) := hX'.cell 1
              have z2 : wr.cell? ⟨w.heap.size + 1 + 1, 2, none⟩ = some (.int .i64 0) := hX'.cell 2
              have z3 : wr.cell? ⟨w.heap.size + 1 + 1, 3, none⟩ = some (.int .i64 0) := hX'.cell 3
              have z4 : wr.cell? ⟨w.heap.size + 1 + 1, 4, none⟩ = some (.int .i64 0) := hX'.cell 4
              have z5 : wr.cell? ⟨w.heap.size + 1 + 1, 5, none⟩ = some (.int .i64 0) := hX'.cell 5
              have f0 := hX'.frozen 0
              have f1 := hX'.frozen 1
              have f2 := hX'.frozen 2
              have f3 := hX'.frozen 3
              have f4 := hX'.frozen 4
              have f5 := hX'.frozen 5
              by_cases hlt : i < N
              · have ci := own_str own' (j := i + 2) (by omega)
                have hin : (i : Int) + 2 < (n : Int) := by omega
                have hi3 : i < 3 := by omega
                have hi3i : (i : Int) < 3 := by omega
                have ca := hA.2.1 i hi3
                have cf := hA.2.2 i
                simp only at ca
                go_wp2_with fail
                refine (number_c (Pl.wd L' (i + 2)) wr (Hwd.out _)).mono ?_
                rintro e w2 ⟨rfl, rfl⟩
                obtain ⟨v, hv⟩ : ∃ v, (numR (Pl.wd L' (i + 2))).1 = v := ⟨_, rfl⟩
                obtain ⟨b, hb⟩ : ∃ b, Pl.numOkB (Pl.wd L' (i + 2)) = b := ⟨_, rfl⟩
                rw [show ((numR (Pl.wd L' (i + 2))).2 && decide ((numR (Pl.wd L' (i + 2))).1 ≤ 1000000)) = b from hb, hv]
                have Hv := Lib.hid hv
                have Hb := Lib.hid hb
                clear hv hb
                cases b
                case false =>
                  have Hn := Lib.hid (lineB_bad (L := L') (i := i + 2) (by omega) (by rw [Hnl.out]; omega) Hb.out)
                  obtain ⟨q1, q2, q3⟩ := store6 hR' own' Hne.out hbr' (Nat.le_refl _) (.int .i64 K) (.string ⟨#[]⟩) (.int .i64 0) (.int .i64 0) (.int .i64 0) (.int .i64 0)
                  have Q1 := Lib.hid q1
                  have Q3 := Lib.hid q3
                  clear q1 q2 q3
                  go_wp2_with fail
                  have r0 := Q1.out.cell 0
                  have r1 := Q1.out.cell 1
                  have r2 := Q1.out.cell 2
                  have r3 := Q1.out.cell 3
                  have r4 := Q1.out.cell 4
                  have r5 := Q1.out.cell 5
                  have R3 := Q3.out
                  generalize ((((((wr.setCell ⟨w.heap.size, 0, none⟩ (.int .i64 K)).setCell ⟨w.heap.size, 1, none⟩ (.string ⟨#[]⟩)).setCell ⟨w.heap.size, 2, none⟩ (.int .i64 0)).setCell ⟨w.heap.size, 3, none⟩ (.int .i64 0)).setCell ⟨w.heap.size, 4, none⟩ (.int .i64 0)).setCell ⟨w.heap.size, 5, none⟩ (.int .i64 0)) = W at r0 r1 r2 r3 r4 r5 R3 ⊢
                  have R4 := R3
                  refine bodyPost_ret (v := .tuple #[.agg #[(.int .i64 K), (.string ⟨#[]⟩), (.int .i64 0), (.int .i64 0), (.int .i64 0), (.int .i64 0)], .bool false]) (by simp [results, Tryd.results30, go_sem, r0, r1, r2, r3, r4, r5]) rfl ?_
                  exact lineR_none (lnOf HL.out Hn.out) R4
                case true =>
                  have HA' := Lib.hid (hA.set i (v : Int) (f' := fun j => if j < i + 1 then Pl.nv L' (j + 2) else 0) (by
                    rw [if_pos (by omega), Pl.nv, Hv.out]) (fun j hj hne => by
                    by_cases h : j < i
                    · rw [if_pos h, if_pos (by omega)]
                    · rw [if_neg h, if_neg (by omega)]))
                  have Hok' : Hid (∀ t, 2 ≤ t → t < i + 1 + 2 → Pl.numOkB (Pl.wd L' t) = true) := Lib.hid (fun t h1 h2 => by
                    rcases Nat.lt_or_ge t (i + 2) with h | h
                    · exact hok.out t h1 h
                    · obtain rfl : t = i + 2 := by omega
                      exact Hb.out)
                  have Hbw' := Lib.hid (hbw.setCell (p := ⟨wo.heap.size, i, none⟩) (Nat.le_refl _) (.int .i64 (v : Int)))
                  clear hA hbw
                  go_wp2_with fail
                  go_roundw
                  case rel => exact ⟨i + 1, by omega, by go_num, Hok', HA'.out, Hbw'.out⟩
                  case measure => simp [intOf]; omega
              · obtain rfl : i = N := by omega
                have c1' := own_str own' (j := 1) (by omega)
                have a0 := hA.2.1 0 (by omega)
                have a1 := hA.2.1 1 (by omega)
                have a2 := hA.2.1 2 (by omega)
                simp only [Nat.zero_add, Nat.reduceAdd] at a0 a1 a2
                rw [if_pos (by omega)] at a0
                rw [if_pos (by omega)] at a1
                obtain ⟨v2, hv2⟩ : ∃ v, (if 2 < i then Pl.nv L' 4 else 0) = v := ⟨_, rfl⟩
                rw [hv2] at a2
                have Hv2 := Lib.hid hv2
                clear hv2
                have hwo := hX.lt
                have hwn : w.heap.size + 1 + 1 ≠ wo.heap.size := by omega
                go_wp2_with fail
                go_region_held3 (fun W => W.cell? ⟨w.heap.size + 1, 1, none⟩ = some (.string (Pl.wd L' 1)) ∧ W.cell? ⟨wo.heap.size, 0, none⟩ = some (.int .i64 (Pl.nv L' 2)) ∧ W.cell? ⟨wo.heap.size, 1, none⟩ = some (.int .i64 (Pl.nv L' 3))) (go_keep) (fail)
                have hnR : w.heap.size ≠ w.heap.size + 1 + 1 := by omega
                have hBX : w.heap.size ≤ w.heap.size + 1 + 1 := by omega
                have hoX : (Value.slice (some ⟨w.heap.size + 1, 0, none⟩) n n).ownBlock ≠ some (w.heap.size + 1 + 1) := by simp [Value.ownBlock]
                have HnR := Lib.hid hnR
                have HoX := Lib.hid hoX
                by_cases hk1 : K = 1
                · have d5 : (K == 1) = true := by simpa using hk1
                  have h2i : 2 < i := by omega
                  have Hk1 := Lib.hid hk1
                  have Hn := Lib.hid (show Pl.lineB L' = some ⟨K, Pl.wd L' 1, Pl.nv L' 2, Pl.nv L' 3, 0, v2⟩ from lineB_good HK.out hk0 (by rw [Hnl.out, HM.out, ← HN.out]; omega) hz (fun t h1 h2 => hok.out t h1 (by rw [Hnl.out] at h2; omega)) (if_pos Hk1.out) (by rw [if_pos Hk1.out, ← Hv2.out, if_pos h2i]))
                  clear hk1 hkc hN3 
                  obtain ⟨q1, q2, q3⟩ := store6 ((((hR'.far (p := ⟨w.heap.size + 1 + 1, 1, none⟩) hnR (.string (Pl.wd L' 1))).far (p := ⟨w.heap.size + 1 + 1, 2, none⟩) hnR (.int .i64 (Pl.nv L' 2))).far (p := ⟨w.heap.size + 1 + 1, 3, none⟩) hnR (.int .i64 (Pl.nv L' 3))).far (p := ⟨w.heap.size + 1 + 1, 5, none⟩) hnR (.int .i64 v2)) (own_set_other (g := w.heap.size + 1 + 1) (j := 5) (own_set_other (g := w.heap.size + 1 + 1) (j := 3) (own_set_other (g := w.heap.size + 1 + 1) (j := 2) (own_set_other (g := w.heap.size + 1 + 1) (j := 1) own' hoX (.string (Pl.wd L' 1))) hoX (.int .i64 (Pl.nv L' 2))) hoX (.int .i64 (Pl.nv L' 3))) hoX (.int .i64 v2)) Hne.out ((((hbr'.setCell (p := ⟨w.heap.size + 1 + 1, 1, none⟩) hBX (.string (Pl.wd L' 1))).setCell (p := ⟨w.heap.size + 1 + 1, 2, none⟩) hBX (.int .i64 (Pl.nv L' 2))).setCell (p := ⟨w.heap.size + 1 + 1, 3, none⟩) hBX (.int .i64 (Pl.nv L' 3))).setCell (p := ⟨w.heap.size + 1 + 1, 5, none⟩) hBX (.int .i64 v2)) (Nat.le_refl _) (.int .i64 K) (.string (Pl.wd L' 1)) (.int .i64 (Pl.nv L' 2)) (.int .i64 (Pl.nv L' 3)) (.int .i64 0) (.int .i64 v2)
                  have Q1 := Lib.hid q1
                  have Q3 := Lib.hid q3
                  clear q1 q2 q3
                  clear hnR hBX hoX
                  go_wp2_with fail
                  have r0 := Q1.out.cell 0
                  have r1 := Q1.out.cell 1
                  have r2 := Q1.out.cell 2
                  have r3 := Q1.out.cell 3
                  have r4 := Q1.out.cell 4
                  have r5 := Q1.out.cell 5
                  have R3 := Q3.out
                  generalize ((((((((((wr.setCell ⟨w.heap.size + 1 + 1, 1, none⟩ (.string (Pl.wd L' 1))).setCell ⟨w.heap.size + 1 + 1, 2, none⟩ (.int .i64 (Pl.nv L' 2))).setCell ⟨w.heap.size + 1 + 1, 3, none⟩ (.int .i64 (Pl.nv L' 3))).setCell ⟨w.heap.size + 1 + 1, 5, none⟩ (.int .i64 v2)).setCell ⟨w.heap.size, 0, none⟩ (.int .i64 K)).setCell ⟨w.heap.size, 1, none⟩ (.string (Pl.wd L' 1))).setCell ⟨w.heap.size, 2, none⟩ (.int .i64 (Pl.nv L' 2))).setCell ⟨w.heap.size, 3, none⟩ (.int .i64 (Pl.nv L' 3))).setCell ⟨w.heap.size, 4, none⟩ (.int .i64 0)).setCell ⟨w.heap.size, 5, none⟩ (.int .i64 v2)) = W at r0 r1 r2 r3 r4 r5 R3 ⊢
                  have R4 := (below_todrew R3)
                  refine bodyPost_ret (v := .tuple #[.agg #[(.int .i64 K), (.string (Pl.wd L' 1)), (.int .i64 (Pl.nv L' 2)), (.int .i64 (Pl.nv L' 3)), (.int .i64 0), (.int .i64 v2)], .bool true]) (by simp [results, Tryd.results30, go_sem, r0, r1, r2, r3, r4, r5]) rfl ?_
                  exact lineR_some (lnOf HL.out Hn.out) R4
                · have d5 : (K == 1) = false := by simpa using hk1
                  have Hk1 := Lib.hid hk1
                  have Hn := Lib.hid (show Pl.lineB L' = some ⟨K, Pl.wd L' 1, Pl.nv L' 2, Pl.nv L' 3, v2, 0⟩ from lineB_good HK.out hk0 (by rw [Hnl.out, HM.out, ← HN.out]; omega) hz (fun t h1 h2 => hok.out t h1 (by rw [Hnl.out] at h2; omega)) (by rw [if_neg Hk1.out]; exact nv_last2 Hnl.out hnM1 Hv2.out) (if_neg Hk1.out))
                  clear hk1 hkc hN3
                  obtain ⟨q1, q2, q3⟩ := store6 ((((hR'.far (p := ⟨w.heap.size + 1 + 1, 1, none⟩) hnR (.string (Pl.wd L' 1))).far (p := ⟨w.heap.size + 1 + 1, 2, none⟩) hnR (.int .i64 (Pl.nv L' 2))).far (p := ⟨w.heap.size + 1 + 1, 3, none⟩) hnR (.int .i64 (Pl.nv L' 3))).far (p := ⟨w.heap.size + 1 + 1, 4, none⟩) hnR (.int .i64 v2)) (own_set_other (g := w.heap.size + 1 + 1) (j := 4) (own_set_other (g := w.heap.size + 1 + 1) (j := 3) (own_set_other (g := w.heap.size + 1 + 1) (j := 2) (own_set_other (g := w.heap.size + 1 + 1) (j := 1) own' hoX (.string (Pl.wd L' 1))) hoX (.int .i64 (Pl.nv L' 2))) hoX (.int .i64 (Pl.nv L' 3))) hoX (.int .i64 v2)) Hne.out ((((hbr'.setCell (p := ⟨w.heap.size + 1 + 1, 1, none⟩) hBX (.string (Pl.wd L' 1))).setCell (p := ⟨w.heap.size + 1 + 1, 2, none⟩) hBX (.int .i64 (Pl.nv L' 2))).setCell (p := ⟨w.heap.size + 1 + 1, 3, none⟩) hBX (.int .i64 (Pl.nv L' 3))).setCell (p := ⟨w.heap.size + 1 + 1, 4, none⟩) hBX (.int .i64 v2)) (Nat.le_refl _) (.int .i64 K) (.string (Pl.wd L' 1)) (.int .i64 (Pl.nv L' 2)) (.int .i64 (Pl.nv L' 3)) (.int .i64 v2) (.int .i64 0)
                  have Q1 := Lib.hid q1
                  have Q3 := Lib.hid q3
                  clear q1 q2 q3
                  clear hnR hBX hoX
                  go_wp2_with fail
                  have r0 := Q1.out.cell 0
                  have r1 := Q1.out.cell 1
                  have r2 := Q1.out.cell 2
                  have r3 := Q1.out.cell 3
                  have r4 := Q1.out.cell 4
                  have r5 := Q1.out.cell 5
                  have R3 := Q3.out
                  generalize ((((((((((wr.setCell ⟨w.heap.size + 1 + 1, 1, none⟩ (.string (Pl.wd L' 1))).setCell ⟨w.heap.size + 1 + 1, 2, none⟩ (.int .i64 (Pl.nv L' 2))).setCell ⟨w.heap.size + 1 + 1, 3, none⟩ (.int .i64 (Pl.nv L' 3))).setCell ⟨w.heap.size + 1 + 1, 4, none⟩ (.int .i64 v2)).setCell ⟨w.heap.size, 0, none⟩ (.int .i64 K)).setCell ⟨w.heap.size, 1, none⟩ (.string (Pl.wd L' 1))).setCell ⟨w.heap.size, 2, none⟩ (.int .i64 (Pl.nv L' 2))).setCell ⟨w.heap.size, 3, none⟩ (.int .i64 (Pl.nv L' 3))).setCell ⟨w.heap.size, 4, none⟩ (.int .i64 v2)).setCell ⟨w.heap.size, 5, none⟩ (.int .i64 0)) = W at r0 r1 r2 r3 r4 r5 R3 ⊢
                  have R4 := (below_todrew R3)
                  refine bodyPost_ret (v := .tuple #[.agg #[(.int .i64 K), (.string (Pl.wd L' 1)), (.int .i64 (Pl.nv L' 2)), (.int .i64 (Pl.nv L' 3)), (.int .i64 v2), (.int .i64 0)], .bool true]) (by simp [results, Tryd.results30, go_sem, r0, r1, r2, r3, r4, r5]) rfl ?_
                  exact lineR_some (lnOf HL.out Hn.out) R4
        · have d1 : ((n : Int) != (N : Int) + 2) = true := by simp; omega
          have Hn := Lib.hid (show Pl.lineB L' = none by unfold Pl.lineB; rw [HK.out, HM.out, Hnl.out, if_pos (.inr (.inl (by rw [← HN.out]; exact hnM)))])
          clear hnM hk0 hkc hN3
          obtain ⟨q1, q2, q3⟩ := store6 hR own Hne.out hbr (Nat.le_refl _) (.int .i64 K) (.string ⟨#[]⟩) (.int .i64 0) (.int .i64 0) (.int .i64 0) (.int .i64 0)
          have Q1 := Lib.hid q1
          have Q3 := Lib.hid q3
          clear q1 q2 q3
          go_wp2_with fail
          have r0 := Q1.out.cell 0
          have r1 := Q1.out.cell 1
          have r2 := Q1.out.cell 2
          have r3 := Q1.out.cell 3
          have r4 := Q1.out.cell 4
          have r5 := Q1.out.cell 5
          have R3 := Q3.out
          generalize ((((((wr.setCell ⟨w.heap.size, 0, none⟩ (.int .i64 K)).setCell ⟨w.heap.size, 1, none⟩ (.string ⟨#[]⟩)).setCell ⟨w.heap.size, 2, none⟩ (.int .i64 0)).setCell ⟨w.heap.size, 3, none⟩ (.int .i64 0)).setCell ⟨w.heap.size, 4, none⟩ (.int .i64 0)).setCell ⟨w.heap.size, 5, none⟩ (.int .i64 0)) = W at r0 r1 r2 r3 r4 r5 R3 ⊢
          have R4 := R3
          refine bodyPost_ret (v := .tuple #[.agg #[(.int .i64 K), (.string ⟨#[]⟩), (.int .i64 0), (.int .i64 0), (.int .i64 0), (.int .i64 0)], .bool false]) (by simp [results, Tryd.results30, go_sem, r0, r1, r2, r3, r4, r5]) rfl ?_
          exact lineR_none (lnOf HL.out Hn.out) R4
end Go.Proofs.YtkkpkekkaoccbaaDoor
