/- The walk of 'LayoutLine'. -/
import Derived.Test.YtmjdjcpmkdninaaDoorLyY
namespace Go.Proofs.YtmjdjcpmkdninaaDoor
open Go.RowKit
def padAt (i : Nat) : List UInt8 := if i % 3 = 0 then [] else if i % 3 = 1 then [32] else [35]
def pads (k : Nat) : List (List UInt8) := (List.range k).map padAt
theorem pads_len (k : Nat) : (pads k).length = k := by simp [pads]
theorem pads_ok (k : Nat) : ∀ p ∈ pads k, Ly.padL p := by
  intro p hp
  obtain ⟨i, _, rfl⟩ := List.mem_map.1 hp
  unfold padAt Ly.padL
  split
  · exact .inl rfl
  · split
    · exact .inr (.inl rfl)
    · exact .inr (.inr rfl)
theorem pads_succ (k : Nat) : baOf (Ly.ended (pads k)) ++ baOf (padAt k ++ [10]) = baOf (Ly.ended (pads (k + 1))) := by
  unfold pads
  rw [List.range_succ, List.map_append, Ly.ended_app]
  refine Ly.nm_ext ?_
  simp [baOf, Ly.ended]
theorem pads_size (k : Nat) : (Ly.ended (pads k)).length ≤ 2 * k := by
  unfold pads Ly.ended
  induction k with
  | zero => simp
  | succ k ih =>
    rw [List.range_succ, List.map_append, List.flatMap_append, List.length_append]
    have : (List.flatMap (fun p => p ++ [10]) (List.map padAt [k])).length ≤ 2 := by
      simp [padAt]
      split
      · simp
      · split <;> simp
    omega
theorem count_take {s : ByteArray} {k : Nat} (hk : k < s.size) : (s.data.toList.take (k + 1)).count 10 = (s.data.toList.take k).count 10 + if s[k].toNat = 10 then 1 else 0 := by
  have hk' : k < s.data.toList.length := by simpa using hk
  rw [List.take_succ_eq_append_getElem hk', List.count_append, List.count_cons, List.count_nil]
  have : s.data.toList[k] = s[k] := rfl
  rw [this]
  by_cases h : s[k].toNat = 10
  · have : s[k] = 10 := UInt8.toNat_inj.1 h
    simp [this]
  · have : ¬ s[k] = 10 := fun e => h (by rw [e]; rfl)
    simp [this, h]
def LnA (r : Nat) (w : World) (vp vi : Value) (wr : World) : Prop := ∃ k : Nat, k ≤ r ∧ vi = .int .i64 (k : Int) ∧ vp = .string (baOf (Ly.ended (pads k))) ∧ Below w.heap.size w wr
def LnB (s : ByteArray) (vn vi : Value) : Prop := ∃ k : Nat, k ≤ s.size ∧ vi = .int .i64 (k : Int) ∧ vn = .int .i64 (((s.data.toList.take k).count 10 : Nat) : Int)
set_option linter.unusedVariables false in
set_option maxRecDepth 100000 in
set_option maxHeartbeats 8000000 in
theorem walk_LayoutLine (a0 : Option Addr) (len0 cap0 : Nat) (z0 : List Int) (a1 : Int) (mx : Int) (w : World) (w0 : IsRow .i64 w a0 len0 cap0 z0) (w1 : (Lit.int .i64 a1).wf = true) (hmx : w.cell? ⟨1, 0, none⟩ = some (.int .i64 mx)) (ht : Tab10 w) :
    Calls Tryd.prog 9 #[.slice a0 len0 cap0, .int .i64 a1] w fun e w' => e = .returned (.bool true) ∧ Below w.heap.size w w' := by
  obtain ⟨r0, m0, _⟩ := w0.reads
  clear w0
  generalize z0.take len0 = l0 at r0
  obtain ⟨r, hr, hrx⟩ := inMod a1 5 (by omega)
  have t0 := tmod_bd a1 5 (by omega)
  go_enter Tryd.func9, Tryd.ntmps9
  go_wp2_with fail
  refine (new_c _ _ _ _ _ m0 r0).mono ?_
  rintro e w1 ⟨rfl, hm1, hb1, hz1⟩
  clear r0 m0
  go_wp2_with fail
  refine (lmade_c w.heap.size w.heap.size 0 3 w1 hm1 (by omega) (by omega) hb1.size).mono ?_
  rintro e w2 ⟨A, n, cp, l, c2, rfl, _, hR, hn1, _, _, Hok, HL, _, hm2, hg2⟩
  have hb2 := hb1.trans (grown_below hg2 hb1.size (Nat.le_refl _))
  have ht2 := ht.below hb2
  have hll := hR.len
  clear hm1 hb1 hz1 hm2 hg2
  have HF1 := Lib.hid (lfmtOk_c A n cp l w2 (by unfold maxLen; omega) hR HL.out ht2 Hok.out)
  have Hfits := Lib.hid (Ly.vErr_zero Hok.out).2.2.1
  have Hlen := Lib.hid (Ly.fmtL_len Hfits.out)
  have Hcnt := Lib.hid (Ly.count_fmt Hfits.out)
  obtain ⟨s, hs⟩ : ∃ s, baOf (Ly.fmtL l) = s := ⟨_, rfl⟩
  have hs2 : s.size ≤ 2816 := by rw [← hs, Ly.baOf_size]; have := Hlen.out; omega
  rw [hs] at HF1
  have Hs := Lib.hid hs
  have hsd : s.data.toList = Ly.fmtL l := by rw [← hs]; rfl
  have Hsd := Lib.hid hsd
  clear hs hsd
  go_wp2_with fail
  refine HF1.out.mono ?_
  rintro e w3 ⟨rfl, hb3⟩
  have hb3' := below_step hb2 hb3
  clear HF1 hb2 hb3 ht2 hR
  go_wp2_with fail
  go_loopw [7, 8] (fun vp vi wr => LnA r w vp vi wr) (fun _ vi _ => r - (intOf vi).toNat)
  case atStart => exact (show LnA _ _ _ _ _ from ⟨0, by omega, rfl, rfl, hb3'⟩)
  case round =>
    obtain ⟨k, hk, rfl, rfl, hbr⟩ := hrel
    clear hb3'
    by_cases hlt : k < r
    · have hlti : (k : Int) < (r : Int) := by omega
      have hk5 : k = 0 ∨ k = 1 ∨ k = 2 ∨ k = 3 := by omega
      have Hst := Lib.hid (pads_succ k)
      have Hsz := Lib.hid (pads_size k)
      have hsz : (baOf (Ly.ended (pads k))).size ≤ 8 := by rw [Ly.baOf_size]; have := Hsz.out; omega
      have hbl := hbr.alloc hbr.size (.cells #[.string ⟨#[10]⟩, .string ⟨#[32, 10]⟩, .string ⟨#[35, 10]⟩] 9)
      obtain ⟨P, hP⟩ : ∃ P, baOf (Ly.ended (pads k)) = P := ⟨_, rfl⟩
      rw [hP] at hsz Hst ⊢
      obtain ⟨k', hk'⟩ : ∃ k', k + 1 = k' := ⟨_, rfl⟩
      rw [hk'] at Hst
      have Hk' := Lib.hid hk'
      clear hk'
      rcases hk5 with rfl | rfl | rfl | rfl
      all_goals
        go_wp2_with fail
        go_roundw
        case rel => exact (show LnA _ _ _ _ _ from ⟨k', by have := Hk'.out; omega, by rw [← Hk'.out]; go_num, by rw [← Hst.out]; rfl, hbl⟩)
        case measure => simp [intOf]; omega
    · obtain rfl : k = r := by omega
      have Hsz := Lib.hid (pads_size k)
      have hsz : (baOf (Ly.ended (pads k))).size ≤ 8 := by rw [Ly.baOf_size]; have := Hsz.out; omega
      have HPs := Lib.hid (pads_len k)
      obtain ⟨P, hP⟩ : ∃ P, baOf (Ly.ended (pads k)) = P := ⟨_, rfl⟩
      rw [hP] at hsz ⊢
      have HP := Lib.hid hP
      clear hP
      go_wp2_with fail
      go_loopw [9, 10] (fun vn vi wx => LnB s vn vi ∧ wx = wr) (fun _ vi _ => s.size - (intOf vi).toNat)
      case atStart => exact ⟨⟨0, by omega, rfl, rfl⟩, rfl⟩
      case round =>
        obtain ⟨⟨j, hj, rfl, rfl⟩, rfl⟩ := hrel
        obtain ⟨m, hm⟩ : ∃ m, (s.data.toList.take j).count 10 = m := ⟨_, rfl⟩
        have hmj : m ≤ j := by
          have h1 := List.count_le_length (a := (10 : UInt8)) (l := s.data.toList.take j)
          rw [hm, List.length_take] at h1
          omega
        rw [hm]
        have Hm := Lib.hid hm
        clear hm
        by_cases hlt : j < s.size
        · have hlti : (j : Int) < (s.size : Int) := by omega
          have Hct := Lib.hid (count_take hlt)
          obtain ⟨c, hc⟩ : ∃ c, s[j].toNat = c := ⟨_, rfl⟩
          rw [hc, Hm.out] at Hct
          by_cases h10 : c = 10
          · have e10 : ((c : Int) == 10) = true := by simp [h10]
            have Hct' := Lib.hid (Hct.out.trans (by rw [if_pos h10]))
            clear h10
            go_wp2_with fail
            go_roundw
            case rel => exact ⟨⟨j + 1, by omega, by go_num, by rw [Hct'.out]; go_num⟩, trivial⟩
            case measure => simp [intOf]; omega
          · have e10 : ((c : Int) == 10) = false := by simp; omega
            have Hct' := Lib.hid (Hct.out.trans (by rw [if_neg h10, Nat.add_zero]))
            clear h10
            go_wp2_with fail
            go_roundw
            case rel => exact ⟨⟨j + 1, by omega, by go_num, by rw [Hct'.out]⟩, trivial⟩
            case measure => simp [intOf]; omega
        · obtain rfl : j = s.size := by omega
          have hml : m = n := by
            have h1 := Hm.out
            rw [List.take_of_length_le (by simp), Hsd.out, Hcnt.out] at h1
            omega
          subst hml
          have Hpl := Lib.hid (Ly.parse_line Hfits.out (pads_ok k) (by
            have h1 := Hlen.out
            have h2 := pads_size k
            simp only [List.length_append]
            have h3 : Ly.rail.length = 14 := rfl
            simp
            omega))
          have Hpt : Hid (P ++ s ++ ⟨#[114, 97, 105, 108, 32, 120, 32, 121, 32, 49, 32, 50, 32, 51, 10]⟩ = baOf (Ly.ended (pads k) ++ Ly.fmtL l ++ (Ly.rail ++ [10]))) := Lib.hid (by
            rw [← HP.out, ← Hs.out]
            refine Ly.nm_ext ?_
            simp [baOf, Ly.rail])
          obtain ⟨T, hT⟩ : ∃ T, P ++ s ++ ⟨#[114, 97, 105, 108, 32, 120, 32, 121, 32, 49, 32, 50, 32, 51, 10]⟩ = T := ⟨_, rfl⟩
          have hTs : T.size ≤ maxLen := by
            rw [← hT]
            simp only [ByteArray.size_append]
            unfold maxLen
            have : (⟨#[114, 97, 105, 108, 32, 120, 32, 121, 32, 49, 32, 50, 32, 51, 10]⟩ : ByteArray).size = 15 := rfl
            omega
          have HPT := Lib.hid (show Ly.parse T = ([], (k : Int) + (m : Int) + 1, 6) by
            have h1 := Hpl.out
            rw [← Hpt.out, hT, pads_len, hll] at h1
            exact h1)
          have hpsz : P.size + s.size ≤ 100000 := by omega
          go_wp2_with fail
          refine (lparse_c T mx _ hTs (keep_cell hbr hmx)).mono ?_
          rintro e w4 ⟨A4, n4, c4, rfl, _, _, _, hb4⟩
          rw [HPT.out]
          have hb4' := below_step hbr hb4
          go_wp2_with fail
          refine (lsane_c mx w4 (keep_cell hb4' hmx) (ht.below hb4')).mono ?_
          rintro e w5 ⟨rfl, hb5⟩
          go_wp2_with fail
          go_ret
          exact ⟨rfl, below_step hb4' hb5⟩
end Go.Proofs.YtmjdjcpmkdninaaDoor
