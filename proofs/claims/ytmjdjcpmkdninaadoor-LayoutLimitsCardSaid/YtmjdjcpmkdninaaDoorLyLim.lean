/- The lists of 'LayoutLimits': a line, a fan. -/
import Derived.Test.YtmjdjcpmkdninaaDoorLyY
namespace Go.Proofs.YtmjdjcpmkdninaaDoor
open Go.RowKit
namespace Ly
def numN (c : UInt8) (i : Nat) : ByteArray := baOf (c :: Lib.decDigits i)
def leK : LE := ⟨0, ⟨#[99]⟩, -1, 0, 0, 0, 0, 0⟩
def segAt (n i : Nat) : LE := ⟨if i = n then 4 else 1, numN 115 i, (i : Int), 0, 1000000, -10000, 5000, 0⟩
def lineT (n k : Nat) : List LE := leK :: (List.range k).map (segAt n)
def lineL (n : Nat) : List LE := lineT n (n + 1)
theorem lineT_succ (n k : Nat) : lineT n (k + 1) = lineT n k ++ [segAt n k] := by
  unfold lineT
  rw [List.range_succ, List.map_append]
  rfl
theorem lineT_len (n k : Nat) : (lineT n k).length = k + 1 := by simp [lineT]
def swAt (i : Nat) : LE := ⟨3, numN 119 i, if i = 0 then 0 else 2 * (i : Int) - 1, if i = 0 then 0 else 1, 1, 0, 0, 0⟩
def trAt (i : Nat) : LE := ⟨4, numN 116 i, 2 * (i : Int) + 1, 2, 1, 0, 0, 0⟩
def fanT (k : Nat) : List LE := leK :: (List.range k).flatMap fun i => [swAt i, trAt i]
def lastAt (n : Nat) : LE := ⟨4, ⟨#[108, 97, 115, 116]⟩, if n = 0 then 0 else 2 * (n : Int) - 1, if n = 0 then 0 else 1, 1, 0, 0, 0⟩
def fanL (n : Nat) : List LE := fanT n ++ [lastAt n]
theorem fanT_succ (k : Nat) : fanT (k + 1) = fanT k ++ [swAt k] ++ [trAt k] := by
  unfold fanT
  rw [List.range_succ, List.flatMap_append, List.append_assoc]
  rfl
theorem fanT_len (k : Nat) : (fanT k).length = 2 * k + 1 := by
  induction k with
  | zero => rfl
  | succ k ih => rw [fanT_succ, List.length_append, List.length_append, ih]; simp; omega
/- Digits without a loop. -/
def dig3 (i : Nat) : List UInt8 := if i < 10 then [UInt8.ofNat (48 + i)] else if i < 100 then [UInt8.ofNat (48 + i / 10), UInt8.ofNat (48 + i % 10)] else [UInt8.ofNat (48 + i / 100), UInt8.ofNat (48 + i / 10 % 10), UInt8.ofNat (48 + i % 10)]
theorem dec_dig3 {i : Nat} (h : i < 1000) : Lib.decDigits i = dig3 i := by
  unfold dig3
  by_cases h1 : i < 10
  · rw [if_pos h1, Lib.decDigits_one h1]
  · rw [if_neg h1]
    by_cases h2 : i < 100
    · rw [if_pos h2, Lib.decDigits_two h1 h2]
    · rw [if_neg h2, Lib.decDigits, dif_neg h1, Lib.decDigits_two (by omega) (by omega)]
      have e1 : i / 10 / 10 = i / 100 := by omega
      rw [e1]
      rfl
def numD (c : UInt8) (i : Nat) : ByteArray := baOf (c :: dig3 i)
theorem num_D {i : Nat} (h : i < 1000) (c : UInt8) : numN c i = numD c i := by unfold numN numD; rw [dec_dig3 h]
def segD (n i : Nat) : LE := ⟨if i = n then 4 else 1, numD 115 i, (i : Int), 0, 1000000, -10000, 5000, 0⟩
def lineD (n : Nat) : List LE := leK :: (List.range (n + 1)).map (segD n)
theorem line_D {n : Nat} (h : n < 900) : lineL n = lineD n := by
  unfold lineL lineT lineD
  congr 1
  refine List.map_congr_left fun i hi => ?_
  rw [List.mem_range] at hi
  unfold segAt segD
  rw [num_D (by omega)]
def swD (i : Nat) : LE := ⟨3, numD 119 i, if i = 0 then 0 else 2 * (i : Int) - 1, if i = 0 then 0 else 1, 1, 0, 0, 0⟩
def trD (i : Nat) : LE := ⟨4, numD 116 i, 2 * (i : Int) + 1, 2, 1, 0, 0, 0⟩
def fanD (n : Nat) : List LE := leK :: ((List.range n).flatMap fun i => [swD i, trD i]) ++ [lastAt n]
theorem flatMap_congr' {f g : Nat → List LE} : ∀ L : List Nat, (∀ i ∈ L, f i = g i) → L.flatMap f = L.flatMap g := by
  intro L
  induction L with
  | nil => intro _; rfl
  | cons a t ih => intro h; rw [List.flatMap_cons, List.flatMap_cons, h a (by simp), ih (fun i hi => h i (by simp [hi]))]
theorem fan_D {n : Nat} (h : n < 900) : fanL n = fanD n := by
  unfold fanL fanT fanD
  rw [List.cons_append, List.cons_append, flatMap_congr' (g := fun i => [swD i, trD i]) (List.range n) (fun i hi => by
    rw [List.mem_range] at hi
    show [swAt i, trAt i] = [swD i, trD i]
    unfold swAt swD trAt trD
    rw [num_D (by omega), num_D (by omega)])]
theorem line_ok0 : vErr (lineD 125) = 0 := by kernel_rfl
theorem line_ok1 : vErr (lineD 126) = 0 := by kernel_rfl
theorem fan_ok0 : vErr (fanD 30) = 0 := by kernel_rfl
theorem fan_ok1 : vErr (fanD 31) = 0 := by kernel_rfl
theorem fan_bad : vErr (fanD 32) = 3 := by kernel_rfl
theorem line_bad : vErr (lineL 127) = 3 := by unfold vErr; rw [if_pos (by unfold lineL; rw [lineT_len]; decide)]
theorem line_v (r : Nat) (h : r < 3) : vErr (lineL (125 + r)) = if r = 2 then 3 else 0 := by
  have h3 : r = 0 ∨ r = 1 ∨ r = 2 := by omega
  rcases h3 with rfl | rfl | rfl
  · rw [line_D (by omega)]; exact line_ok0
  · rw [line_D (by omega)]; exact line_ok1
  · exact line_bad
theorem fan_v (r : Nat) (h : r < 3) : vErr (fanL (30 + r)) = if r = 2 then 3 else 0 := by
  have h3 : r = 0 ∨ r = 1 ∨ r = 2 := by omega
  rcases h3 with rfl | rfl | rfl
  · rw [fan_D (by omega)]; exact fan_ok0
  · rw [fan_D (by omega)]; exact fan_ok1
  · rw [fan_D (by omega)]; exact fan_bad
/-- What the walks want of an element. -/
def LimOk (x : LE) : Prop := x.nm.size ≤ 30 ∧ (-1 ≤ x.p ∧ x.p ≤ 1000) ∧ (-1 ≤ x.sd ∧ x.sd ≤ 3)
theorem numN_size {i : Nat} (h : i < 1000) (c : UInt8) : (numN c i).size ≤ 30 := by
  rw [num_D h]
  unfold numD dig3
  rw [baOf_size]
  split
  · simp
  · split <;> simp
theorem line_lim {n : Nat} (h : n < 900) : ∀ x ∈ lineL n, LimOk x := by
  intro x hx
  unfold lineL lineT at hx
  rcases List.mem_cons.1 hx with rfl | hx
  · exact ⟨by decide, by decide, by decide⟩
  · obtain ⟨i, hi, rfl⟩ := List.mem_map.1 hx
    rw [List.mem_range] at hi
    exact ⟨numN_size (by omega) _, by simp only [segAt]; omega, by simp [segAt]⟩
theorem fan_lim {n : Nat} (h : n < 400) : ∀ x ∈ fanL n, LimOk x := by
  intro x hx
  unfold fanL fanT at hx
  rcases List.mem_append.1 hx with hx | hx
  · rcases List.mem_cons.1 hx with rfl | hx
    · exact ⟨by decide, by decide, by decide⟩
    · obtain ⟨i, hi, hx⟩ := List.mem_flatMap.1 hx
      rw [List.mem_range] at hi
      simp only [List.mem_cons, List.not_mem_nil, or_false] at hx
      rcases hx with rfl | rfl
      · refine ⟨numN_size (by omega) _, ?_, ?_⟩ <;> (simp only [swAt]; split <;> omega)
      · refine ⟨numN_size (by omega) _, by simp only [trAt]; omega, by simp [trAt]⟩
  · rw [List.mem_singleton] at hx
    subst hx
    refine ⟨by simp [lastAt, ByteArray.size], ?_, ?_⟩ <;> (simp only [lastAt]; split <;> omega)
end Ly
theorem num_cat (c : UInt8) (i : Nat) : (⟨#[c]⟩ : ByteArray) ++ bOf (Lib.decDigits i) = Ly.numN c i := by
  refine Ly.nm_ext ?_
  simp [Ly.numN, bOf, baOf]
theorem dec_size {i : Nat} (h : i < 1000) : (bOf (Lib.decDigits i)).size ≤ 3 := by
  rw [Ly.dec_dig3 h, bOf_size]
  unfold Ly.dig3
  split
  · simp
  · split <;> simp
def LinI (n : Nat) (w : World) (vl vi : Value) (wr : World) : Prop := ∃ k : Nat, k ≤ n + 1 ∧ vi = .int .i64 (k : Int) ∧ wr.ownsRow w.heap.size 48 8 vl (k + 1) (flat8 (Ly.lineT n k)) ∧ Below w.heap.size w wr
set_option maxRecDepth 100000 in
set_option maxHeartbeats 8000000 in
theorem line_c (n : Nat) (w : World) (hn : n ≤ 800) :
    Calls Tryd.prog 10 #[.int .i64 (n : Int)] w fun e w' => ∃ v, e = .returned v ∧ w'.ownsRow w.heap.size 48 8 v (n + 2) (flat8 (Ly.lineL n)) ∧ Below w.heap.size w w' := by
  have own0 : (w.alloc (.cells #[.int .i64 0, .string ⟨#[99]⟩, .int .i64 (-1), .int .i64 0, .int .i64 0, .int .i64 0, .int .i64 0, .int .i64 0] 48)).ownsRow w.heap.size 48 8 (.slice (some ⟨w.heap.size, 0, none⟩) 1 1) (0 + 1) (flat8 (Ly.lineT n 0)) := World.ownsRow_lit w _ 1 (Nat.le_refl _) (by simp [maxLen]) rfl
  have hb0 : Below w.heap.size w (w.alloc (.cells #[.int .i64 0, .string ⟨#[99]⟩, .int .i64 (-1), .int .i64 0, .int .i64 0, .int .i64 0, .int .i64 0, .int .i64 0] 48)) := (Below.refl _ _).alloc (Nat.le_refl _) _
  go_enter Tryd.func10, Tryd.ntmps10
  go_wp2_with fail
  go_loopw [3, 4] (fun vl vi wr => LinI n w vl vi wr) (fun _ vi _ => n + 1 - (intOf vi).toNat)
  case atStart => exact (show LinI _ _ _ _ _ from ⟨0, by omega, rfl, own0, hb0⟩)
  case round =>
    obtain ⟨k, hk, rfl, own, hbr⟩ := hrel
    clear own0 hb0
    by_cases hlt : k ≤ n
    · have hlti : (k : Int) ≤ (n : Int) := by omega
      have Hcat := Lib.hid (num_cat 115 k)
      have hds := dec_size (i := k) (by omega)
      have Hst := Lib.hid (Ly.lineT_succ n k)
      have HD := Lib.hid (dec_c k wr (by omega))
      obtain ⟨D, hD⟩ : ∃ D, bOf (Lib.decDigits k) = D := ⟨_, rfl⟩
      rw [hD] at Hcat hds HD
      clear hD
      go_wp2_with fail
      refine HD.out.mono ?_
      rintro e w2 ⟨rfl, hb2⟩
      have own2 := own_below own hb2
      have hb2' := below_step hbr hb2
      obtain ⟨NM, hNM⟩ : ∃ NM, (⟨#[115]⟩ : ByteArray) ++ D = NM := ⟨_, rfl⟩
      rw [hNM] at Hcat
      have hsz2 := hb2'.size
      have hlt2 := own_lt own2
      have h63 : k + 1 + 1 ≤ maxLen := by unfold maxLen; omega
      have h72 : (k + 1 + 1) * 72 ≤ 140737488355328 := by omega
      by_cases hkn : k = n
      · have dk : ((k : Int) == (n : Int)) = true := by simp [hkn]
        have hsg : Hid (Ly.segAt n k = ⟨4, NM, (k : Int), 0, 1000000, -10000, 5000, 0⟩) := Lib.hid (by unfold Ly.segAt; rw [if_pos hkn, ← Hcat.out])
        have own3 := own2.alloc (.cells #[.int .i64 4, .string NM, .int .i64 (k : Int), .int .i64 0, .int .i64 1000000, .int .i64 (-10000), .int .i64 5000, .int .i64 0] 48)
        have hb3 : Below w.heap.size w (w2.alloc (.cells #[.int .i64 4, .string NM, .int .i64 (k : Int), .int .i64 0, .int .i64 1000000, .int .i64 (-10000), .int .i64 5000, .int .i64 0] 48)) := hb2'.alloc hsz2 _
        clear own own2 hkn
        go_wp2_with (at_builtin
                     go_must (
                     refine wpList_pushb sl72 rfl (.tmp 22) (.tmp 24) rfl w.heap.size _ _ _ rfl own3 1 1 (w2.heap.size + 1) (by simp) rfl rfl rfl h63 h72 (by simp; omega) ?_
                     intro v' w4 own4 hgr
                     have hb4 := hb3.trans ((hgr.below (own_ge own3) (by simp; omega)).mono (Nat.le_refl _))))
        go_roundw
        case rel => exact (show LinI _ _ _ _ _ from ⟨k + 1, by omega, by go_num, by rw [Hst.out, flat8_snoc, hsg.out]; exact own4, hb4⟩)
        case measure => simp [intOf]; omega
      · have dk : ((k : Int) == (n : Int)) = false := by simp; omega
        have hsg : Hid (Ly.segAt n k = ⟨1, NM, (k : Int), 0, 1000000, -10000, 5000, 0⟩) := Lib.hid (by unfold Ly.segAt; rw [if_neg hkn, ← Hcat.out])
        have own3 := own2.alloc (.cells #[.int .i64 1, .string NM, .int .i64 (k : Int), .int .i64 0, .int .i64 1000000, .int .i64 (-10000), .int .i64 5000, .int .i64 0] 48)
        have hb3 : Below w.heap.size w (w2.alloc (.cells #[.int .i64 1, .string NM, .int .i64 (k : Int), .int .i64 0, .int .i64 1000000, .int .i64 (-10000), .int .i64 5000, .int .i64 0] 48)) := hb2'.alloc hsz2 _
        clear own own2 hkn
        go_wp2_with (at_builtin
                     go_must (
                     refine wpList_pushb sl72 rfl (.tmp 22) (.tmp 24) rfl w.heap.size _ _ _ rfl own3 1 1 (w2.heap.size + 1) (by simp) rfl rfl rfl h63 h72 (by simp; omega) ?_
                     intro v' w4 own4 hgr
                     have hb4 := hb3.trans ((hgr.below (own_ge own3) (by simp; omega)).mono (Nat.le_refl _))))
        go_roundw
        case rel => exact (show LinI _ _ _ _ _ from ⟨k + 1, by omega, by go_num, by rw [Hst.out, flat8_snoc, hsg.out]; exact own4, hb4⟩)
        case measure => simp [intOf]; omega
    · obtain rfl : k = n + 1 := by omega
      go_wp2_with fail
      go_ret
      exact ⟨_, rfl, own, hbr⟩
theorem lim_b {k : Nat} (h : k ≤ 300) : 2 * k + 1 + 1 ≤ maxLen ∧ (2 * k + 1 + 1) * 72 ≤ 140737488355328 ∧ 2 * k + 1 + 1 + 1 ≤ maxLen ∧ (2 * k + 1 + 1 + 1) * 72 ≤ 140737488355328 := ⟨by unfold maxLen; omega, by omega, by unfold maxLen; omega, by omega⟩
def FanI (n : Nat) (w : World) (vl va vs vi : Value) (wr : World) : Prop := ∃ k : Nat, k ≤ n ∧ vi = .int .i64 (k : Int) ∧ va = .int .i64 (if k = 0 then 0 else 2 * (k : Int) - 1) ∧ vs = .int .i64 (if k = 0 then 0 else 1) ∧ wr.ownsRow w.heap.size 48 8 vl (2 * k + 1) (flat8 (Ly.fanT k)) ∧ Below w.heap.size w wr
set_option maxRecDepth 100000 in
set_option maxHeartbeats 8000000 in
theorem fan_c (n : Nat) (w : World) (hn : n ≤ 300) :
    Calls Tryd.prog 11 #[.int .i64 (n : Int)] w fun e w' => ∃ v, e = .returned v ∧ w'.ownsRow w.heap.size 48 8 v (2 * n + 2) (flat8 (Ly.fanL n)) ∧ Below w.heap.size w w' := by
  have own0 : (w.alloc (.cells #[.int .i64 0, .string ⟨#[99]⟩, .int .i64 (-1), .int .i64 0, .int .i64 0, .int .i64 0, .int .i64 0, .int .i64 0] 48)).ownsRow w.heap.size 48 8 (.slice (some ⟨w.heap.size, 0, none⟩) 1 1) (2 * 0 + 1) (flat8 (Ly.fanT 0)) := World.ownsRow_lit w _ 1 (Nat.le_refl _) (by simp [maxLen]) rfl
  have hb0 : Below w.heap.size w (w.alloc (.cells #[.int .i64 0, .string ⟨#[99]⟩, .int .i64 (-1), .int .i64 0, .int .i64 0, .int .i64 0, .int .i64 0, .int .i64 0] 48)) := (Below.refl _ _).alloc (Nat.le_refl _) _
  go_enter Tryd.func11, Tryd.ntmps11
  go_wp2_with fail
  go_loopw [3, 4, 5, 6] (fun vl va vs vi wr => FanI n w vl va vs vi wr) (fun _ _ _ vi _ => n - (intOf vi).toNat)
  case atStart => exact (show FanI _ _ _ _ _ _ _ from ⟨0, by omega, rfl, rfl, rfl, own0, hb0⟩)
  case round =>
    obtain ⟨k, hk, rfl, rfl, rfl, own, hbr⟩ := hrel
    clear own0 hb0
    obtain ⟨a, ha⟩ : ∃ a : Int, (if k = 0 then 0 else 2 * (k : Int) - 1) = a := ⟨_, rfl⟩
    obtain ⟨b, hb⟩ : ∃ b : Int, (if k = 0 then 0 else 1) = b := ⟨_, rfl⟩
    rw [ha, hb]
    have Ha := Lib.hid ha
    have Hb := Lib.hid hb
    clear ha hb
    obtain ⟨Al, cl, rfl, hcl1, hcl2⟩ := own_form own
    by_cases hlt : k < n
    · have hlti : (k : Int) < (n : Int) := by omega
      have Hcat := Lib.hid (num_cat 119 k)
      have Hcat2 := Lib.hid (num_cat 116 k)
      have hds := dec_size (i := k) (by omega)
      have Hst := Lib.hid (Ly.fanT_succ k)
      have HD := Lib.hid (fun W => dec_c k W (by omega))
      obtain ⟨D, hD⟩ : ∃ D, bOf (Lib.decDigits k) = D := ⟨_, rfl⟩
      rw [hD] at Hcat Hcat2 hds HD
      clear hD
      obtain ⟨h63, h72, h63', h72'⟩ := lim_b (show k ≤ 300 by omega)
      go_wp2_with fail
      refine (HD.out _).mono ?_
      rintro e w2 ⟨rfl, hb2⟩
      have own2 := own_below own hb2
      have hb2' := below_step hbr hb2
      obtain ⟨NM, hNM⟩ : ∃ NM, (⟨#[119]⟩ : ByteArray) ++ D = NM := ⟨_, rfl⟩
      obtain ⟨NT, hNT⟩ : ∃ NT, (⟨#[116]⟩ : ByteArray) ++ D = NT := ⟨_, rfl⟩
      rw [hNM] at Hcat
      rw [hNT] at Hcat2
      have hsz2 := hb2'.size
      have hsw : Hid (Ly.swAt k = ⟨3, NM, a, b, 1, 0, 0, 0⟩) := Lib.hid (by unfold Ly.swAt; rw [Ha.out, Hb.out, ← Hcat.out])
      have htr : Hid (Ly.trAt k = ⟨4, NT, 2 * (k : Int) + 1, 2, 1, 0, 0, 0⟩) := Lib.hid (by unfold Ly.trAt; rw [← Hcat2.out])
      clear own
      go_wp2_with (at_builtin
                   go_must (
                   refine wpList_pushb sl72 rfl (.tmp 14) (.tmp 21) rfl w.heap.size _ _ _ rfl own2 1 1 w2.heap.size (by simp) rfl rfl rfl h63 h72 hsz2 ?_
                   intro v' w4 own4 hgr
                   have hb4 := hb2'.trans ((hgr.below (own_ge own2) hsz2).mono (Nat.le_refl _))
                   obtain ⟨A4, c4, rfl, hc41, hc42⟩ := own_form own4))
      refine (HD.out _).mono ?_
      rintro e w5 ⟨rfl, hb5⟩
      have own5 := own_below own4 hb5
      have hb5' := below_step hb4 hb5
      have hsz5 := hb5'.size
      clear own4 own2
      go_wp2_with (at_builtin
                   go_must (
                   refine wpList_pushb sl72 rfl (.tmp 26) (.tmp 32) rfl w.heap.size _ _ _ rfl own5 1 1 w5.heap.size (by simp) rfl rfl rfl h63' h72' hsz5 ?_
                   intro v' w6 own6 hgr
                   have hb6 := hb5'.trans ((hgr.below (own_ge own5) hsz5).mono (Nat.le_refl _))))
      go_roundw
      case rel => exact (show FanI _ _ _ _ _ _ _ from ⟨k + 1, by omega, by go_num, vint (by rw [if_neg (by omega)]; omega), vint (by rw [if_neg (by omega)]), by rw [Hst.out, flat8_snoc, flat8_snoc, hsw.out, htr.out]; exact own6, hb6⟩)
      case measure => simp [intOf]; omega
    · obtain rfl : k = n := by omega
      obtain ⟨h63, h72, _, _⟩ := lim_b (show k ≤ 300 by omega)
      have hsz2 := hbr.size
      have hla : Hid (Ly.lastAt k = ⟨4, ⟨#[108, 97, 115, 116]⟩, a, b, 1, 0, 0, 0⟩) := Lib.hid (by unfold Ly.lastAt; rw [Ha.out, Hb.out])
      go_wp2_with (at_builtin
                   go_must (
                   refine wpList_pushb sl72 rfl (.tmp 34) (.tmp 38) rfl w.heap.size _ _ _ rfl own 1 1 wr.heap.size (by simp) rfl rfl rfl h63 h72 hsz2 ?_
                   intro v' w4 own4 hgr
                   have hb4 := hbr.trans ((hgr.below (own_ge own) hsz2).mono (Nat.le_refl _))))
      go_ret
      exact ⟨v', rfl, by unfold Ly.fanL; rw [flat8_snoc, hla.out]; exact own4, hb4⟩
end Go.Proofs.YtmjdjcpmkdninaaDoor
