/- The walks of a sheet's numbers, check number and Valid, program and reference. -/
import Derived.Test.YtiegpkbollihgaaDoorFnW5
import Derived.Deep.RegionWith
namespace Go.Proofs.YtiegpkbollihgaaDoor
open Go.RowKit
namespace Fn
theorem chkTo_step {s : ByteArray} {k : Nat} (h : k < s.size) : chkTo s.data.toList (k + 1) = (chkTo s.data.toList k + (k + 1) % 65521 * s[k].toNat) % 65521 := by
  rw [chkTo]
  have h' : k < s.data.toList.length := by simpa using h
  rw [List.getD_eq_getElem?_getD, List.getElem?_eq_getElem h']
  rfl
end Fn
def BkV (l : List Int) : Value := .agg (l.map (Value.int .i64)).toArray
set_option maxHeartbeats 2000000 in
theorem fcheck_c (s : ByteArray) (w : World) (hs : s.size ≤ maxLen) :
    Calls Tryd.prog 19 #[.string s] w fun e w' => e = .returned (.int .i64 ((Fn.chk s.data.toList : Nat) : Int)) ∧ w = w' := by
  unfold maxLen at hs
  have Hsz := Lib.hid (show s.data.toList.length = s.size by simp)
  go_enter Tryd.func19, Tryd.ntmps19
  go_wp2_with fail
  go_loop [3, 7] (fun vt vi => ∃ k t : Nat, k ≤ s.size ∧ vi = .int .i64 k ∧ vt = .int .i64 t ∧ t < 65521 ∧ Hid (t = Fn.chkTo s.data.toList k)) (fun _ vi => s.size - (intOf vi).toNat)
  case atStart => exact ⟨0, 0, by omega, rfl, rfl, by omega, Lib.hid rfl⟩
  case round =>
    obtain ⟨k, t, hk, rfl, rfl, ht, HT⟩ := hrel
    by_cases hlt : k < s.size
    · have Hst := Lib.hid (Fn.chkTo_step hlt)
      obtain ⟨c, hc⟩ : ∃ c, s[k].toNat = c := ⟨_, rfl⟩
      have hc2 : c < 256 := by rw [← hc]; exact s[k].toNat_lt
      rw [hc, ← HT.out] at Hst
      obtain ⟨q, hq⟩ : ∃ q, (k + 1) % 65521 = q := ⟨_, rfl⟩
      have hqi : ((k : Int) + 1) % 65521 = (q : Int) := by omega
      have hq2 : q ≤ 65520 := by omega
      rw [hq] at Hst
      obtain ⟨p, hp⟩ : ∃ p, q * c = p := ⟨_, rfl⟩
      have hpi : (q : Int) * (c : Int) = (p : Int) := by rw [← hp]; simp
      have hp2 : p ≤ 65520 * 255 := by rw [← hp]; exact Nat.mul_le_mul hq2 (by omega)
      rw [hp] at Hst
      obtain ⟨r, hr⟩ : ∃ r, (t + p) % 65521 = r := ⟨_, rfl⟩
      have hri : ((t : Int) + (p : Int)) % 65521 = (r : Int) := by omega
      have hr2 : r < 65521 := by omega
      rw [hr] at Hst
      clear hq hp hr HT
      go_wp2_with fail
      go_round
      case rel => exact ⟨k + 1, r, by omega, by go_num, by rw [hri], hr2, Lib.hid Hst.out.symm⟩
      case measure => simp [intOf]; omega
    · obtain rfl : k = s.size := by omega
      have Hf : Hid (Fn.chk s.data.toList = t) := Lib.hid (by unfold Fn.chk; rw [Hsz.out, HT.out])
      go_wp2_with fail
      go_ret
      exact ⟨by rw [Hf.out]; rfl, rfl⟩
set_option maxHeartbeats 2000000 in
theorem rcheck_c (s : ByteArray) (w : World) (hs : s.size ≤ maxLen) :
    Calls Tryd.prog 20 #[.string s] w fun e w' => e = .returned (.int .i64 ((Fn.chk s.data.toList : Nat) : Int)) ∧ w = w' := by
  unfold maxLen at hs
  have Hsz := Lib.hid (show s.data.toList.length = s.size by simp)
  go_enter Tryd.func20, Tryd.ntmps20
  go_wp2_with fail
  go_loop [3, 4] (fun vt vi => ∃ k t : Nat, k ≤ s.size ∧ vi = .int .i64 k ∧ vt = .int .i64 t ∧ t < 65521 ∧ Hid (t = Fn.chkTo s.data.toList k)) (fun _ vi => s.size - (intOf vi).toNat)
  case atStart => exact ⟨0, 0, by omega, rfl, rfl, by omega, Lib.hid rfl⟩
  case round =>
    obtain ⟨k, t, hk, rfl, rfl, ht, HT⟩ := hrel
    by_cases hlt : k < s.size
    · have Hst := Lib.hid (Fn.chkTo_step hlt)
      obtain ⟨c, hc⟩ : ∃ c, s[k].toNat = c := ⟨_, rfl⟩
      have hc2 : c < 256 := by rw [← hc]; exact s[k].toNat_lt
      rw [hc, ← HT.out] at Hst
      obtain ⟨q, hq⟩ : ∃ q, (k + 1) % 65521 = q := ⟨_, rfl⟩
      have hqi : ((k : Int) + 1) % 65521 = (q : Int) := by omega
      have hq2 : q ≤ 65520 := by omega
      rw [hq] at Hst
      obtain ⟨p, hp⟩ : ∃ p, q * c = p := ⟨_, rfl⟩
      have hpi : (q : Int) * (c : Int) = (p : Int) := by rw [← hp]; simp
      have hp2 : p ≤ 65520 * 255 := by rw [← hp]; exact Nat.mul_le_mul hq2 (by omega)
      rw [hp] at Hst
      obtain ⟨r, hr⟩ : ∃ r, (t + p) % 65521 = r := ⟨_, rfl⟩
      have hri : ((t : Int) + (p : Int)) % 65521 = (r : Int) := by omega
      have hr2 : r < 65521 := by omega
      rw [hr] at Hst
      clear hq hp hr HT
      go_wp2_with fail
      go_round
      case rel => exact ⟨k + 1, r, by omega, by go_num, by rw [hri], hr2, Lib.hid Hst.out.symm⟩
      case measure => simp [intOf]; omega
    · obtain rfl : k = s.size := by omega
      have Hf : Hid (Fn.chk s.data.toList = t) := Lib.hid (by unfold Fn.chk; rw [Hsz.out, HT.out])
      go_wp2_with fail
      go_ret
      exact ⟨by rw [Hf.out]; rfl, rfl⟩
set_option maxHeartbeats 2000000 in
theorem fnumbers_c (b0 b1 b2 b3 b4 b5 b6 : Int) (w : World) :
    Calls Tryd.prog 36 #[.agg #[.int .i64 b0, .int .i64 b1, .int .i64 b2, .int .i64 b3, .int .i64 b4, .int .i64 b5, .int .i64 b6]] w fun e w' => ∃ v, e = .returned v ∧ w'.ownsRow w.heap.size 3 1 v 7 (([b0, b1, b2, b3, b4, b5, b6]).map (Value.int .i64)) ∧ Below w.heap.size w w' := by
  go_enter Tryd.func36, Tryd.ntmps36
  go_wp2_with fail
  go_ret
  have h1 := World.ownsRow_lit (base := w.heap.size) (e := 3) (size := 1) (w.alloc (.cells #[.int .i64 b0, .int .i64 b1, .int .i64 b2, .int .i64 b3, .int .i64 b4, .int .i64 b5, .int .i64 b6] 25)) #[.int .i64 b0, .int .i64 b1, .int .i64 b2, .int .i64 b3, .int .i64 b4, .int .i64 b5, .int .i64 b6] 7 (by simp) (by decide) rfl
  rw [show (w.alloc (.cells #[.int .i64 b0, .int .i64 b1, .int .i64 b2, .int .i64 b3, .int .i64 b4, .int .i64 b5, .int .i64 b6] 25)).heap.size = w.heap.size + 1 by simp] at h1
  exact ⟨_, rfl, h1, ((Below.refl _ _).alloc (Nat.le_refl _) _).alloc (by simp) _⟩
set_option maxHeartbeats 2000000 in
theorem rnumbers_c (b0 b1 b2 b3 b4 b5 b6 : Int) (w : World) :
    Calls Tryd.prog 28 #[.agg #[.int .i64 b0, .int .i64 b1, .int .i64 b2, .int .i64 b3, .int .i64 b4, .int .i64 b5, .int .i64 b6]] w fun e w' => ∃ v, e = .returned v ∧ w'.ownsRow w.heap.size 3 1 v 7 (([b0, b1, b2, b3, b4, b5, b6]).map (Value.int .i64)) ∧ Below w.heap.size w w' := by
  go_enter Tryd.func28, Tryd.ntmps28
  go_wp2_with fail
  go_ret
  have h1 := World.ownsRow_lit (base := w.heap.size) (e := 3) (size := 1) (w.alloc (.cells #[.int .i64 b0, .int .i64 b1, .int .i64 b2, .int .i64 b3, .int .i64 b4, .int .i64 b5, .int .i64 b6] 25)) #[.int .i64 b0, .int .i64 b1, .int .i64 b2, .int .i64 b3, .int .i64 b4, .int .i64 b5, .int .i64 b6] 7 (by simp) (by decide) rfl
  rw [show (w.alloc (.cells #[.int .i64 b0, .int .i64 b1, .int .i64 b2, .int .i64 b3, .int .i64 b4, .int .i64 b5, .int .i64 b6] 25)).heap.size = w.heap.size + 1 by simp] at h1
  exact ⟨_, rfl, h1, ((Below.refl _ _).alloc (Nat.le_refl _) _).alloc (by simp) _⟩
theorem ir_at {w : World} {A : Option Addr} {n : Nat} {l : List Int} (h : IR .i64 w A n l) {i : Nat} (hi : i < n) : ∃ ad, A = some ad ∧ w.cell? (ad.add i) = some (.int .i64 (l.getD i 0)) := by
  have hl := h.len
  obtain ⟨ad, u, e, _, hu, hc⟩ := Reads.at_ h hi
  refine ⟨ad, e, ?_⟩
  rw [List.getElem?_map, List.getElem?_eq_getElem (by omega)] at hu
  have hu' := Option.some.inj hu
  rw [hc, ← hu', List.getD_eq_getElem?_getD, List.getElem?_eq_getElem (by omega)]
  rfl
theorem inside_no {l : List Int} {i : Nat} (hi : i < l.length) (h : Fn.inside (l.getD i 0) = false) : l.all Fn.inside = false := by
  rw [Bool.eq_false_iff]
  intro ha
  have := List.all_eq_true.1 ha (l.getD i 0) (by rw [List.getD_eq_getElem?_getD, List.getElem?_eq_getElem hi]; exact List.getElem_mem hi)
  rw [h] at this
  cases this
theorem inside_all {l : List Int} (h : ∀ i, i < l.length → Fn.inside (l.getD i 0) = true) : l.all Fn.inside = true := by
  refine List.all_eq_true.2 fun x hx => ?_
  obtain ⟨i, hi, rfl⟩ := List.getElem_of_mem hx
  have := h i hi
  rwa [List.getD_eq_getElem?_getD, List.getElem?_eq_getElem hi] at this
set_option maxHeartbeats 2000000 in
theorem inside_c (A : Option Addr) (n c : Nat) (l : List Int) (w : World) (hn : n ≤ maxLen) (h : IR .i64 w A n l) :
    Calls Tryd.prog 43 #[.slice A n c] w fun e w' => e = .returned (.bool (l.all Fn.inside)) ∧ w = w' := by
  have hl := h.len
  have Hl := Lib.hid hl
  have Hh := Lib.hid h
  unfold maxLen at hn
  clear h hl
  go_enter Tryd.func43, Tryd.ntmps43
  go_wp2_with fail
  go_loop [3] (fun vi => ∃ t : Nat, t ≤ n ∧ vi = .int .i64 (t : Int) ∧ Hid (∀ i, i < t → Fn.inside (l.getD i 0) = true)) (fun vi => n - (intOf vi).toNat)
  case atStart => exact ⟨0, by omega, rfl, Lib.hid (fun i hi => by omega)⟩
  case round =>
    obtain ⟨t, ht, rfl, HA⟩ := hrel
    by_cases hlt : t < n
    · have hti : (t : Int) < (n : Int) := by omega
      obtain ⟨ad, rfl, hc⟩ := ir_at Hh.out hlt
      have Hb : Hid (Fn.inside (l.getD t 0) = false → l.all Fn.inside = false) := Lib.hid (fun h => inside_no (by rw [Hl.out]; exact hlt) h)
      obtain ⟨x, hx⟩ : ∃ x, l.getD t 0 = x := ⟨_, rfl⟩
      have Hx := Lib.hid hx
      rw [hx] at hc Hb
      clear hx
      by_cases h1 : x < 0
      · have e1 : decide (x < 0) = true := decide_eq_true h1
        have Hr := Lib.hid (Hb.out (by unfold Fn.inside; rw [decide_eq_false (by omega)]; rfl))
        clear h1
        go_wp2_with fail
        go_ret
        exact ⟨retb Hr.out.symm, rfl⟩
      · have e1 : decide (x < 0) = false := decide_eq_false h1
        by_cases h2 : 1000000 < x
        · have e2 : decide (1000000 < x) = true := decide_eq_true h2
          have Hr := Lib.hid (Hb.out (by unfold Fn.inside; rw [decide_eq_false (show ¬ x ≤ 1000000 by omega), Bool.and_false]))
          clear h1 h2
          go_wp2_with fail
          go_ret
          exact ⟨retb Hr.out.symm, rfl⟩
        · have e2 : decide (1000000 < x) = false := decide_eq_false h2
          have Hin : Hid (Fn.inside x = true) := Lib.hid (by unfold Fn.inside; rw [decide_eq_true (show 0 ≤ x by omega), decide_eq_true (show x ≤ 1000000 by omega)]; rfl)
          clear h1 h2
          go_wp2_with fail
          go_round
          case rel => exact ⟨t + 1, by omega, by go_num, Lib.hid (fun i hi => by
            rcases Nat.lt_or_ge i t with h' | h'
            · exact HA.out i h'
            · obtain rfl : i = t := by omega
              rw [Hx.out]; exact Hin.out)⟩
          case measure => simp [intOf]; omega
    · obtain rfl : t = n := by omega
      have Hr := Lib.hid (inside_all (l := l) (fun i hi => HA.out i (by rw [← Hl.out]; exact hi)))
      go_wp2_with fail
      go_ret
      exact ⟨retb Hr.out.symm, rfl⟩
end Go.Proofs.YtiegpkbollihgaaDoor
