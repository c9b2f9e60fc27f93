/- The walk of the reference's Lines. -/
import Derived.Test.YtkkpkekkaoccbaaDoorPlT1
namespace Go.Proofs.YtkkpkekkaoccbaaDoor
open Go.RowKit
/-- The lines of a text: what stands behind the last end counts if it is not empty. -/
def linesP (l : List UInt8) : List (List UInt8) := if (Tx.cutAt 10 l).getLastD [] = [] then (Tx.cutAt 10 l).dropLast else Tx.cutAt 10 l
def LinesI (B : Nat) (s : ByteArray) (v vf vi : Value) (wr : World) : Prop := ∃ (L : List ByteArray) (n f i : Nat), wr.ownsRow B 9 1 v n (L.map Value.string) ∧ vf = .int .i64 (f : Int) ∧ vi = .int .i64 (i : Int) ∧ n ≤ i ∧
  i ≤ s.size ∧ f ≤ i ∧ Tx.cutAt 10 s.data.toList = bytesOfL L ++ Tx.cutAt 10 (s.data.toList.drop f) ∧ (10 : UInt8) ∉ (s.data.toList.drop f).take (i - f)
def LinesR (s : ByteArray) (w : World) (e : Ending) (w' : World) : Prop := ∃ (L : List ByteArray) (n : Nat) (v : Value), e = .returned v ∧ w'.ownsRow w.heap.size 9 1 v n (L.map Value.string) ∧ linesP s.data.toList = bytesOfL L ∧ n ≤ s.size + 1 ∧ Below w.heap.size w w'
theorem lines_empty {s : ByteArray} {L : List ByteArray} {f : Nat} (hf : s.size ≤ f) (h : Tx.cutAt 10 s.data.toList = bytesOfL L ++ Tx.cutAt 10 (s.data.toList.drop f)) : linesP s.data.toList = bytesOfL L := by
  rw [List.drop_of_length_le (by simpa using hf)] at h
  have h2 : Tx.cutAt 10 s.data.toList = bytesOfL L ++ [[]] := h
  unfold linesP
  rw [h2]
  simp
theorem lines_rest {s : ByteArray} {L : List ByteArray} {f : Nat} (hf : f < s.size) (h : Tx.cutAt 10 s.data.toList = bytesOfL L ++ [s.data.toList.drop f]) : linesP s.data.toList = bytesOfL (L ++ [s.extract f s.size]) := by
  have hne : s.data.toList.drop f ≠ [] := by
    intro e
    have := congrArg List.length e
    simp at this
    omega
  unfold linesP
  rw [h]
  simp only [List.getLastD_concat, hne, if_false]
  have e : (s.extract f s.size).data.toList = s.data.toList.drop f := by
    rw [extract_take, List.take_of_length_le (by simp)]
  simp only [bytesOfL, List.map_append, List.map_cons, List.map_nil, e]
set_option maxRecDepth 100000 in
set_option maxHeartbeats 4000000 in
theorem lines_c (s : ByteArray) (w : World) (hs : s.size ≤ 1000000) :
    Calls Tryd.prog 31 #[.string s] w (LinesR s w) := by
  go_enter Tryd.func31, Tryd.ntmps31
  go_wp2_with fail
  go_loopw [3, 4, 5] (fun v vf vi wr => LinesI w.heap.size s v vf vi wr ∧ Below w.heap.size w wr) (fun _ _ vi _ => s.size - (intOf vi).toNat)
  case atStart => exact ⟨(show LinesI _ _ _ _ _ _ from ⟨[], 0, 0, 0, World.ownsRow_nil _ _ _ _, rfl, rfl, by omega, by omega, by omega, rfl, by simp⟩), Below.refl _ _⟩
  case round =>
    obtain ⟨⟨L, n, f, i, own, rfl, rfl, hni, hi, hf, hcut, hno⟩, hbr⟩ := hrel
    have hle := hbr.size
    have Hcut := Lib.hid hcut
    have Hno := Lib.hid hno
    clear hcut hno
    have hfi : (f : Int) ≤ (i : Int) := by omega
    have his : (i : Int) ≤ (s.size : Int) := by omega
    by_cases hlt : i < s.size
    · obtain ⟨b, hb⟩ : ∃ b, s[i] = b := ⟨_, rfl⟩
      have hli : s.data.toList[i]? = some b := by
        have hk' : i < s.data.toList.length := by simpa using hlt
        rw [List.getElem?_eq_getElem hk']
        exact congrArg some hb
      have Hli := Lib.hid hli
      obtain ⟨c, hc⟩ : ∃ c, s[i].toNat = c := ⟨_, rfl⟩
      have hbc : b.toNat = c := by rw [← hb, hc]
      have Hbc := Lib.hid hbc
      clear hli hb hbc
      by_cases h10 : c = 10
      · have d2 : ((c : Int) == 10) = true := by simp; omega
        have hb10 : b = 10 := UInt8.toNat_inj.1 (by rw [Hbc.out, h10]; rfl)
        have hph := Lib.hid (Tx.piece_hit (c := 10) hf (by rw [Hli.out, hb10]) Hno.out)
        clear h10 hb10
        go_wp2_with (at_builtin
                     go_must (
                     refine wpList_push sl_str rfl (.tmp 16) (.tmp 21) rfl w.heap.size _ _ _ rfl own 1 1 rfl rfl rfl (by simp only [maxLen]; omega) (by omega) hle ?_
                     intro v' w' own' hgr
                     have hb' := hbr.trans (hgr.below (own_ge own) hle)))
        go_roundw
        case rel => exact ⟨(show LinesI _ _ _ _ _ _ from ⟨L ++ [s.extract f i], n + 1, i + 1, i + 1, by simpa using own', by go_num, by go_num, by omega, by omega, by omega, by rw [Hcut.out, hph.out]; simp [bytesOfL], by simp⟩), hb'⟩
        case measure => simp [intOf]; omega
      · have d2 : ((c : Int) == 10) = false := by simp; omega
        have hb10 : b ≠ 10 := fun e => h10 (by rw [← Hbc.out, e]; rfl)
        have hnn : Hid ((10 : UInt8) ∉ (s.data.toList.drop f).take (i + 1 - f)) := Lib.hid (by
          rw [Tx.take_drop_snoc hf Hli.out]
          simp only [List.mem_append, List.mem_singleton, not_or]
          exact ⟨Hno.out, fun e => hb10 e.symm⟩)
        clear h10 hb10
        go_wp2_with fail
        go_roundw
        case rel => exact ⟨(show LinesI _ _ _ _ _ _ from ⟨L, n, f, i + 1, own, rfl, by go_num, by omega, by omega, by omega, Hcut.out, hnn.out⟩), hbr⟩
        case measure => simp [intOf]; omega
    · obtain rfl : i = s.size := by omega
      by_cases hfs : f < s.size
      · have d1 : decide ((f : Int) < (s.size : Int)) = true := by simp; omega
        have d1' : decide (f < s.size) = true := by simp; omega
        have hpe := Lib.hid (lines_rest hfs (by rw [Hcut.out, Tx.piece_end (c := 10) (l := s.data.toList) (i := s.size) (by simp) Hno.out]))
        go_wp2_with (at_builtin
                     go_must (
                     refine wpList_push sl_str rfl (.tmp 29) (.tmp 33) rfl w.heap.size _ _ _ rfl own 1 1 rfl rfl rfl (by simp only [maxLen]; omega) (by omega) hle ?_
                     intro v' w' own' hgr
                     have hb' := hbr.trans (hgr.below (own_ge own) hle)))
        go_ret
        exact ⟨L ++ [s.extract f s.size], n + 1, _, rfl, by simpa using own', hpe.out, by omega, hb'⟩
      · have d1 : decide ((f : Int) < (s.size : Int)) = false := by simp; omega
        have d1' : decide (f < s.size) = false := by simp; omega
        have hpe := Lib.hid (lines_empty (by omega) Hcut.out)
        go_wp2_with fail
        go_ret
        exact ⟨L, n, _, rfl, own, hpe.out, by omega, hbr⟩
end Go.Proofs.YtkkpkekkaoccbaaDoor
