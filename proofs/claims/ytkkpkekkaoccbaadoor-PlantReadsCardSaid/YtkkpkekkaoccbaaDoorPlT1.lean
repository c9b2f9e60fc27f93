/- The walk of the reference's Words. -/
import Derived.Test.YtkkpkekkaoccbaaDoorPlN3
namespace Go.Proofs.YtkkpkekkaoccbaaDoor
open Go.RowKit
namespace Tx
theorem take_drop_snoc {l : List UInt8} {f i : Nat} {b : UInt8} (hf : f ≤ i) (h : l[i]? = some b) : (l.drop f).take (i + 1 - f) = (l.drop f).take (i - f) ++ [b] := by
  rw [show i + 1 - f = i - f + 1 by omega, List.take_add_one, List.getElem?_drop, show f + (i - f) = i by omega, h]
  rfl
theorem drop_split {l : List UInt8} {f i : Nat} {b : UInt8} (hf : f ≤ i) (h : l[i]? = some b) : l.drop f = (l.drop f).take (i - f) ++ b :: l.drop (i + 1) := by
  obtain ⟨hi, he⟩ := List.getElem?_eq_some_iff.1 h
  have e : (l.drop f).drop (i - f) = b :: l.drop (i + 1) := by
    rw [List.drop_drop, show f + (i - f) = i by omega, List.drop_eq_getElem_cons hi, he]
  rw [← e, List.take_append_drop]
theorem piece_hit {l : List UInt8} {f i : Nat} {c : UInt8} (hf : f ≤ i) (h : l[i]? = some c) (hn : c ∉ (l.drop f).take (i - f)) : cutAt c (l.drop f) = (l.drop f).take (i - f) :: cutAt c (l.drop (i + 1)) := by
  have e := cut_piece c _ (c :: l.drop (i + 1)) hn
  rw [← drop_split hf h, cut_hit] at e
  rw [e]
  simp [glue]
theorem piece_end {l : List UInt8} {f i : Nat} {c : UInt8} (hi : l.length ≤ i) (hn : c ∉ (l.drop f).take (i - f)) : cutAt c (l.drop f) = [l.drop f] := by
  rw [List.take_of_length_le (by simp; omega)] at hn
  have := cut_piece c (l.drop f) [] hn
  rw [List.append_nil] at this
  rw [this]
  simp [cutAt, glue]
end Tx
theorem sl_str : SlT Tryd.prog 52 9 1 16 := slT_of (z := .string ⟨#[]⟩) Tryd.underlying52 (by kernel_rfl) rfl (by omega)
/-- The strings whose bytes are these. -/
def bytesOfL (L : List ByteArray) : List (List UInt8) := L.map (·.data.toList)
def WordsI (B : Nat) (c : UInt8) (s : ByteArray) (v vf vi : Value) (wr : World) : Prop := ∃ (L : List ByteArray) (n f i : Nat), wr.ownsRow B 9 1 v n (L.map Value.string) ∧ vf = .int .i64 (f : Int) ∧ vi = .int .i64 (i : Int) ∧ n ≤ i ∧
  ((i ≤ s.size ∧ f ≤ i ∧ Tx.cutAt c s.data.toList = bytesOfL L ++ Tx.cutAt c (s.data.toList.drop f) ∧ c ∉ (s.data.toList.drop f).take (i - f)) ∨ (i = s.size + 1 ∧ Tx.cutAt c s.data.toList = bytesOfL L))
theorem extract_take (s : ByteArray) (f i : Nat) : (s.extract f i).data.toList = (s.data.toList.drop f).take (i - f) := by
  rw [Lib.extract_data]
def WordsR (c : UInt8) (s : ByteArray) (w : World) (e : Ending) (w' : World) : Prop := ∃ (L : List ByteArray) (n : Nat) (v : Value), e = .returned v ∧ w'.ownsRow w.heap.size 9 1 v n (L.map Value.string) ∧ Tx.cutAt c s.data.toList = bytesOfL L ∧ n ≤ s.size + 1 ∧ Below w.heap.size w w'
set_option maxRecDepth 100000 in
set_option maxHeartbeats 4000000 in
theorem words_c (s : ByteArray) (w : World) (hs : s.size ≤ 1000000) :
    Calls Tryd.prog 45 #[.string s] w (WordsR 32 s w) := by
  go_enter Tryd.func45, Tryd.ntmps45
  go_wp2_with fail
  go_loopw [3, 4, 5] (fun v vf vi wr => WordsI w.heap.size 32 s v vf vi wr ∧ Below w.heap.size w wr) (fun _ _ vi _ => s.size + 1 - (intOf vi).toNat)
  case atStart => exact ⟨(show WordsI _ _ _ _ _ _ _ from ⟨[], 0, 0, 0, World.ownsRow_lit w #[] 0 (Nat.le_refl _) (by simp [maxLen]) rfl, rfl, rfl, by omega, .inl ⟨by omega, by omega, rfl, by simp⟩⟩), (Below.refl _ _).alloc (Nat.le_refl _) _⟩
  case round =>
    obtain ⟨⟨L, n, f, i, own, rfl, rfl, hni, hst⟩, hbr⟩ := hrel
    have hle := hbr.size
    rcases hst with ⟨hi, hf, hcut, hno⟩ | ⟨rfl, hcut⟩
    · have Hcut := Lib.hid hcut
      have Hno := Lib.hid hno
      clear hcut hno
      have hfi : (f : Int) ≤ (i : Int) := by omega
      have his : (i : Int) ≤ (s.size : Int) := by omega
      have his1 : (i : Int) ≤ (s.size : Int) := by omega
      by_cases he : i = s.size
      · have d1 : ((i : Int) == (s.size : Int)) = true := by simp; omega
        have hpe := Lib.hid (Tx.piece_end (c := 32) (l := s.data.toList) (i := i) (by simp; omega) Hno.out)
        have hap := Lib.hid he
        clear he
        go_wp2_with (at_builtin
                     go_must (
                     refine wpList_push sl_str rfl (.tmp 23) (.tmp 28) rfl w.heap.size _ _ _ rfl own 1 1 rfl rfl rfl (by simp only [maxLen]; omega) (by omega) hle ?_
                     intro v' w' own' hgr
                     have hb' := hbr.trans (hgr.below (own_ge own) hle)))
        go_roundw
        case rel => exact ⟨(show WordsI _ _ _ _ _ _ _ from ⟨L ++ [s.extract f i], n + 1, i + 1, i + 1, by simpa using own', by go_num, by go_num, by omega, .inr ⟨by have := hap.out; omega, by rw [Hcut.out, hpe.out]; simp [bytesOfL]; rw [List.take_of_length_le (by simp; have := hap.out; omega)]⟩⟩), hb'⟩
        case measure => simp [intOf]; omega
      · have d1 : ((i : Int) == (s.size : Int)) = false := by simp; omega
        have hlt : i < s.size := by omega
        obtain ⟨b, hb⟩ : ∃ b, s[i] = b := ⟨_, rfl⟩
        have hli : s.data.toList[i]? = some b := by
          have hk' : i < s.data.toList.length := by simpa using hlt
          rw [List.getElem?_eq_getElem hk']
          exact congrArg some hb
        have Hli := Lib.hid hli
        obtain ⟨c, hc⟩ : ∃ c, s[i].toNat = c := ⟨_, rfl⟩
        have hbc : b.toNat = c := by rw [← hb, hc]
        have Hbc := Lib.hid hbc
        clear hli hb hbc he
        by_cases h32 : c = 32
        · have d2 : ((c : Int) == 32) = true := by simp; omega
          have hb32 : b = 32 := UInt8.toNat_inj.1 (by rw [Hbc.out, h32]; rfl)
          have hph := Lib.hid (Tx.piece_hit (c := 32) hf (by rw [Hli.out, hb32]) Hno.out)
          clear h32 hb32
          go_wp2_with (at_builtin
                       go_must (
                       refine wpList_push sl_str rfl (.tmp 23) (.tmp 28) rfl w.heap.size _ _ _ rfl own 1 1 rfl rfl rfl (by simp only [maxLen]; omega) (by omega) hle ?_
                       intro v' w' own' hgr
                       have hb' := hbr.trans (hgr.below (own_ge own) hle)))
          go_roundw
          case rel => exact ⟨(show WordsI _ _ _ _ _ _ _ from ⟨L ++ [s.extract f i], n + 1, i + 1, i + 1, by simpa using own', by go_num, by go_num, by omega, .inl ⟨by omega, by omega, by rw [Hcut.out, hph.out]; simp [bytesOfL], by simp⟩⟩), hb'⟩
          case measure => simp [intOf]; omega
        · have d2 : ((c : Int) == 32) = false := by simp; omega
          have hb32 : b ≠ 32 := fun e => h32 (by rw [← Hbc.out, e]; rfl)
          have hnn : Hid ((32 : UInt8) ∉ (s.data.toList.drop f).take (i + 1 - f)) := Lib.hid (by
            rw [Tx.take_drop_snoc hf Hli.out]
            simp only [List.mem_append, List.mem_singleton, not_or]
            exact ⟨Hno.out, fun e => hb32 e.symm⟩)
          clear h32 hb32
          go_wp2_with fail
          go_roundw
          case rel => exact ⟨(show WordsI _ _ _ _ _ _ _ from ⟨L, n, f, i + 1, own, rfl, by go_num, by omega, .inl ⟨by omega, by omega, Hcut.out, hnn.out⟩⟩), hbr⟩
          case measure => simp [intOf]; omega
    · have Hcut := Lib.hid hcut
      clear hcut
      go_wp2_with fail
      go_ret
      exact ⟨L, n, _, rfl, own, Hcut.out, hni, hbr⟩
end Go.Proofs.YtkkpkekkaoccbaaDoor
