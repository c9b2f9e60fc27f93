/- The walk of the reference's parent. -/
import Derived.Test.YtmjdjcpmkdninaaDoorLyP1
import Derived.Test.YtmjdjcpmkdninaaDoorLyN1
import Derived.Deep.CutBlock
import Derived.Test.YtmjdjcpmkdninaaDoorLyN2
import Derived.Test.YtmjdjcpmkdninaaDoorLyW1
namespace Go.Proofs.YtmjdjcpmkdninaaDoor
open Go.RowKit
namespace Tx
theorem take_drop_snoc {l : List UInt8} {f i : Nat} {b : UInt8} (hf : f ≤ i) (h : l[i]? = some b) : (l.drop f).take (i + 1 - f) = (l.drop f).take (i - f) ++ [b] := by
  rw [show i + 1 - f = i - f + 1 by omega, List.take_add_one, List.getElem?_drop, show f + (i - f) = i by omega, h]
  rfl
theorem drop_split {l : List UInt8} {f i : Nat} {b : UInt8} (hf : f ≤ i) (h : l[i]? = some b) : l.drop f = (l.drop f).take (i - f) ++ b :: l.drop (i + 1) := by
  obtain ⟨hi, he⟩ := List.getElem?_eq_some_iff.1 h
  have e : (l.drop f).drop (i - f) = b :: l.drop (i + 1) := by
    rw [List.drop_drop, show f + (i - f) = i by omega, List.drop_eq_getElem_cons hi, he]
  rw [← e, List.take_append_drop]
theorem piece_hit {l : List UInt8} {f i : Nat} {c : UInt8} (hf : f ≤ i) (h : l[i]? = some c) (hn : c ∉ (l.drop f).take (i - f)) : cutAt c (l.drop f) = (l.drop f).take (i - f) :: cutAt c (l.drop (i + 1)) := by
  have e := cut_piece c _ (c :: l.drop (i + 1)) hn
  rw [← drop_split hf h, cut_hit] at e
  rw [e]
  simp [glue]
theorem piece_end {l : List UInt8} {f i : Nat} {c : UInt8} (hi : l.length ≤ i) (hn : c ∉ (l.drop f).take (i - f)) : cutAt c (l.drop f) = [l.drop f] := by
  rw [List.take_of_length_le (by simp; omega)] at hn
  have := cut_piece c (l.drop f) [] hn
  rw [List.append_nil] at this
  rw [this]
  simp [cutAt, glue]
end Tx
namespace Tx
theorem words_hit {l : List UInt8} {f i : Nat} (hf : f ≤ i) (h : l[i]? = some 32) (hn : (32 : UInt8) ∉ (l.drop f).take (i - f)) : words (l.drop f) = (if f = i then [] else [(l.drop f).take (i - f)]) ++ words (l.drop (i + 1)) := by
  have hl := (List.getElem?_eq_some_iff.1 h).1
  unfold words
  rw [piece_hit hf h hn, List.filter_cons]
  by_cases e : f = i
  · subst e
    rw [if_pos rfl, Nat.sub_self, List.take_zero, if_neg (by simp)]
    rfl
  · rw [if_neg e, if_pos]
    · rfl
    · have : ((l.drop f).take (i - f)).length = i - f := by rw [List.length_take, List.length_drop]; omega
      cases hc : (l.drop f).take (i - f) with
      | nil => rw [hc] at this; simp at this; omega
      | cons a r => rfl
theorem words_end {l : List UInt8} {f : Nat} (hf : f ≤ l.length) (hn : (32 : UInt8) ∉ (l.drop f).take (l.length - f)) : words (l.drop f) = if f = l.length then [] else [l.drop f] := by
  unfold words
  rw [piece_end (i := l.length) (Nat.le_refl _) hn, List.filter_cons]
  by_cases e : f = l.length
  · rw [if_pos e, List.drop_of_length_le (by omega), if_neg (by simp)]
    rfl
  · rw [if_neg e, if_pos]
    · rfl
    · have : (l.drop f).length = l.length - f := by rw [List.length_drop]
      cases hc : l.drop f with
      | nil => rw [hc] at this; simp at this; omega
      | cons a r => rfl
end Tx
theorem extract_take (s : ByteArray) (f i : Nat) : (s.extract f i).data.toList = (s.data.toList.drop f).take (i - f) := by
  rw [Lib.extract_data]
def RWI (w : World) (s : ByteArray) (v vf vi : Value) (wr : World) : Prop := ∃ (L : List ByteArray) (n f i : Nat), wr.ownsRow w.heap.size 9 1 v n (L.map Value.string) ∧ vf = .int .i64 (f : Int) ∧ vi = .int .i64 (i : Int) ∧ n ≤ i ∧ Below w.heap.size w wr ∧
  ((i ≤ s.size ∧ f ≤ i ∧ Hid (Tx.words s.data.toList = bytesOfL L ++ Tx.words (s.data.toList.drop f)) ∧ Hid ((32 : UInt8) ∉ (s.data.toList.drop f).take (i - f))) ∨ (i = s.size + 1 ∧ Hid (Tx.words s.data.toList = bytesOfL L)))
set_option maxRecDepth 100000 in
set_option maxHeartbeats 4000000 in
theorem rlwords_c (s : ByteArray) (w : World) (hs : s.size ≤ 1000000) :
    Calls Tryd.prog 50 #[.string s] w (LWordsR s w) := by
  go_enter Tryd.func50, Tryd.ntmps50
  go_wp2_with fail
  go_loopw [3, 4, 5] (fun v vf vi wr => RWI w s v vf vi wr) (fun _ _ vi _ => s.size + 1 - (intOf vi).toNat)
  case atStart => exact (show RWI _ _ _ _ _ _ from ⟨[], 0, 0, 0, World.ownsRow_nil _ _ _ _, rfl, rfl, by omega, Below.refl _ _, .inl ⟨by omega, by omega, Lib.hid rfl, Lib.hid (by simp)⟩⟩)
  case round =>
    obtain ⟨L, n, f, i, own, rfl, rfl, hni, hbr, hst⟩ := hrel
    have hle := hbr.size
    rcases hst with ⟨hi, hf, Hcut, Hno⟩ | ⟨rfl, Hcut⟩
    · have hfi : (f : Int) ≤ (i : Int) := by omega
      have his : (i : Int) ≤ (s.size : Int) := by omega
      by_cases he : i = s.size
      · have d1 : ((i : Int) == (s.size : Int)) = true := by simp; omega
        have hpe := Lib.hid (Tx.words_end (l := s.data.toList) (f := f) (by simp; omega) (by have := Hno.out; rw [he] at this; simpa using this))
        have hap := Lib.hid he
        by_cases hfe : f < i
        · have d3 : decide ((f : Int) < (i : Int)) = true := decide_eq_true (by omega)
          have d3' : decide (f < i) = true := decide_eq_true hfe
          have Hfin : Hid (Tx.words s.data.toList = bytesOfL (L ++ [s.extract f i])) := Lib.hid (by
            rw [Hcut.out, hpe.out, if_neg (by simp; omega)]
            simp only [bytesOfL, List.map_append, List.map_cons, List.map_nil, extract_take]
            rw [List.take_of_length_le (by simp; omega)])
          clear he hfe
          go_wp2_with (at_builtin
                       go_must (
                       refine wpList_push sl_str rfl (.tmp 25) (.tmp 30) rfl w.heap.size _ _ _ rfl own 1 1 rfl rfl rfl (by simp only [maxLen]; omega) (by omega) hle ?_
                       intro v' w' own' hgr
                       have hb' := hbr.trans (hgr.below (own_ge own) hle)))
          go_roundw
          case rel => exact (show RWI _ _ _ _ _ _ from ⟨L ++ [s.extract f i], n + 1, i + 1, i + 1, by simpa using own', by go_num, by go_num, by omega, hb', .inr ⟨by have := hap.out; omega, Hfin⟩⟩)
          case measure => simp [intOf]; omega
        · have d3 : decide ((f : Int) < (i : Int)) = false := decide_eq_false (by omega)
          have d3' : decide (f < i) = false := decide_eq_false hfe
          have Hfin : Hid (Tx.words s.data.toList = bytesOfL L) := Lib.hid (by
            rw [Hcut.out, hpe.out, if_pos (by simp; omega), List.append_nil])
          clear he hfe
          go_wp2_with fail
          go_roundw
          case rel => exact (show RWI _ _ _ _ _ _ from ⟨L, n, i + 1, i + 1, own, by go_num, by go_num, by omega, hbr, .inr ⟨by have := hap.out; omega, Hfin⟩⟩)
          case measure => simp [intOf]; omega
      · have d1 : ((i : Int) == (s.size : Int)) = false := by simp; omega
        have hlt : i < s.size := by omega
        obtain ⟨b, hb⟩ : ∃ b, s[i] = b := ⟨_, rfl⟩
        have hli : s.data.toList[i]? = some b := by
          have hk' : i < s.data.toList.length := by simpa using hlt
          rw [List.getElem?_eq_getElem hk']
          exact congrArg some hb
        have Hli := Lib.hid hli
        obtain ⟨c, hc⟩ : ∃ c, s[i].toNat = c := ⟨_, rfl⟩
        have hbc : b.toNat = c := by rw [← hb, hc]
        have Hbc := Lib.hid hbc
        clear hli hb hbc he
        by_cases h32 : c = 32
        · have d2 : ((c : Int) == 32) = true := by simp; omega
          have hb32 : b = 32 := UInt8.toNat_inj.1 (by rw [Hbc.out, h32]; rfl)
          have hph := Lib.hid (Tx.words_hit hf (by rw [Hli.out, hb32]) Hno.out)
          clear h32 hb32
          by_cases hfe : f < i
          · have d3 : decide ((f : Int) < (i : Int)) = true := decide_eq_true (by omega)
            have d3' : decide (f < i) = true := decide_eq_true hfe
            have Hfin : Hid (Tx.words s.data.toList = bytesOfL (L ++ [s.extract f i]) ++ Tx.words (s.data.toList.drop (i + 1))) := Lib.hid (by
              rw [Hcut.out, hph.out, if_neg (by omega)]
              simp only [bytesOfL, List.map_append, List.map_cons, List.map_nil, extract_take, List.append_assoc])
            clear hfe
            go_wp2_with (at_builtin
                         go_must (
                         refine wpList_push sl_str rfl (.tmp 25) (.tmp 30) rfl w.heap.size _ _ _ rfl own 1 1 rfl rfl rfl (by simp only [maxLen]; omega) (by omega) hle ?_
                         intro v' w' own' hgr
                         have hb' := hbr.trans (hgr.below (own_ge own) hle)))
            go_roundw
            case rel => exact (show RWI _ _ _ _ _ _ from ⟨L ++ [s.extract f i], n + 1, i + 1, i + 1, by simpa using own', by go_num, by go_num, by omega, hb', .inl ⟨by omega, by omega, Hfin, Lib.hid (by simp)⟩⟩)
            case measure => simp [intOf]; omega
          · have d3 : decide ((f : Int) < (i : Int)) = false := decide_eq_false (by omega)
            have d3' : decide (f < i) = false := decide_eq_false hfe
            have Hfin : Hid (Tx.words s.data.toList = bytesOfL L ++ Tx.words (s.data.toList.drop (i + 1))) := Lib.hid (by
              rw [Hcut.out, hph.out, if_pos (by omega), List.nil_append])
            clear hfe
            go_wp2_with fail
            go_roundw
            case rel => exact (show RWI _ _ _ _ _ _ from ⟨L, n, i + 1, i + 1, own, by go_num, by go_num, by omega, hbr, .inl ⟨by omega, by omega, Hfin, Lib.hid (by simp)⟩⟩)
            case measure => simp [intOf]; omega
        · have d2 : ((c : Int) == 32) = false := by simp; omega
          have hb32 : b ≠ 32 := fun e => h32 (by rw [← Hbc.out, e]; rfl)
          have hnn : Hid ((32 : UInt8) ∉ (s.data.toList.drop f).take (i + 1 - f)) := Lib.hid (by
            rw [Tx.take_drop_snoc hf Hli.out]
            simp only [List.mem_append, List.mem_singleton, not_or]
            exact ⟨Hno.out, fun e => hb32 e.symm⟩)
          clear h32 hb32
          go_wp2_with fail
          go_roundw
          case rel => exact (show RWI _ _ _ _ _ _ from ⟨L, n, f, i + 1, own, rfl, by go_num, by omega, hbr, .inl ⟨by omega, by omega, Hcut, hnn⟩⟩)
          case measure => simp [intOf]; omega
    · go_wp2_with fail
      go_ret
      exact (show LWordsR _ _ _ _ from ⟨L, n, _, rfl, own, Hcut.out.symm, hni, hbr⟩)
end Go.Proofs.YtmjdjcpmkdninaaDoor
namespace Go.Proofs.YtmjdjcpmkdninaaDoor
open Go.RowKit
namespace Tx
def numQ (d : List UInt8) (sg : Int) : Option (Option Int) := if d.all digC = false ∨ d = [] ∨ (d.headD 0 = 48 ∧ (1 < d.length ∨ sg < 0)) then none else if 1000000000 < numV d then some none else some (some (sg * numV d))
theorem foldl_ge (l : List UInt8) : ∀ a : Nat, a * 10 ^ l.length ≤ l.foldl (fun n c => 10 * n + (c.toNat - 48)) a := by
  induction l with
  | nil => intro a; simp
  | cons c r ih =>
    intro a
    rw [List.foldl_cons, List.length_cons, Nat.pow_succ]
    refine Nat.le_trans ?_ (ih _)
    calc a * (10 ^ r.length * 10) = (a * 10) * 10 ^ r.length := by rw [Nat.mul_assoc, Nat.mul_comm 10]
      _ ≤ _ := Nat.mul_le_mul_right _ (by omega)
theorem numV_long {d : List UInt8} (h : d.all digC = true) (h0 : ¬ (d.headD 0 = 48 ∧ 1 < d.length)) (hl : 10 < d.length) : 1000000000 < numV d := by
  cases d with
  | nil => simp at hl
  | cons c r =>
    have hc : digC c = true := List.all_eq_true.1 h c List.mem_cons_self
    have hne : c.toNat ≠ 48 := fun e => h0 ⟨UInt8.toNat_inj.1 e, by omega⟩
    simp only [digC, Bool.and_eq_true, decide_eq_true_eq] at hc
    have h1 := foldl_ge r (c.toNat - 48)
    have h2 : (10 : Nat) ^ 10 ≤ 10 ^ r.length := Nat.pow_le_pow_right (by decide) (by simp at hl; omega)
    have h3 : 1 * 10 ^ r.length ≤ (c.toNat - 48) * 10 ^ r.length := Nat.mul_le_mul_right _ (by omega)
    unfold numV
    rw [List.foldl_cons, Nat.mul_zero, Nat.zero_add]
    omega
theorem numZ_num {l : List UInt8} {sg : Int} (h1 : sg < 0 → l.headD 0 = 45 ∧ sg = -1) (h2 : ¬ sg < 0 → l.headD 0 ≠ 45 ∧ sg = 1) (h3 : (digs l).headD 0 = 48 → (l ≠ [48] ↔ 1 < (digs l).length ∨ sg < 0)) : numZ l = numQ (digs l) sg := by
  unfold numZ numQ
  by_cases hc : (digs l).all digC = false ∨ digs l = [] ∨ ((digs l).headD 0 = 48 ∧ l ≠ [48])
  · rw [if_pos hc, if_pos]
    rcases hc with h | h | h
    · exact .inl h
    · exact .inr (.inl h)
    · exact .inr (.inr ⟨h.1, (h3 h.1).1 h.2⟩)
  · have hq : ¬ ((digs l).all digC = false ∨ digs l = [] ∨ ((digs l).headD 0 = 48 ∧ (1 < (digs l).length ∨ sg < 0))) := by
      rintro (h | h | h)
      · exact hc (.inl h)
      · exact hc (.inr (.inl h))
      · exact hc (.inr (.inr ⟨h.1, (h3 h.1).2 h.2⟩))
    rw [if_neg hc, if_neg hq]
    have ha : (digs l).all digC = true := by
      cases hh : (digs l).all digC with
      | true => rfl
      | false => exact absurd (Or.inl hh) hc
    have hlong := numV_long ha (fun h => hc (.inr (.inr ⟨h.1, (h3 h.1).2 (.inl h.2)⟩)))
    by_cases hv : 1000000000 < numV (digs l)
    · rw [if_pos (.inr hv), if_pos hv]
    · rw [if_neg (fun h => hv (h.elim hlong id)), if_neg hv]
      by_cases hs : sg < 0
      · rw [if_pos (h1 hs).1, (h1 hs).2, Int.neg_one_mul]
      · rw [if_neg (h2 hs).1, (h2 hs).2, Int.one_mul]
theorem numZ_neg {r : List UInt8} : numZ (45 :: r) = numQ r (-1) := by
  have := numZ_num (l := 45 :: r) (sg := -1) (fun _ => ⟨rfl, rfl⟩) (fun h => absurd (by decide) h) (fun _ => ⟨fun _ => .inr (by decide), fun _ => by simp⟩)
  rw [this, digs_neg]
theorem numZ_pos {l : List UInt8} (h : ¬ (1 < l.length ∧ l.headD 0 = 45)) : numZ l = numQ l 1 := by
  by_cases h45 : l.headD 0 = 45
  · cases l with
    | nil => rfl
    | cons a r =>
      cases r with
      | nil =>
        have : a = 45 := h45
        subst this
        rfl
      | cons b t => exact absurd ⟨by simp, h45⟩ h
  · rw [numZ_num (sg := 1) (fun h => absurd h (by decide)) (fun _ => ⟨h45, rfl⟩), digs_pos h45]
    rw [digs_pos h45]
    intro h48
    cases l with
    | nil => cases h48
    | cons a r =>
      have : a = 48 := h48
      subst this
      cases r with
      | nil => simp
      | cons b t => simp
end Tx
def Num2 (o : Option (Option Int)) (n : Int) (q ok : Bool) : Prop := (o = none ∧ ok = false) ∨ (o = some none ∧ ok = true ∧ q = false) ∨ ∃ v, o = some (some v) ∧ ok = true ∧ q = true ∧ n = v
def LNum2R (s : ByteArray) (w : World) (e : Ending) (w' : World) : Prop := ∃ n q ok, e = .returned (.tuple #[.int .i64 n, .bool q, .bool ok]) ∧ Num2 (Tx.numZ s.data.toList) n q ok ∧ Below w.heap.size w w'
/-- The digits read. -/
def NumK (d : ByteArray) (k : Nat) (m : Int) (q : Bool) : Prop := DigS d k ∧ (m = numV (d.data.toList.take k) ∨ (1000000000 < m ∧ 1000000000 < numV (d.data.toList.take k))) ∧ q = decide (numV (d.data.toList.take k) ≤ 1000000000)
theorem NumK.step {d : ByteArray} {k : Nat} {m : Int} {q : Bool} (h : NumK d k m q) (hk : k < d.size) (hd : digC d[k] = true) {m' : Int} (hm : m' = if m < 1000000000000 then 10 * m + ((d[k].toNat : Int) - 48) else m) {q' : Bool} (hq : q' = (q && decide (m' ≤ 1000000000))) : NumK d (k + 1) m' q' := by
  have hk' : k < d.data.toList.length := by simpa using hk
  have hv : numV (d.data.toList.take (k + 1)) = 10 * numV (d.data.toList.take k) + (d[k].toNat - 48) := by
    rw [List.take_succ_eq_append_getElem hk', numV_snoc]
    rfl
  have hd' := hd
  simp only [digC, Bool.and_eq_true, decide_eq_true_eq] at hd'
  obtain ⟨V, hV⟩ : ∃ V, numV (d.data.toList.take k) = V := ⟨_, rfl⟩
  obtain ⟨h1, h2, h3⟩ := h
  refine ⟨h1.step hk hd, ?_, ?_⟩
  · rw [hv]
    rw [hV] at h2 ⊢
    by_cases hm2 : m < 1000000000000
    · rw [if_pos hm2] at hm
      omega
    · rw [if_neg hm2] at hm
      omega
  · rw [hv, hq, h3]
    rw [hV] at h2 ⊢
    rw [Bool.eq_iff_iff, Bool.and_eq_true, decide_eq_true_eq, decide_eq_true_eq, decide_eq_true_eq]
    by_cases hm2 : m < 1000000000000
    · rw [if_pos hm2] at hm
      omega
    · rw [if_neg hm2] at hm
      omega
theorem NumK.fin {d : ByteArray} {m : Int} {q : Bool} {sg : Int} (h : NumK d d.size m q) (h0 : d.data.toList ≠ []) (hz : ¬ (d.data.toList.headD 0 = 48 ∧ (1 < d.data.toList.length ∨ sg < 0))) : Num2 (Tx.numQ d.data.toList sg) (sg * m) q true := by
  obtain ⟨h1, h2, h3⟩ := h
  have ht : d.data.toList.take d.size = d.data.toList := List.take_of_length_le (by simp)
  unfold DigS at h1
  rw [ht] at h1 h2 h3
  unfold Tx.numQ
  rw [if_neg]
  · by_cases hv : 1000000000 < numV d.data.toList
    · rw [if_pos hv]
      exact .inr (.inl ⟨rfl, rfl, by rw [h3]; simp; omega⟩)
    · rw [if_neg hv]
      refine .inr (.inr ⟨_, rfl, rfl, by rw [h3]; simp; omega, ?_⟩)
      rcases h2 with h2 | h2
      · rw [h2]
      · omega
  · rintro (h | h | h)
    · rw [List.all_eq_true.2 h1] at h; cases h
    · exact h0 h
    · exact hz h
def NumI (d : ByteArray) (vn vq vi : Value) : Prop := ∃ (k : Nat) (m : Int) (q : Bool), k ≤ d.size ∧ vi = .int .i64 (k : Int) ∧ vn = .int .i64 m ∧ vq = .bool q ∧ 0 ≤ m ∧ m ≤ 100000000000000 ∧ Hid (NumK d k m q)
theorem headD_get {d : ByteArray} (h : 0 < d.size) : d.data.toList.headD 0 = d[0] := by
  have hk' : 0 < d.data.toList.length := by simpa using h
  rw [List.headD_eq_head?_getD, List.head?_eq_getElem?, List.getElem?_eq_getElem hk']
  rfl
theorem data_ne {d : ByteArray} (h : 0 < d.size) : d.data.toList ≠ [] := by
  intro e
  have h2 : d.data.toList.length = d.size := by simp
  rw [e] at h2
  simp at h2; omega
theorem head_is {d : ByteArray} (h : 0 < d.size) {n : Nat} (b : UInt8) (hb : b.toNat = n) : d.data.toList.headD 0 = b ↔ d[0].toNat = n := by
  rw [headD_get h, ← hb]
  exact ⟨fun e => by rw [e], fun e => UInt8.toNat_inj.1 e⟩
set_option maxRecDepth 100000 in
set_option maxHeartbeats 4000000 in
theorem rlnumber_c (s : ByteArray) (w : World) (hs : s.size ≤ 1000000) :
    Calls Tryd.prog 62 #[.string s] w (LNum2R s w) := by
  have hsl : s.data.toList.length = s.size := by simp
  have Hsl := Lib.hid hsl
  go_enter Tryd.func62, Tryd.ntmps62
  go_upto_region 2 with fail
  go_cut [14] (fun b wx => b = .bool (decide (1 < s.size ∧ s.data.toList.headD 0 = 45)) ∧ wx = w)
  case first =>
    by_cases h1 : 1 < s.size
    · have d1 : decide (1 < (s.size : Int)) = true := decide_eq_true (by omega)
      have d1' : decide (1 < s.size) = true := decide_eq_true h1
      have hpos : 0 < s.size := by omega
      obtain ⟨c, hc⟩ : ∃ c, s[0].toNat = c := ⟨_, rfl⟩
      have Hh := Lib.hid (head_is hpos (n := 45) 45 rfl)
      rw [hc] at Hh
      have Hfin : Hid ((((c : Int) == 45)) = decide (1 < s.size ∧ s.data.toList.headD 0 = 45)) := Lib.hid (by
        rw [Bool.eq_iff_iff, decide_eq_true_eq, beq_iff_eq, Hh.out]
        omega)
      clear Hh
      go_wp2_with fail
      go_meet
      exact ⟨by rw [← Hfin.out], rfl⟩
    · have d1 : decide (1 < (s.size : Int)) = false := decide_eq_false (by omega)
      have d1' : decide (1 < s.size) = false := decide_eq_false h1
      go_wp2_with fail
      go_meet
      exact ⟨by simp [h1], rfl⟩
  case rest =>
    obtain ⟨rfl, rfl⟩ := hcut
    go_upto_if 14 with fail
    go_cut [0, 5] from 7 (fun a b wx => ∃ (d : ByteArray) (sg : Int), a = .string d ∧ b = .int .i64 sg ∧ (sg = 1 ∨ sg = -1) ∧ d.size ≤ 1000000 ∧ Hid (Tx.numZ s.data.toList = Tx.numQ d.data.toList sg) ∧ Below wc.heap.size wc wx)
    case first =>
      by_cases hq : 1 < s.size ∧ s.data.toList.headD 0 = 45
      · have dq : decide (1 < s.size ∧ s.data.toList.headD 0 = 45) = true := decide_eq_true hq
        have h1 := hq.1
        have Hq := Lib.hid hq.2
        clear hq
        rw [dq]
        have hsi : (1 : Int) ≤ (s.size : Int) := by omega
        have hsn : 1 ≤ s.size := by omega
        go_wp2_with fail
        go_region
        go_wp2_with fail
        go_meet
        refine ⟨s.extract 1 s.size, -1, rfl, rfl, .inr rfl, by simp; omega, Lib.hid ?_, (Below.refl _ _).drew⟩
        have : s.data.toList = 45 :: (s.extract 1 s.size).data.toList := by
          rw [extract_take]
          have hq := Hq.out
          cases hl : s.data.toList with
          | nil => rw [hl] at hsl; simp at hsl; omega
          | cons a r =>
            rw [hl] at hq hsl
            have : a = 45 := hq
            subst this
            have h2 : r.length + 1 = s.size := hsl
            rw [List.drop_succ_cons, List.drop_zero, List.take_of_length_le (by omega)]
        rw [this]
        exact Tx.numZ_neg
      · have dq : decide (1 < s.size ∧ s.data.toList.headD 0 = 45) = false := decide_eq_false hq
        have Hq := Lib.hid hq
        clear hq
        rw [dq]
        go_wp2_with fail
        go_meet
        exact ⟨s, 1, rfl, rfl, .inl rfl, hs, Lib.hid (Tx.numZ_pos (by rw [hsl]; exact Hq.out)), Below.refl _ _⟩
    case rest =>
      obtain ⟨d, sg, rfl, rfl, hsg, hds, HZ, hbx⟩ := hcut
      clear Hsl hsl
      have hle := hbx.size
      obtain ⟨w1, hw1⟩ : ∃ w1, wc = w1 := ⟨_, rfl⟩
      subst hw1
      go_upto_region 4 with fail
      go_cut [32] (fun b wx => b = .bool (decide (d.size = 0 ∨ (d.data.toList.headD 0 = 48 ∧ (1 < d.size ∨ sg < 0)))) ∧ wx = wc)
      case first =>
        by_cases h0 : d.size = 0
        · have hemp : d.toList.isEmpty = true := by
            rw [Lib.toList_data, List.isEmpty_iff]
            exact List.eq_nil_of_length_eq_zero (by simpa using h0)
          go_wp2_with fail
          go_meet
          exact ⟨by simp [h0], rfl⟩
        · have hpos : 0 < d.size := by omega
          have hemp : d.toList.isEmpty = false := by
            rw [Lib.toList_data, Bool.eq_false_iff]
            exact fun h => data_ne hpos (List.isEmpty_iff.1 h)
          obtain ⟨c, hc⟩ : ∃ c, d[0].toNat = c := ⟨_, rfl⟩
          have Hh := Lib.hid (head_is hpos (n := 48) 48 rfl)
          rw [hc] at Hh
          by_cases h48 : c = 48
          · have e1 : ((c : Int) == 48) = true := by simp; omega
            have Hh' := Lib.hid (Hh.out.2 h48)
            clear Hh h48
            by_cases h1 : 1 < d.size
            · have d1 : decide (1 < (d.size : Int)) = true := decide_eq_true (by omega)
              have d1' : decide (1 < d.size) = true := decide_eq_true h1
              go_wp2_with fail
              go_meet
              exact ⟨by simp only [Hh'.out, h1]; simp, rfl⟩
            · have d1 : decide (1 < (d.size : Int)) = false := decide_eq_false (by omega)
              have d1' : decide (1 < d.size) = false := decide_eq_false h1
              go_wp2_with fail
              go_meet
              exact ⟨by simp only [Hh'.out, h1, h0]; simp, rfl⟩
          · have e1 : ((c : Int) == 48) = false := by simp; omega
            have Hh' := Lib.hid (fun h => h48 (Hh.out.1 h))
            clear Hh h48
            go_wp2_with fail
            go_meet
            exact ⟨congrArg Value.bool (decide_eq_false (fun h => h.elim h0 (fun h => Hh'.out h.1))).symm, rfl⟩
      case rest =>
        obtain ⟨rfl, rfl⟩ := hcut
        by_cases hq : d.size = 0 ∨ (d.data.toList.headD 0 = 48 ∧ (1 < d.size ∨ sg < 0))
        · have dq : decide (d.size = 0 ∨ (d.data.toList.headD 0 = 48 ∧ (1 < d.size ∨ sg < 0))) = true := decide_eq_true hq
          rw [dq]
          have Hfin : Hid (Tx.numQ d.data.toList sg = none) := Lib.hid (by
            unfold Tx.numQ
            rw [if_pos]
            rcases hq with h | h
            · exact .inr (.inl (List.eq_nil_of_length_eq_zero (by simpa using h)))
            · exact .inr (.inr (by simpa using h)))
          clear hq
          go_wp2_with fail
          go_ret3
          exact ⟨0, false, false, rfl, .inl ⟨HZ.out.trans Hfin.out, rfl⟩, hbx⟩
        · have dq : decide (d.size = 0 ∨ (d.data.toList.headD 0 = 48 ∧ (1 < d.size ∨ sg < 0))) = false := decide_eq_false hq
          rw [dq]
          have hd0 : 0 < d.size := by omega
          have Hz : Hid (¬ (d.data.toList.headD 0 = 48 ∧ (1 < d.data.toList.length ∨ sg < 0))) := Lib.hid (fun h => hq (.inr (by simpa using h)))
          clear hq dq
          have Hbad : ∀ k, (hk : k < d.size) → digC d[k] = false → Hid (Tx.numQ d.data.toList sg = none) := fun k hk h => Lib.hid (by
            unfold Tx.numQ
            rw [if_pos (.inl (DigS.bad hk h))])
          have HBad := Lib.hid Hbad
          clear Hbad
          go_wp2_with fail
          go_loop [2, 3, 6] (fun vn vq vi => NumI d vn vq vi) (fun _ _ vi => d.size - (intOf vi).toNat)
          case atStart => exact (show NumI _ _ _ _ from ⟨0, 0, true, by omega, rfl, rfl, rfl, by omega, by omega, Lib.hid ⟨by intro c hc; simp at hc, .inl rfl, rfl⟩⟩)
          case round =>
            obtain ⟨k, m, q, hk, rfl, rfl, rfl, hm0, hm1, HN⟩ := hrel
            by_cases hlt : k < d.size
            · obtain ⟨c, hc⟩ : ∃ c, d[k].toNat = c := ⟨_, rfl⟩
              have hcu : c < 256 := by rw [← hc]; exact d[k].toNat_lt
              have hC := Lib.hid (show digC d[k] = (decide (48 ≤ c) && decide (c ≤ 57)) by rw [← hc]; rfl)
              have HS := Lib.hid (fun (hd : digC d[k] = true) (m' : Int) hm (q' : Bool) hq => HN.out.step hlt hd (m' := m') hm (q' := q') hq)
              rw [hc] at HS
              have h3 : c < 48 ∨ (48 ≤ c ∧ c ≤ 57) ∨ 57 < c := by omega
              rcases h3 with h3 | h3 | h3
              · have e1 : decide ((c : Int) < 48) = true := decide_eq_true (by omega)
                have e1' : decide (c < 48) = true := decide_eq_true h3
                have Hr := HBad.out k hlt (by rw [hC.out]; simp; omega)
                clear hC HS HN
                go_wp2_with fail
                go_ret3
                exact ⟨0, false, false, rfl, .inl ⟨HZ.out.trans Hr.out, rfl⟩, hbx⟩
              · have e1 : decide ((c : Int) < 48) = false := decide_eq_false (by omega)
                have e1' : decide (c < 48) = false := decide_eq_false (by omega)
                have e2 : decide (57 < (c : Int)) = false := decide_eq_false (by omega)
                have e2' : decide (57 < c) = false := decide_eq_false (by omega)
                have HS' := Lib.hid (HS.out (by rw [hC.out]; simp; omega))
                clear hC HS HN
                by_cases hm : m < 1000000000000
                · have e3 : decide (m < 1000000000000) = true := decide_eq_true hm
                  cases q with
                  | false =>
                    have Hf := Lib.hid (HS'.out _ rfl false rfl)
                    rw [if_pos hm] at Hf
                    go_wp2_with fail
                    go_round
                    case rel => exact (show NumI _ _ _ _ from ⟨k + 1, _, _, by omega, by go_num, rfl, rfl, by omega, by omega, by simpa using Hf⟩)
                    case measure => simp [intOf]; omega
                  | true =>
                    have Hf := Lib.hid (HS'.out _ rfl _ rfl)
                    rw [if_pos hm] at Hf
                    go_wp2_with fail
                    go_round
                    case rel => exact (show NumI _ _ _ _ from ⟨k + 1, _, _, by omega, by go_num, rfl, rfl, by omega, by omega, by simpa using Hf⟩)
                    case measure => simp [intOf]; omega
                · have e3 : decide (m < 1000000000000) = false := decide_eq_false hm
                  cases q with
                  | false =>
                    have Hf := Lib.hid (HS'.out _ rfl false rfl)
                    rw [if_neg hm] at Hf
                    go_wp2_with fail
                    go_round
                    case rel => exact (show NumI _ _ _ _ from ⟨k + 1, _, _, by omega, by go_num, rfl, rfl, by omega, by omega, by simpa using Hf⟩)
                    case measure => simp [intOf]; omega
                  | true =>
                    have Hf := Lib.hid (HS'.out _ rfl _ rfl)
                    rw [if_neg hm] at Hf
                    go_wp2_with fail
                    go_round
                    case rel => exact (show NumI _ _ _ _ from ⟨k + 1, _, _, by omega, by go_num, rfl, rfl, by omega, by omega, by simpa using Hf⟩)
                    case measure => simp [intOf]; omega
              · have e1 : decide ((c : Int) < 48) = false := decide_eq_false (by omega)
                have e1' : decide (c < 48) = false := decide_eq_false (by omega)
                have e2 : decide (57 < (c : Int)) = true := decide_eq_true (by omega)
                have e2' : decide (57 < c) = true := decide_eq_true h3
                have Hr := HBad.out k hlt (by rw [hC.out]; simp; omega)
                clear hC HS HN
                go_wp2_with fail
                go_ret3
                exact ⟨0, false, false, rfl, .inl ⟨HZ.out.trans Hr.out, rfl⟩, hbx⟩
            · have hkd : k = d.size := by omega
              subst hkd
              have Hf := Lib.hid (HN.out.fin (data_ne hd0) Hz.out)
              rcases hsg with rfl | rfl
              · go_wp2_with fail
                go_ret3
                exact ⟨_, _, true, rfl, by rw [HZ.out]; simpa using Hf.out, hbx⟩
              · go_wp2_with fail
                go_ret3
                exact ⟨_, _, true, rfl, by rw [HZ.out]; simpa using Hf.out, hbx⟩
end Go.Proofs.YtmjdjcpmkdninaaDoor
namespace Go.Proofs.YtmjdjcpmkdninaaDoor
open Go.RowKit
theorem tail_eq {s : ByteArray} {k : Nat} {p : List UInt8} : ((s.extract (s.size - k) s.size).toList == p) = decide (s.data.toList.drop (s.size - k) = p) := by
  rw [Bool.eq_iff_iff, decide_eq_true_eq, beq_iff_eq, Lib.toList_data, extract_take, List.take_of_length_le (by simp)]
theorem suf_left {s : ByteArray} (h : 5 < s.size ∧ s.data.toList.drop (s.size - 5) = Ly.left) : Ly.sufOf s.data.toList = ((s.extract 0 (s.size - 5)).data.toList, 1) := by
  unfold Ly.sufOf
  rw [show s.data.toList.length = s.size by simp, if_pos h, extract_take, List.drop_zero, Nat.sub_zero]
theorem suf_right {s : ByteArray} (h0 : ¬ (5 < s.size ∧ s.data.toList.drop (s.size - 5) = Ly.left)) (h : 6 < s.size ∧ s.data.toList.drop (s.size - 6) = Ly.right) : Ly.sufOf s.data.toList = ((s.extract 0 (s.size - 6)).data.toList, 2) := by
  unfold Ly.sufOf
  rw [show s.data.toList.length = s.size by simp, if_neg h0, if_pos h, extract_take, List.drop_zero, Nat.sub_zero]
theorem suf_none {s : ByteArray} (h0 : ¬ (5 < s.size ∧ s.data.toList.drop (s.size - 5) = Ly.left)) (h : ¬ (6 < s.size ∧ s.data.toList.drop (s.size - 6) = Ly.right)) : Ly.sufOf s.data.toList = (s.data.toList, 0) := by
  unfold Ly.sufOf
  rw [show s.data.toList.length = s.size by simp, if_neg h0, if_neg h]
theorem idxGo_miss {s : List UInt8} {l : List LE} {k : Nat} {y : LE} (h : l[k]? = some y) (hn : y.nm.data.toList ≠ s) : Ly.idxGo s (l.drop k) k = Ly.idxGo s (l.drop (k + 1)) (k + 1) := by
  obtain ⟨hk, he⟩ := List.getElem?_eq_some_iff.1 h
  rw [List.drop_eq_getElem_cons hk, he]
  simp only [Ly.idxGo]
  rw [if_neg hn]
theorem idxGo_hit {s : List UInt8} {l : List LE} {k : Nat} {y : LE} (h : l[k]? = some y) (hn : y.nm.data.toList = s) : Ly.idxGo s (l.drop k) k = some k := by
  obtain ⟨hk, he⟩ := List.getElem?_eq_some_iff.1 h
  rw [List.drop_eq_getElem_cons hk, he]
  simp only [Ly.idxGo]
  rw [if_pos hn]
set_option maxRecDepth 100000 in
set_option maxHeartbeats 4000000 in
theorem rlparent_c {A : Option Addr} {n c : Nat} (l : List LE) (s : ByteArray) (w : World) (hs : s.size ≤ 1000000) (hn : n ≤ 1000000) (hl : LR w A n l) :
    Calls Tryd.prog 63 #[.slice A n c, .string s] w fun e w' => e = .returned (ParR (Ly.idxGo (Ly.sufOf s.data.toList).1 l 0) (Ly.sufOf s.data.toList).2) ∧ Below w.heap.size w w' := by
  have hsl : s.data.toList.length = s.size := by simp
  have Hsl := Lib.hid hsl
  obtain ⟨q0, hq0⟩ : ∃ q, Ly.sufOf s.data.toList = q := ⟨_, rfl⟩
  rw [hq0]
  have Hq0 := Lib.hid hq0
  clear hq0
  go_enter Tryd.func63, Tryd.ntmps63
  go_upto_region 3 with fail
  go_cut [20] (fun b wx => b = .bool (decide (5 < s.size ∧ s.data.toList.drop (s.size - 5) = Ly.left)) ∧ wx = w)
  case first =>
    by_cases h1 : 5 < s.size
    · have d1 : decide (5 < (s.size : Int)) = true := decide_eq_true (by omega)
      have d1' : decide (5 < s.size) = true := decide_eq_true h1
      have hs5 : (5 : Int) ≤ (s.size : Int) := by omega
      have Ht := Lib.hid (tail_eq (s := s) (k := 5) (p := [58, 108, 101, 102, 116]))
      go_wp2_with fail
      go_meet
      exact ⟨congrArg Value.bool (Ht.out.trans (decide_eq_decide.2 ⟨fun h => ⟨h1, h⟩, fun h => h.2⟩)), rfl⟩
    · have d1 : decide (5 < (s.size : Int)) = false := decide_eq_false (by omega)
      have d1' : decide (5 < s.size) = false := decide_eq_false h1
      go_wp2_with fail
      go_meet
      exact ⟨by simp [h1], rfl⟩
  case rest =>
    obtain ⟨rfl, rfl⟩ := hcut
    go_upto_if 20 with fail
    go_cut [1, 7] from 10 (fun a b wx => ∃ (t : ByteArray) (sd : Int), a = .string t ∧ b = .int .i64 sd ∧ t.size ≤ 1000000 ∧ Hid (Ly.sufOf s.data.toList = (t.data.toList, sd)) ∧ Below wc.heap.size wc wx)
    case first =>
      by_cases hq : 5 < s.size ∧ s.data.toList.drop (s.size - 5) = Ly.left
      · have dq : decide (5 < s.size ∧ s.data.toList.drop (s.size - 5) = Ly.left) = true := decide_eq_true hq
        have h1 := hq.1
        have Hq := Lib.hid (suf_left hq)
        clear hq
        rw [dq]
        have hs5 : (5 : Int) ≤ (s.size : Int) := by omega
        go_wp2_with fail
        go_meet
        exact ⟨_, 1, rfl, rfl, by simp; omega, Hq, Below.refl _ _⟩
      · have dq : decide (5 < s.size ∧ s.data.toList.drop (s.size - 5) = Ly.left) = false := decide_eq_false hq
        have Hq := Lib.hid hq
        clear hq
        rw [dq]
        go_upto_region 5 with fail
        go_cut [33] (fun b wx => b = .bool (decide (6 < s.size ∧ s.data.toList.drop (s.size - 6) = Ly.right)) ∧ wx = wc)
        case first =>
          by_cases h1 : 6 < s.size
          · have d1 : decide (6 < (s.size : Int)) = true := decide_eq_true (by omega)
            have d1' : decide (6 < s.size) = true := decide_eq_true h1
            have hs5 : (6 : Int) ≤ (s.size : Int) := by omega
            have Ht := Lib.hid (tail_eq (s := s) (k := 6) (p := [58, 114, 105, 103, 104, 116]))
            go_wp2_with fail
            go_meet
            exact ⟨congrArg Value.bool (Ht.out.trans (decide_eq_decide.2 ⟨fun h => ⟨h1, h⟩, fun h => h.2⟩)), rfl⟩
          · have d1 : decide (6 < (s.size : Int)) = false := decide_eq_false (by omega)
            have d1' : decide (6 < s.size) = false := decide_eq_false h1
            go_wp2_with fail
            go_meet
            exact ⟨by simp [h1], rfl⟩
        case rest =>
          obtain ⟨rfl, rfl⟩ := hcut
          by_cases hr : 6 < s.size ∧ s.data.toList.drop (s.size - 6) = Ly.right
          · have dr : decide (6 < s.size ∧ s.data.toList.drop (s.size - 6) = Ly.right) = true := decide_eq_true hr
            have h1 := hr.1
            have Hr := Lib.hid (suf_right Hq.out hr)
            clear hr
            rw [dr]
            have hs5 : (6 : Int) ≤ (s.size : Int) := by omega
            go_wp2_with fail
            go_meet
            exact ⟨_, 2, rfl, rfl, by simp; omega, Hr, Below.refl _ _⟩
          · have dr : decide (6 < s.size ∧ s.data.toList.drop (s.size - 6) = Ly.right) = false := decide_eq_false hr
            have Hr := Lib.hid (suf_none Hq.out hr)
            clear hr
            rw [dr]
            go_wp2_with fail
            go_meet
            exact ⟨s, 0, rfl, rfl, hs, Hr, Below.refl _ _⟩
    case rest =>
      obtain ⟨t, sd, rfl, rfl, hts, Hsu, hbx⟩ := hcut
      clear Hsl hsl
      have hle := hbx.size
      obtain rfl : q0 = (t.data.toList, sd) := Hq0.out.symm.trans Hsu.out
      have hlw := hl.below hbx
      go_wp2_with fail
      go_loop [9] (fun vi => ∃ k : Nat, k ≤ n ∧ vi = .int .i64 (k : Int) ∧ Hid (Ly.idxGo t.data.toList l 0 = Ly.idxGo t.data.toList (l.drop k) k)) (fun vi => n - (intOf vi).toNat)
      case atStart => exact ⟨0, by omega, rfl, Lib.hid rfl⟩
      case round =>
        obtain ⟨k, hk, rfl, HI⟩ := hrel
        by_cases hlt : k < n
        · obtain ⟨ad, y, rfl, hg, hy, f1, f2, f3, f4, f5, f6, f7, f8⟩ := hlw.at_ hlt
          by_cases e : y.nm.data.toList = t.data.toList
          · have e1 : (y.nm.toList == t.toList) = true := by rw [Lib.toList_data, Lib.toList_data, e]; exact beq_self_eq_true _
            have Hr := Lib.hid (HI.out.trans (idxGo_hit hy e))
            go_wp2_with fail
            go_ret3
            exact ⟨by rw [Hr.out]; rfl, hbx⟩
          · have e1 : (y.nm.toList == t.toList) = false := by rw [Lib.toList_data, Lib.toList_data]; exact beq_eq_false_iff_ne.2 e
            have Hr := Lib.hid (HI.out.trans (idxGo_miss hy e))
            go_wp2_with fail
            go_round
            case rel => exact ⟨k + 1, by omega, by go_num, Hr⟩
            case measure => simp [intOf]; omega
        · have hke : l.drop k = [] := List.drop_of_length_le (by have := hl.len; omega)
          have Hr : Hid (Ly.idxGo t.data.toList l 0 = none) := Lib.hid (by rw [HI.out, hke]; rfl)
          go_wp2_with fail
          go_ret3
          exact ⟨by rw [Hr.out]; rfl, hbx⟩
end Go.Proofs.YtmjdjcpmkdninaaDoor
