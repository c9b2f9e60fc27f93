/- The walk of the reference's Words (26), and slices of words. -/
import Derived.Test.YtiegpkbollihgaaDoorFnNum
namespace Go.Proofs.YtiegpkbollihgaaDoor
open Go.RowKit
namespace Tx
theorem take_drop_snoc {l : List UInt8} {f i : Nat} {b : UInt8} (hf : f ≤ i) (h : l[i]? = some b) : (l.drop f).take (i + 1 - f) = (l.drop f).take (i - f) ++ [b] := by
  rw [show i + 1 - f = i - f + 1 by omega, List.take_add_one, List.getElem?_drop, show f + (i - f) = i by omega, h]
  rfl
theorem drop_split {l : List UInt8} {f i : Nat} {b : UInt8} (hf : f ≤ i) (h : l[i]? = some b) : l.drop f = (l.drop f).take (i - f) ++ b :: l.drop (i + 1) := by
  obtain ⟨hi, he⟩ := List.getElem?_eq_some_iff.1 h
  have e : (l.drop f).drop (i - f) = b :: l.drop (i + 1) := by
    rw [List.drop_drop, show f + (i - f) = i by omega, List.drop_eq_getElem_cons hi, he]
  rw [← e, List.take_append_drop]
theorem piece_hit {l : List UInt8} {f i : Nat} {c : UInt8} (hf : f ≤ i) (h : l[i]? = some c) (hn : c ∉ (l.drop f).take (i - f)) : cutAt c (l.drop f) = (l.drop f).take (i - f) :: cutAt c (l.drop (i + 1)) := by
  have e := cut_piece c _ (c :: l.drop (i + 1)) hn
  rw [← drop_split hf h, cut_hit] at e
  rw [e]
  simp [glue]
theorem piece_end {l : List UInt8} {f i : Nat} {c : UInt8} (hi : l.length ≤ i) (hn : c ∉ (l.drop f).take (i - f)) : cutAt c (l.drop f) = [l.drop f] := by
  rw [List.take_of_length_le (by simp; omega)] at hn
  have := cut_piece c (l.drop f) [] hn
  rw [List.append_nil] at this
  rw [this]
  simp [cutAt, glue]
end Tx
def WordsI (B : Nat) (c : UInt8) (s : ByteArray) (v vf vi : Value) (wr : World) : Prop := ∃ (L : List ByteArray) (n f i : Nat), wr.ownsRow B 9 1 v n (L.map Value.string) ∧ vf = .int .i64 (f : Int) ∧ vi = .int .i64 (i : Int) ∧ n ≤ i ∧
  ((i ≤ s.size ∧ f ≤ i ∧ Tx.cutAt c s.data.toList = bytesOfL L ++ Tx.cutAt c (s.data.toList.drop f) ∧ c ∉ (s.data.toList.drop f).take (i - f)) ∨ (i = s.size + 1 ∧ Tx.cutAt c s.data.toList = bytesOfL L))
theorem extract_take (s : ByteArray) (f i : Nat) : (s.extract f i).data.toList = (s.data.toList.drop f).take (i - f) := by
  rw [Lib.extract_data]
def WordsR (c : UInt8) (s : ByteArray) (w : World) (e : Ending) (w' : World) : Prop := ∃ (L : List ByteArray) (n : Nat) (v : Value), e = .returned v ∧ w'.ownsRow w.heap.size 9 1 v n (L.map Value.string) ∧ Tx.cutAt c s.data.toList = bytesOfL L ∧ n ≤ s.size + 1 ∧ Below w.heap.size w w'
set_option maxRecDepth 100000 in
set_option maxHeartbeats 4000000 in
theorem words_c (s : ByteArray) (w : World) (hs : s.size ≤ 1000000) :
    Calls Tryd.prog 50 #[.string s] w (WordsR 32 s w) := by
  go_enter Tryd.func50, Tryd.ntmps50
  go_wp2_with fail
  go_loopw [3, 4, 5] (fun v vf vi wr => WordsI w.heap.size 32 s v vf vi wr ∧ Below w.heap.size w wr) (fun _ _ vi _ => s.size + 1 - (intOf vi).toNat)
  case atStart => exact ⟨(show WordsI _ _ _ _ _ _ _ from ⟨[], 0, 0, 0, World.ownsRow_lit w #[] 0 (Nat.le_refl _) (by simp [maxLen]) rfl, rfl, rfl, by omega, .inl ⟨by omega, by omega, rfl, by simp⟩⟩), (Below.refl _ _).alloc (Nat.le_refl _) _⟩
  case round =>
    obtain ⟨⟨L, n, f, i, own, rfl, rfl, hni, hst⟩, hbr⟩ := hrel
    have hle := hbr.size
    rcases hst with ⟨hi, hf, hcut, hno⟩ | ⟨rfl, hcut⟩
    · have Hcut := Lib.hid hcut
      have Hno := Lib.hid hno
      clear hcut hno
      have hfi : (f : Int) ≤ (i : Int) := by omega
      have his : (i : Int) ≤ (s.size : Int) := by omega
      have his1 : (i : Int) ≤ (s.size : Int) := by omega
      by_cases he : i = s.size
      · have d1 : ((i : Int) == (s.size : Int)) = true := by simp; omega
        have hpe := Lib.hid (Tx.piece_end (c := 32) (l := s.data.toList) (i := i) (by simp; omega) Hno.out)
        have hap := Lib.hid he
        clear he
        go_wp2_with (at_builtin
                     go_must (
                     refine wpList_push sl_str rfl (.tmp 23) (.tmp 28) rfl w.heap.size _ _ _ rfl own 1 1 rfl rfl rfl (by simp only [maxLen]; omega) (by omega) hle ?_
                     intro v' w' own' hgr
                     have hb' := hbr.trans (hgr.below (own_ge own) hle)))
        go_roundw
        case rel => exact ⟨(show WordsI _ _ _ _ _ _ _ from ⟨L ++ [s.extract f i], n + 1, i + 1, i + 1, by simpa using own', by go_num, by go_num, by omega, .inr ⟨by have := hap.out; omega, by rw [Hcut.out, hpe.out]; simp [bytesOfL]; rw [List.take_of_length_le (by simp; have := hap.out; omega)]⟩⟩), hb'⟩
        case measure => simp [intOf]; omega
      · have d1 : ((i : Int) == (s.size : Int)) = false := by simp; omega
        have hlt : i < s.size := by omega
        obtain ⟨b, hb⟩ : ∃ b, s[i] = b := ⟨_, rfl⟩
        have hli : s.data.toList[i]? = some b := by
          have hk' : i < s.data.toList.length := by simpa using hlt
          rw [List.getElem?_eq_getElem hk']
          exact congrArg some hb
        have Hli := Lib.hid hli
        obtain ⟨c, hc⟩ : ∃ c, s[i].toNat = c := ⟨_, rfl⟩
        have hbc : b.toNat = c := by rw [← hb, hc]
        have Hbc := Lib.hid hbc
        clear hli hb hbc he
        by_cases h32 : c = 32
        · have d2 : ((c : Int) == 32) = true := by simp; omega
          have hb32 : b = 32 := UInt8.toNat_inj.1 (by rw [Hbc.out, h32]; rfl)
          have hph := Lib.hid (Tx.piece_hit (c := 32) hf (by rw [Hli.out, hb32]) Hno.out)
          clear h32 hb32
          go_wp2_with (at_builtin
                       go_must (
                       refine wpList_push sl_str rfl (.tmp 23) (.tmp 28) rfl w.heap.size _ _ _ rfl own 1 1 rfl rfl rfl (by simp only [maxLen]; omega) (by omega) hle ?_
                       intro v' w' own' hgr
                       have hb' := hbr.trans (hgr.below (own_ge own) hle)))
          go_roundw
          case rel => exact ⟨(show WordsI _ _ _ _ _ _ _ from ⟨L ++ [s.extract f i], n + 1, i + 1, i + 1, by simpa using own', by go_num, by go_num, by omega, .inl ⟨by omega, by omega, by rw [Hcut.out, hph.out]; simp [bytesOfL], by simp⟩⟩), hb'⟩
          case measure => simp [intOf]; omega
        · have d2 : ((c : Int) == 32) = false := by simp; omega
          have hb32 : b ≠ 32 := fun e => h32 (by rw [← Hbc.out, e]; rfl)
          have hnn : Hid ((32 : UInt8) ∉ (s.data.toList.drop f).take (i + 1 - f)) := Lib.hid (by
            rw [Tx.take_drop_snoc hf Hli.out]
            simp only [List.mem_append, List.mem_singleton, not_or]
            exact ⟨Hno.out, fun e => hb32 e.symm⟩)
          clear h32 hb32
          go_wp2_with fail
          go_roundw
          case rel => exact ⟨(show WordsI _ _ _ _ _ _ _ from ⟨L, n, f, i + 1, own, rfl, by go_num, by omega, .inl ⟨by omega, by omega, Hcut.out, hnn.out⟩⟩), hbr⟩
          case measure => simp [intOf]; omega
    · have Hcut := Lib.hid hcut
      clear hcut
      go_wp2_with fail
      go_ret
      exact ⟨L, n, _, rfl, own, Hcut.out, hni, hbr⟩
/-- A slice of words. -/
def StrR (w : World) (A : Option Addr) (n : Nat) (W : List (List UInt8)) : Prop := W.length = n ∧ (0 < n → ∃ ad, A = some ad ∧ ad.block < w.heap.size ∧ ∀ i, i < n → w.cell? (ad.add i) = some (.string (baOf (Fn.wd W i))))
theorem StrR.below {w w' : World} {A : Option Addr} {n : Nat} {W : List (List UInt8)} (h : StrR w A n W) (hb : Below w.heap.size w w') : StrR w' A n W :=
  ⟨h.1, fun h0 => let ⟨ad, e, hlt, hc⟩ := h.2 h0; ⟨ad, e, Nat.lt_of_lt_of_le hlt hb.size, fun i hi => (hb.cell (p := ad.add i) (by rw [block_of_add]; exact hlt)).trans (hc i hi)⟩⟩
theorem wd_map {W : List (List UInt8)} {i : Nat} (h : i < W.length) : ((W.map baOf).map Value.string)[i]? = some (.string (baOf (Fn.wd W i))) := by
  rw [List.getElem?_map, List.getElem?_map, List.getElem?_eq_getElem h]
  unfold Fn.wd
  rw [List.getD_eq_getElem?_getD, List.getElem?_eq_getElem h]
  rfl
theorem StrR.own {w : World} {B n c g : Nat} {W : List (List UInt8)} (h : w.ownsRow B 9 1 (.slice (some ⟨g, 0, none⟩) n c) n ((W.map baOf).map Value.string)) : StrR w (some ⟨g, 0, none⟩) n W := by
  have hl : W.length = n := by have := h.1; simpa using this
  refine ⟨hl, fun h0 => ⟨_, rfl, own_lt h g rfl, fun i hi => ?_⟩⟩
  have e : (⟨g, 0, none⟩ : Addr).add i = ⟨g, i, none⟩ := by
    unfold Addr.add
    split
    · rename_i hz; subst hz; rfl
    · simp
  rw [e, h.cellAt i (by omega)]
  exact wd_map (by omega)
theorem wd_drop (W : List (List UInt8)) (k i : Nat) : Fn.wd (W.drop k) i = Fn.wd W (k + i) := by
  unfold Fn.wd
  rw [List.getD_eq_getElem?_getD, List.getD_eq_getElem?_getD, List.getElem?_drop]
theorem wd_take {W : List (List UInt8)} {k i : Nat} (h : i < k) : Fn.wd (W.take k) i = Fn.wd W i := by
  unfold Fn.wd
  rw [List.getD_eq_getElem?_getD, List.getD_eq_getElem?_getD, List.getElem?_take, if_pos h]
theorem StrR.sub {w : World} {g n : Nat} {W : List (List UInt8)} (h : StrR w (some ⟨g, 0, none⟩) n W) {k m : Nat} (hk : k + m ≤ n) : StrR w (some ⟨g, k, none⟩) m ((W.drop k).take m) := by
  refine ⟨by rw [List.length_take, List.length_drop]; have := h.1; omega, fun h0 => ?_⟩
  obtain ⟨ad, e, hlt, hc⟩ := h.2 (by omega)
  obtain rfl := Option.some.inj e
  refine ⟨_, rfl, hlt, fun i hi => ?_⟩
  have e1 : (⟨g, k, none⟩ : Addr).add i = (⟨g, 0, none⟩ : Addr).add (k + i) := by
    unfold Addr.add
    split
    · rename_i hz
      subst hz
      split
      · rename_i hz; have : k = 0 := by omega
        subst this; rfl
      · simp
    · split
      · rename_i hz; omega
      · simp
  rw [e1, hc (k + i) (by omega), wd_take hi, wd_drop]
def IntsR (W : List (List UInt8)) (n : Nat) (w : World) (e : Ending) (w' : World) : Prop := (∃ (v : Value) (ok : Bool), e = .returned (.tuple #[v, .bool ok]) ∧ match Fn.ints W with
  | none => ok = false ∧ v = .slice none 0 0
  | some l => ok = true ∧ w'.ownsRow w.heap.size 3 1 v n (l.map (Value.int .i64))) ∧ Below w.heap.size w w'
theorem IntsR.bad {W : List (List UInt8)} {n : Nat} {w w' : World} (h : Fn.ints W = none) (hb : Below w.heap.size w w') : IntsR W n w (.returned (.tuple #[.slice none 0 0, .bool false])) w' := by
  refine ⟨⟨_, _, rfl, ?_⟩, hb⟩
  rw [h]
  exact ⟨rfl, rfl⟩
theorem IntsR.good {W : List (List UInt8)} {n : Nat} {w w' : World} {v : Value} {l : List Int} (h : Fn.ints W = some l) (ho : w'.ownsRow w.heap.size 3 1 v n (l.map (Value.int .i64))) (hb : Below w.heap.size w w') : IntsR W n w (.returned (.tuple #[v, .bool true])) w' := by
  refine ⟨⟨_, _, rfl, ?_⟩, hb⟩
  rw [h]
  exact ⟨rfl, ho⟩
theorem ints_no {W : List (List UInt8)} {t : Nat} (ht : t < W.length) (h : Fn.nOk (Fn.wd W t) = false) : Fn.ints W = none := by
  unfold Fn.ints
  rw [if_neg]
  intro ha
  have := List.all_eq_true.1 ha (Fn.wd W t) (by unfold Fn.wd; rw [List.getD_eq_getElem?_getD, List.getElem?_eq_getElem ht]; exact List.getElem_mem ht)
  rw [h] at this
  cases this
theorem ints_all {W : List (List UInt8)} (h : ∀ t, t < W.length → Fn.nOk (Fn.wd W t) = true) : Fn.ints W = some (W.map Fn.nVal) := by
  unfold Fn.ints
  rw [if_pos]
  refine List.all_eq_true.2 fun p hp => ?_
  obtain ⟨t, ht, rfl⟩ := List.getElem_of_mem hp
  have := h t ht
  unfold Fn.wd at this
  rwa [List.getD_eq_getElem?_getD, List.getElem?_eq_getElem ht] at this
theorem vals_take {W : List (List UInt8)} {t : Nat} (ht : t < W.length) : (W.take (t + 1)).map Fn.nVal = (W.take t).map Fn.nVal ++ [Fn.nVal (Fn.wd W t)] := by
  rw [List.take_succ_eq_append_getElem ht, List.map_append]
  unfold Fn.wd
  rw [List.getD_eq_getElem?_getD, List.getElem?_eq_getElem ht]
  rfl
theorem numR_ba (p : List UInt8) : numR (baOf p) = if Fn.nOk p = true then (numV p, true) else (0, false) := rfl
def InI (W : List (List UInt8)) (n : Nat) (w : World) (vl vi : Value) (wr : World) : Prop := ∃ t : Nat, t ≤ n ∧ vi = .int .i64 (t : Int) ∧ wr.ownsRow w.heap.size 3 1 vl t (((W.take t).map Fn.nVal).map (Value.int .i64)) ∧ Hid (∀ j, j < t → Fn.nOk (Fn.wd W j) = true) ∧ Below w.heap.size w wr
theorem sl_int4 : SlT Tryd.prog 22 3 1 8 := slT_of (z := .int .i64 0) Tryd.underlying22 (by kernel_rfl) rfl (by omega)
set_option maxRecDepth 100000 in
set_option maxHeartbeats 4000000 in
theorem rints_c (A : Option Addr) (n c : Nat) (W : List (List UInt8)) (w : World) (hn : n ≤ 1000) (h : StrR w A n W) (hz : ∀ j, (Fn.wd W j).length ≤ 1000000) :
    Calls Tryd.prog 53 #[.slice A n c] w (IntsR W n w) := by
  have Hl := Lib.hid h.1
  have Hh := Lib.hid h
  have Hz := Lib.hid hz
  clear h hz
  go_enter Tryd.func53, Tryd.ntmps53
  go_wp2_with fail
  go_loopw [4, 5] (fun vl vi wr => InI W n w vl vi wr) (fun _ vi _ => n - (intOf vi).toNat)
  case atStart => exact (show InI _ _ _ _ _ _ from ⟨0, by omega, rfl, World.ownsRow_nil _ _ _ _, Lib.hid (fun j hj => by omega), Below.refl _ _⟩)
  case round =>
    obtain ⟨t, htn, rfl, own, HA, hbr⟩ := hrel
    have hle := hbr.size
    by_cases hlt : t < n
    · have hti : (t : Int) < (n : Int) := by omega
      obtain ⟨ad, rfl, _, hc⟩ := (Hh.out.below hbr).2 (by omega)
      have c0 := hc t hlt
      have hpz := Hz.out t
      have htl : Hid (t < W.length) := Lib.hid (by rw [Hl.out]; exact hlt)
      obtain ⟨p, hp⟩ : ∃ p, Fn.wd W t = p := ⟨_, rfl⟩
      have HNo : Hid (Fn.nOk p = false → Fn.ints W = none) := Lib.hid (fun h => ints_no htl.out (by rw [hp]; exact h))
      have HV : Hid ((W.take (t + 1)).map Fn.nVal = (W.take t).map Fn.nVal ++ [Fn.nVal p]) := Lib.hid (by rw [vals_take htl.out, hp])
      have Hp := Lib.hid hp
      rw [hp] at c0 hpz
      clear hp hc
      have HN := Lib.hid (rnumber_c (baOf p) wr (by rw [show (baOf p).size = p.length by simp [baOf, ByteArray.size]]; unfold maxLen; omega))
      unfold RNumberR at HN
      rw [numR_ba] at HN
      cases hok : Fn.nOk p with
      | false =>
        rw [hok, if_neg (by decide)] at HN
        have Hb := Lib.hid (HNo.out hok)
        clear hok
        go_wp2_with fail
        refine HN.out.mono ?_
        rintro e w2 ⟨rfl, rfl⟩
        go_wp2_with fail
        go_ret2
        exact IntsR.bad Hb.out hbr
      | true =>
        rw [hok, if_pos rfl] at HN
        have hlt7 : numV p < 10000000 := by
          unfold Fn.nOk at hok
          simp only [Bool.and_eq_true, decide_eq_true_eq] at hok
          exact numV_small p (List.all_eq_true.1 hok.2) hok.1.1.2
        obtain ⟨v, hv⟩ : ∃ v, numV p = v := ⟨_, rfl⟩
        have Hv : Hid (Fn.nVal p = (v : Int)) := Lib.hid (by unfold Fn.nVal; rw [hv])
        have Hok := Lib.hid hok
        rw [hv] at HN hlt7
        clear hok hv
        go_wp2_with fail
        refine HN.out.mono ?_
        rintro e w2 ⟨rfl, rfl⟩
        go_wp2_with (at_builtin
                     go_must (
                     refine wpList_push sl_int4 rfl (.tmp 24) (.tmp 26) rfl w.heap.size _ _ _ rfl own 1 1 rfl rfl rfl (by simp only [maxLen]; omega) (by omega) hle ?_
                     intro v' w' own' hgr
                     have hb' := hbr.trans (hgr.below (own_ge own) hle)))
        go_roundw
        case rel => exact (show InI _ _ _ _ _ _ from ⟨t + 1, by omega, by go_num, by rw [HV.out, Hv.out, List.map_append]; exact own', Lib.hid (fun j hj => by
          rcases Nat.lt_or_ge j t with h' | h'
          · exact HA.out j h'
          · obtain rfl : j = t := by omega
            rw [Hp.out]; exact Hok.out), hb'⟩)
        case measure => simp [intOf]; omega
    · obtain rfl : t = n := by omega
      have Hall := Lib.hid (ints_all (W := W) (fun j hj => HA.out j (by rw [← Hl.out]; exact hj)))
      rw [List.take_of_length_le (by rw [Hl.out]; exact Nat.le_refl _)] at own
      go_wp2_with fail
      go_ret2
      exact IntsR.good Hall.out own hbr
set_option maxRecDepth 100000 in
set_option maxHeartbeats 4000000 in
theorem all_c (A : Option Addr) (n c : Nat) (W : List (List UInt8)) (k : Nat) (w : World) (hn : n ≤ 1000) (h : StrR w A n W) (hz : ∀ j, (Fn.wd W j).length ≤ 1000000) :
    Calls Tryd.prog 49 #[.slice A n c, .int .i64 (k : Int)] w (fun e w' => (n = k → IntsR W n w e w') ∧ (n ≠ k → e = .returned (.tuple #[.slice none 0 0, .bool false]) ∧ w = w')) := by
  have Hl := Lib.hid h.1
  have Hh := Lib.hid h
  have Hz := Lib.hid hz
  clear h hz
  by_cases hk : n = k
  case neg =>
    have d0 : ((n : Int) != (k : Int)) = true := by simp; omega
    go_enter Tryd.func49, Tryd.ntmps49
    go_wp2_with fail
    go_ret2
    exact ⟨fun h => absurd h hk, fun _ => ⟨rfl, rfl⟩⟩
  subst hk
  have d0 : ((n : Int) != (n : Int)) = false := by simp
  refine Calls.mono (R := IntsR W n w) ?_ (fun e w' h => ⟨fun _ => h, fun h' => absurd rfl h'⟩)
  go_enter Tryd.func49, Tryd.ntmps49
  go_wp2_with fail
  go_loopw [6, 17] (fun vl vi wr => InI W n w vl vi wr) (fun _ vi _ => n - (intOf vi).toNat)
  case atStart => exact (show InI _ _ _ _ _ _ from ⟨0, by omega, rfl, World.ownsRow_nil _ _ _ _, Lib.hid (fun j hj => by omega), Below.refl _ _⟩)
  case round =>
    obtain ⟨t, htn, rfl, own, HA, hbr⟩ := hrel
    have hle := hbr.size
    by_cases hlt : t < n
    · have hti : (t : Int) < (n : Int) := by omega
      obtain ⟨ad, rfl, _, hc⟩ := (Hh.out.below hbr).2 (by omega)
      have c0 := hc t hlt
      have hpz := Hz.out t
      have htl : Hid (t < W.length) := Lib.hid (by rw [Hl.out]; exact hlt)
      obtain ⟨p, hp⟩ : ∃ p, Fn.wd W t = p := ⟨_, rfl⟩
      have HNo : Hid (Fn.nOk p = false → Fn.ints W = none) := Lib.hid (fun h => ints_no htl.out (by rw [hp]; exact h))
      have HV : Hid ((W.take (t + 1)).map Fn.nVal = (W.take t).map Fn.nVal ++ [Fn.nVal p]) := Lib.hid (by rw [vals_take htl.out, hp])
      have Hp := Lib.hid hp
      rw [hp] at c0 hpz
      clear hp hc
      have HN := Lib.hid (fnumber_c (baOf p) wr (by rw [show (baOf p).size = p.length by simp [baOf, ByteArray.size]]; unfold maxLen; omega))
      unfold RNumberR at HN
      rw [numR_ba] at HN
      cases hok : Fn.nOk p with
      | false =>
        rw [hok, if_neg (by decide)] at HN
        have Hb := Lib.hid (HNo.out hok)
        clear hok
        go_wp2_with fail
        refine HN.out.mono ?_
        rintro e w2 ⟨rfl, rfl⟩
        go_wp2_with fail
        go_ret2
        exact IntsR.bad Hb.out hbr
      | true =>
        rw [hok, if_pos rfl] at HN
        have hlt7 : numV p < 10000000 := by
          unfold Fn.nOk at hok
          simp only [Bool.and_eq_true, decide_eq_true_eq] at hok
          exact numV_small p (List.all_eq_true.1 hok.2) hok.1.1.2
        obtain ⟨v, hv⟩ : ∃ v, numV p = v := ⟨_, rfl⟩
        have Hv : Hid (Fn.nVal p = (v : Int)) := Lib.hid (by unfold Fn.nVal; rw [hv])
        have Hok := Lib.hid hok
        rw [hv] at HN hlt7
        clear hok hv
        go_wp2_with fail
        refine HN.out.mono ?_
        rintro e w2 ⟨rfl, rfl⟩
        go_wp2_with (at_builtin
                     go_must (
                     refine wpList_push sl_int4 rfl (.tmp 28) (.tmp 30) rfl w.heap.size _ _ _ rfl own 1 1 rfl rfl rfl (by simp only [maxLen]; omega) (by omega) hle ?_
                     intro v' w' own' hgr
                     have hb' := hbr.trans (hgr.below (own_ge own) hle)))
        go_roundw
        case rel => exact (show InI _ _ _ _ _ _ from ⟨t + 1, by omega, by go_num, by rw [HV.out, Hv.out, List.map_append]; exact own', Lib.hid (fun j hj => by
          rcases Nat.lt_or_ge j t with h' | h'
          · exact HA.out j h'
          · obtain rfl : j = t := by omega
            rw [Hp.out]; exact Hok.out), hb'⟩)
        case measure => simp [intOf]; omega
    · obtain rfl : t = n := by omega
      have Hall := Lib.hid (ints_all (W := W) (fun j hj => HA.out j (by rw [← Hl.out]; exact hj)))
      rw [List.take_of_length_le (by rw [Hl.out]; exact Nat.le_refl _)] at own
      go_wp2_with fail
      go_ret2
      exact IntsR.good Hall.out own hbr
end Go.Proofs.YtiegpkbollihgaaDoor
