/- The walk of a layout's parentOf. -/
import Derived.Test.YtmjdjcpmkdninaaDoorLyN1
import Derived.Test.YtmjdjcpmkdninaaDoorLyMap
import Derived.Test.YtmjdjcpmkdninaaDoorShelf2
namespace Go.Proofs.YtmjdjcpmkdninaaDoor
open Go.RowKit Go.Maps
/-- Where the first element of a name stands. -/
def idxOf (l : List LE) (s : ByteArray) : Option Int := (Ly.idxGo s.data.toList l 0).map fun i => (i : Int)
theorem idxGo_some (s : List UInt8) : ∀ (l : List LE) (a i : Nat), Ly.idxGo s l a = some i → ∃ y ∈ l, y.nm.data.toList = s := by
  intro l
  induction l with
  | nil => intro a i h; simp [Ly.idxGo] at h
  | cons y r ih =>
    intro a i h
    unfold Ly.idxGo at h
    split at h
    · rename_i e
      exact ⟨y, by simp, e⟩
    · obtain ⟨z, hz, e⟩ := ih (a + 1) i h
      exact ⟨z, by simp [hz], e⟩
theorem idx_ok {l : List LE} (h : ∀ x ∈ l, Pl.nameOk x.nm = true) {s : ByteArray} (hs : ¬ (s.data.toList ≠ [] ∧ (58 : UInt8) ∉ s.data.toList)) : idxOf l s = none := by
  unfold idxOf
  cases hi : Ly.idxGo s.data.toList l 0 with
  | none => rfl
  | some i =>
    obtain ⟨y, hy, e⟩ := idxGo_some _ l 0 i hi
    exact absurd ⟨by rw [← e]; exact Ly.nm_ne (h y hy), by rw [← e]; exact Ly.nm_not (h y hy) (by decide)⟩ hs
def ParR (o : Option Nat) (sd : Int) : Value := match o with | some i => .tuple #[.int .i64 (i : Int), .int .i64 sd, .bool true] | none => .tuple #[.int .i64 0, .int .i64 0, .bool false]
/-- What a word is behind a side's suffix. -/
theorem hasSuf_iff (s p : List UInt8) : Lib.hasSuffix s p = true ↔ ∃ t, s = t ++ p := by
  unfold Lib.hasSuffix
  rw [List.isSuffixOf_iff_suffix]
  constructor
  · rintro ⟨t, h⟩; exact ⟨t, h.symm⟩
  · rintro ⟨t, h⟩; exact ⟨t, h.symm⟩
theorem trimSuf_app (t p : List UInt8) : Lib.trimSuffix (t ++ p) p = t := by
  unfold Lib.trimSuffix
  rw [if_pos ((hasSuf_iff _ _).2 ⟨t, rfl⟩), List.length_append, Nat.add_sub_cancel, List.take_left]
/-- Of a word, at most one way of reading it names an element. -/
theorem par_word {l : List LE} (h : ∀ x ∈ l, Pl.nameOk x.nm = true) (s : List UInt8) {sd : Int} (hsd : 0 ≤ sd ∧ sd ≤ 2) {t : List UInt8} (hs : s = t ++ Ly.sufW sd) {i : Nat} (hi : Ly.idxGo t l 0 = some i) : Ly.sufOf s = (t, sd) := by
  obtain ⟨y, hy, e⟩ := idxGo_some t l 0 i hi
  rw [hs]
  exact Ly.sufOf_nm (by rw [← e]; exact Ly.nm_not (h y hy) (by decide)) (by rw [← e]; exact Ly.nm_ne (h y hy)) hsd
theorem sufOf_split (s : List UInt8) : s = (Ly.sufOf s).1 ++ Ly.sufW (Ly.sufOf s).2 ∧ 0 ≤ (Ly.sufOf s).2 ∧ (Ly.sufOf s).2 ≤ 2 := by
  unfold Ly.sufOf
  split
  · rename_i h
    refine ⟨?_, by simp, by simp⟩
    show s = s.take (s.length - 5) ++ Ly.left
    rw [← h.2, List.take_append_drop]
  · split
    · rename_i h
      refine ⟨?_, by simp, by simp⟩
      show s = s.take (s.length - 6) ++ Ly.right
      rw [← h.2, List.take_append_drop]
    · exact ⟨by simp [Ly.sufW], by simp, by simp⟩
/-- Side t is not it. -/
theorem par_miss {l : List LE} (h : ∀ x ∈ l, Pl.nameOk x.nm = true) (s : List UInt8) {sd : Int} (hsd : 0 ≤ sd ∧ sd ≤ 2) {t : List UInt8} (hs : s = t ++ Ly.sufW sd) (hne : Ly.idxGo (Ly.sufOf s).1 l 0 = none ∨ (Ly.sufOf s).2 ≠ sd) : Ly.idxGo t l 0 = none := by
  cases hi : Ly.idxGo t l 0 with
  | none => rfl
  | some i =>
    have := par_word h s hsd hs hi
    rw [this] at hne
    rcases hne with hne | hne
    · rw [hi] at hne; cases hne
    · exact absurd rfl hne
theorem parR_none {o : Option Nat} {sd : Int} (h : o = none) : Ending.returned (.tuple #[.int .i64 0, .int .i64 0, .bool false]) = .returned (ParR o sd) := by rw [h]; rfl
theorem parR_some {o : Option Nat} {sd t : Int} {i : Nat} (h : o = some i) (hs : sd = t) : Ending.returned (.tuple #[.int .i64 (i : Int), .int .i64 t, .bool true]) = .returned (ParR o sd) := by rw [h, hs]; rfl
set_option maxRecDepth 100000 in
set_option maxHeartbeats 4000000 in
theorem lparent_c (s : ByteArray) (b m : Nat) (l : List LE) (w : World) (hs : s.size ≤ 1000000) (hM : MapO keyS 3 w b m (idxOf l)) (hok : ∀ x ∈ l, Pl.nameOk x.nm = true) :
    Calls Tryd.prog 48 #[.string s, .map (some b)] w fun e w' => e = .returned (ParR (Ly.idxGo (Ly.sufOf s.data.toList).1 l 0) (Ly.sufOf s.data.toList).2) ∧ w = w' := by
  obtain ⟨q0, hq0⟩ : ∃ q, Ly.sufOf s.data.toList = q := ⟨_, rfl⟩
  have hsp := sufOf_split s.data.toList
  have Hw := Lib.hid (fun (sd : Int) (hsd : 0 ≤ sd ∧ sd ≤ 2) (t : List UInt8) (hst : s.data.toList = t ++ Ly.sufW sd) (i : Nat) (hi : Ly.idxGo t l 0 = some i) => par_word hok s.data.toList hsd hst hi)
  rw [hq0] at hsp Hw ⊢
  obtain ⟨q, sd⟩ := q0
  simp only at hsp
  have Hsp := Lib.hid hsp
  have Hw' : Hid (∀ (t : Int), 0 ≤ t ∧ t ≤ 2 → ∀ p : List UInt8, s.data.toList = p ++ Ly.sufW t → ∀ i : Nat, Ly.idxGo p l 0 = some i → q = p ∧ sd = t) := Lib.hid (fun t ht p hp i hi => by
    have := Hw.out t ht p hp i hi
    exact ⟨congrArg Prod.fst this, congrArg Prod.snd this⟩)
  have hsd2 := hsp.2
  have HC := Lib.hid (fun (p : ByteArray) (W : World) => Tryd.strings_CutSuffix s p W (by omega))
  have hsl : s.data.toList.length = s.size := by simp
  have Hsl := Lib.hid hsl
  clear Hw hq0 hsp hsl
  go_enter Tryd.func48, Tryd.ntmps48
  go_wp2_with fail
  go_loop [7] (fun p => ∃ t : Int, 0 ≤ t ∧ t ≤ 3 ∧ p = .int .i64 t ∧ Hid (sd < t → Ly.idxGo q l 0 = none)) (fun p => (3 - intOf p).toNat)
  case atStart => exact ⟨0, by omega, by omega, rfl, Lib.hid (fun h => by omega)⟩
  case round =>
    obtain ⟨t, ht0, ht3, rfl, Hno⟩ := hrel
    by_cases h2 : t ≤ 2
    · have d1 : decide (t ≤ 2) = true := decide_eq_true h2
      cases hsuf : Lib.hasSuffix s.data.toList (Ly.sufW t) with
      | false =>
        have HC' := Lib.hid (HC.out (baOf (Ly.sufW t)))
        rw [baOf_data, hsuf] at HC'
        have Hno' : Hid (sd < t + 1 → Ly.idxGo q l 0 = none) := Lib.hid (fun h => by
          by_cases e : sd = t
          · have h3 := Hsp.out.1
            rw [e] at h3
            rw [(hasSuf_iff _ _).2 ⟨q, h3⟩] at hsuf
            cases hsuf
          · exact Hno.out (by omega))
        clear hsuf
        go_wp2_with fail
        refine (lsuf_c t w).mono ?_
        rintro e w1 ⟨rfl, rfl⟩
        go_wp2_with fail
        refine (HC'.out w).mono ?_
        rintro e w1 ⟨rfl, rfl⟩
        go_wp2_with fail
        go_round
        case rel => exact ⟨t + 1, by omega, by omega, by go_num, Hno'⟩
        case measure => simp [intOf]; omega
      | true =>
        obtain ⟨p, hp⟩ := (hasSuf_iff _ _).1 hsuf
        have HC' := Lib.hid (HC.out (baOf (Ly.sufW t)))
        rw [baOf_data, hsuf] at HC'
        have htr : Lib.trimSuffix s.data.toList (Ly.sufW t) = p := by rw [hp]; exact trimSuf_app p _
        rw [htr] at HC'
        have hps : (baOf p).size ≤ maxLen := by
          have h1 := Hsl.out
          rw [hp, List.length_append] at h1
          rw [Ly.baOf_size]
          unfold maxLen; omega
        have Hp := Lib.hid hp
        cases hi : Ly.idxGo p l 0 with
        | some i =>
          have Hio : Hid (idxOf l (baOf p) = some (i : Int)) := Lib.hid (by unfold idxOf; rw [baOf_data, hi]; rfl)
          obtain ⟨hqp, hst⟩ := Hw'.out t ⟨ht0, h2⟩ p hp i hi
          have Hr := Lib.hid (parR_some (o := Ly.idxGo q l 0) (sd := sd) (t := t) (i := i) (by rw [hqp]; exact hi) hst)
          clear hsuf hp htr hi hqp hst
          go_wp2_with fail
          refine (lsuf_c t w).mono ?_
          rintro e w1 ⟨rfl, rfl⟩
          go_wp2_with fail
          refine (HC'.out w).mono ?_
          rintro e w1 ⟨rfl, rfl⟩
          go_wp2_with (at_lookup; refine wpList_mapO_look msi_under int_under' (zint _) rfl (.tmp 25) (.tmp 26) rfl rfl hM (baOf p) rfl hps ?_; simp only [Hio.out, Option.getD_some, Option.isSome_some])
          go_ret3
          exact ⟨Hr.out, rfl⟩
        | none =>
          have Hio : Hid (idxOf l (baOf p) = none) := Lib.hid (by unfold idxOf; rw [baOf_data, hi]; rfl)
          have Hno' : Hid (sd < t + 1 → Ly.idxGo q l 0 = none) := Lib.hid (fun h => by
            by_cases e : sd = t
            · have h3 := Hsp.out.1
              rw [e, hp] at h3
              rw [← List.append_cancel_right h3]; exact hi
            · exact Hno.out (by omega))
          clear hsuf hp htr hi
          go_wp2_with fail
          refine (lsuf_c t w).mono ?_
          rintro e w1 ⟨rfl, rfl⟩
          go_wp2_with fail
          refine (HC'.out w).mono ?_
          rintro e w1 ⟨rfl, rfl⟩
          go_wp2_with (at_lookup; refine wpList_mapO_look msi_under int_under' (zint _) rfl (.tmp 25) (.tmp 26) rfl rfl hM (baOf p) rfl hps ?_; simp only [Hio.out, Option.getD_none, Option.isSome_none])
          go_round
          case rel => exact ⟨t + 1, by omega, by omega, by go_num, Hno'⟩
          case measure => simp [intOf]; omega
    · have d1 : decide (t ≤ 2) = false := decide_eq_false h2
      have Hr := Lib.hid (parR_none (sd := sd) (Hno.out (by omega)))
      go_wp2_with fail
      go_ret3
      exact ⟨Hr.out, rfl⟩
end Go.Proofs.YtmjdjcpmkdninaaDoor
