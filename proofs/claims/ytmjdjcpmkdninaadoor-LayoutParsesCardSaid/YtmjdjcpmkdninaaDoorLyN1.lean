/- The walk of a layout's number. -/
import Derived.Test.YtmjdjcpmkdninaaDoorLyP1
import Derived.Lib.Atoi
import Derived.Lib.AtoiErrMem
namespace Go.Proofs.YtmjdjcpmkdninaaDoor
open Go.RowKit
namespace Tx
theorem decFrom_val : ∀ (l : List UInt8) (acc : Nat), l.all digC = true → Lib.decFrom acc l = some (l.foldl (fun n c => 10 * n + (c.toNat - 48)) acc) := by
  intro l
  induction l with
  | nil => intro acc _; rfl
  | cons b r ih =>
    intro acc h
    rw [List.all_cons, Bool.and_eq_true] at h
    have hb := h.1
    simp only [digC, Bool.and_eq_true, decide_eq_true_eq] at hb
    have hd : Lib.digitVal b = some (b.toNat - 48) := by unfold Lib.digitVal; rw [if_pos hb]
    unfold Lib.decFrom
    rw [hd]
    simp only
    rw [ih _ h.2, List.foldl_cons, Nat.mul_comm acc 10]
theorem decNat_val {l : List UInt8} (h : l.all digC = true) (hne : l ≠ []) : Lib.decNat l = some (numV l) := by
  unfold Lib.decNat
  rw [if_neg (by simpa using hne), decFrom_val l 0 h]
  rfl
theorem atoi_val {l : List UInt8} (h : (digs l).all digC = true) (hne : digs l ≠ []) : Lib.atoi l = some (if l.headD 0 = 45 then -(numV (digs l) : Int) else (numV (digs l) : Int)) := by
  cases l with
  | nil => exact absurd rfl hne
  | cons b r =>
    by_cases hb : b = 45
    · subst hb
      rw [digs_neg] at h hne ⊢
      show (Lib.decNat r).map (fun (m : Nat) => -(m : Int)) = _
      rw [decNat_val h hne]
      rfl
    · have hd : digs (b :: r) = b :: r := digs_pos (by simpa using hb)
      rw [hd] at h hne ⊢
      have h43 : ¬ b = 43 := by
        rintro rfl
        rw [List.all_cons, Bool.and_eq_true] at h
        exact absurd h.1 (by decide)
      rw [if_neg (show ¬ (b :: r).headD 0 = 45 from hb)]
      show (if (b == 45) = true then (Lib.decNat r).map fun (m : Nat) => -(m : Int) else if (b == 43) = true then (Lib.decNat r).map fun (m : Nat) => (m : Int) else (Lib.decNat (b :: r)).map fun (m : Nat) => (m : Int)) = _
      rw [if_neg (by simpa using hb), if_neg (by simpa using h43), decNat_val h hne]
      rfl
theorem trim_digs (l : List UInt8) : Lib.trimPrefix l [45] = digs l := by
  unfold Lib.trimPrefix
  cases l with
  | nil => rfl
  | cons b r =>
    by_cases hb : b = 45
    · subst hb
      rw [digs_neg, if_pos (by simp [Lib.hasPrefix])]
      rfl
    · rw [digs_pos (by simpa using hb), if_neg (by simp [Lib.hasPrefix, List.isPrefixOf]; exact fun e => hb e.symm)]
end Tx
def NumWR (o : Option (Option Int)) (n : Int) (ok : Bool) : Prop :=
  (o = none ∧ n = 0 ∧ ok = false) ∨ (o = some none ∧ ok = true ∧ (n < -1000000000 ∨ 1000000000 < n) ∧ -100000000000 ≤ n ∧ n ≤ 100000000000) ∨ (∃ v, o = some (some v) ∧ ok = true ∧ n = v ∧ -1000000000 ≤ v ∧ v ≤ 1000000000)
theorem numZ_none {l : List UInt8} (h : (Tx.digs l).all digC = false ∨ Tx.digs l = [] ∨ ((Tx.digs l).headD 0 = 48 ∧ l ≠ [48])) : Tx.numZ l = none := by unfold Tx.numZ; rw [if_pos h]
theorem numZ_long {l : List UInt8} (h : ¬ ((Tx.digs l).all digC = false ∨ Tx.digs l = [] ∨ ((Tx.digs l).headD 0 = 48 ∧ l ≠ [48]))) (h1 : 10 < (Tx.digs l).length) : Tx.numZ l = some none := by unfold Tx.numZ; rw [if_neg h, if_pos (.inl h1)]
theorem numZ_short {l : List UInt8} (h : ¬ ((Tx.digs l).all digC = false ∨ Tx.digs l = [] ∨ ((Tx.digs l).headD 0 = 48 ∧ l ≠ [48]))) (h1 : ¬ 10 < (Tx.digs l).length) : ∃ v, Lib.atoi l = some v ∧ NumWR (Tx.numZ l) v true := by
  have ha : (Tx.digs l).all digC = true := by
    cases hh : (Tx.digs l).all digC with
    | true => rfl
    | false => exact absurd (Or.inl hh) h
  have hne : Tx.digs l ≠ [] := fun e => h (.inr (.inl e))
  have hlt : numV (Tx.digs l) < 10 ^ (Tx.digs l).length := numV_lt _ (fun c hc => List.all_eq_true.1 ha c hc)
  have hle : (10 : Nat) ^ (Tx.digs l).length ≤ 10 ^ 10 := Nat.pow_le_pow_right (by decide) (by omega)
  refine ⟨_, Tx.atoi_val ha hne, ?_⟩
  unfold Tx.numZ
  rw [if_neg h]
  by_cases hb : 1000000000 < numV (Tx.digs l)
  · rw [if_pos (.inr hb)]
    refine .inr (.inl ⟨rfl, rfl, ?_, ?_, ?_⟩)
    · split <;> omega
    · split <;> omega
    · split <;> omega
  · rw [if_neg (by omega)]
    refine .inr (.inr ⟨_, rfl, rfl, rfl, ?_, ?_⟩)
    · split <;> omega
    · split <;> omega
theorem digs_len (l : List UInt8) : (Tx.digs l).length ≤ l.length ∧ l.length ≤ (Tx.digs l).length + 1 := by
  unfold Tx.digs
  split
  · simp
  · omega
/-- The digits read so far. -/
def DigS (D : ByteArray) (k : Nat) : Prop := ∀ c ∈ D.data.toList.take k, digC c = true
theorem DigS.step {s : ByteArray} {k : Nat} (h : DigS s k) (hk : k < s.size) (hd : digC s[k] = true) : DigS s (k + 1) := by
  intro c hc
  have hk' : k < s.data.toList.length := by simpa using hk
  rw [List.take_succ_eq_append_getElem hk'] at hc
  rcases List.mem_append.1 hc with hc | hc
  · exact h c hc
  · simp at hc
    subst hc
    exact hd
theorem DigS.bad {s : ByteArray} {k : Nat} (hk : k < s.size) (hd : digC s[k] = false) : s.data.toList.all digC = false := by
  rw [Bool.eq_false_iff]
  intro ha
  have hk' : k < s.data.toList.length := by simpa using hk
  have := List.all_eq_true.1 ha _ (List.getElem_mem hk')
  rw [show s.data.toList[k] = s[k] from rfl, hd] at this
  cases this
def LNumR (s : ByteArray) (w : World) (e : Ending) (w' : World) : Prop := ∃ n ok, e = .returned (.tuple #[.int .i64 n, .bool ok]) ∧ NumWR (Tx.numZ s.data.toList) n ok ∧ Below w.heap.size w w'
theorem lnum_none {s : ByteArray} {w w' : World} (h : Tx.numZ s.data.toList = none) (hb : Below w.heap.size w w') : LNumR s w (.returned (.tuple #[.int .i64 0, .bool false])) w' := ⟨0, false, rfl, .inl ⟨h, rfl, rfl⟩, hb⟩
set_option maxRecDepth 100000 in
set_option maxHeartbeats 4000000 in
theorem lnumber_c (s : ByteArray) (w : World) (hs : s.size ≤ 1000000) :
    Calls Tryd.prog 47 #[.string s] w (LNumR s w) := by
  have hlen := digs_len s.data.toList
  have hsl : s.data.toList.length = s.size := by simp
  obtain ⟨D, hD⟩ : ∃ D, baOf (Tx.digs s.data.toList) = D := ⟨_, rfl⟩
  have hDd : D.data.toList = Tx.digs s.data.toList := by rw [← hD]; rfl
  have hDs : D.size = (Tx.digs s.data.toList).length := by rw [← hD, Ly.baOf_size]
  have HT : Hid (∀ W : World, Calls Tryd.prog 57 #[.string s, .string ⟨#[45]⟩] W fun e w' => e = .returned (.string D) ∧ w' = W) := Lib.hid (fun W => by
    have := Tryd.strings_TrimPrefix s ⟨#[45]⟩ W
    rw [show (⟨#[45]⟩ : ByteArray).data.toList = [45] from rfl, Tx.trim_digs] at this
    rw [← hD]; exact this)
  have hDm : D.size ≤ 1000000 := by omega
  have HDd := Lib.hid hDd
  have HDs := Lib.hid hDs
  have Hlen := Lib.hid hlen
  have Hsl := Lib.hid hsl
  clear hD hDd hDs hlen hsl
  have H0 := Lib.hid (fun h => lnum_none (s := s) (w := w) (w' := w) (numZ_none h) (Below.refl _ _))
  rw [← HDd.out] at H0
  go_enter Tryd.func47, Tryd.ntmps47
  go_wp2_with fail
  refine (HT.out _).mono ?_
  rintro e w1 ⟨rfl, rfl⟩
  clear HT
  go_wp2_with fail
  go_loop [5] (fun p => ∃ k : Nat, k ≤ D.size ∧ p = .int .i64 k ∧ Hid (DigS D k)) (fun p => D.size - (intOf p).toNat)
  case atStart => exact ⟨0, by omega, rfl, Lib.hid (by intro c hc; simp at hc)⟩
  case round =>
    obtain ⟨k, hk, rfl, Hds⟩ := hrel
    by_cases hlt : k < D.size
    · obtain ⟨c, hc⟩ : ∃ c, D[k].toNat = c := ⟨_, rfl⟩
      have hC := Lib.hid (show digC D[k] = (decide (48 ≤ c) && decide (c ≤ 57)) by rw [← hc]; rfl)
      have h3 : c < 48 ∨ (48 ≤ c ∧ c ≤ 57) ∨ 57 < c := by omega
      rcases h3 with h3 | h3 | h3
      · have e1 : decide ((c : Int) < 48) = true := decide_eq_true (by omega)
        have e1' : decide (c < 48) = true := decide_eq_true h3
        have Hr := Lib.hid (H0.out (.inl (DigS.bad hlt (by rw [hC.out]; simp; omega))))
        clear hC
        go_wp2_with fail
        go_ret2
        exact Hr.out
      · have e1 : decide ((c : Int) < 48) = false := decide_eq_false (by omega)
        have e1' : decide (c < 48) = false := decide_eq_false (by omega)
        have e2 : decide (57 < (c : Int)) = false := decide_eq_false (by omega)
        have e2' : decide (57 < c) = false := decide_eq_false (by omega)
        have Hds' := Lib.hid (Hds.out.step hlt (by rw [hC.out]; simp; omega))
        clear hC
        go_wp2_with fail
        go_round
        case rel => exact ⟨k + 1, by omega, by go_num, Hds'⟩
        case measure => simp [intOf]; omega
      · have e1 : decide ((c : Int) < 48) = false := decide_eq_false (by omega)
        have e1' : decide (c < 48) = false := decide_eq_false (by omega)
        have e2 : decide (57 < (c : Int)) = true := decide_eq_true (by omega)
        have e2' : decide (57 < c) = true := decide_eq_true h3
        have Hr := Lib.hid (H0.out (.inl (DigS.bad hlt (by rw [hC.out]; simp; omega))))
        clear hC
        go_wp2_with fail
        go_ret2
        exact Hr.out
    · have hall : D.data.toList.all digC = true := List.all_eq_true.2 fun c hc => Hds.out c (by rw [List.take_of_length_le (by simp; omega)]; exact hc)
      have Hall := Lib.hid hall
      clear hall Hds
      by_cases h0 : D.size = 0
      · have hemp : D.toList.isEmpty = true := by
          rw [Lib.toList_data, List.isEmpty_iff]
          exact List.eq_nil_of_length_eq_zero (by simpa using h0)
        have Hr := Lib.hid (H0.out (.inr (.inl (by rw [Lib.toList_data] at hemp; exact List.isEmpty_iff.1 hemp))))
        go_wp2_with fail
        go_ret2
        exact Hr.out
      · have hemp : D.toList.isEmpty = false := by
          rw [Lib.toList_data, Bool.eq_false_iff]
          intro h
          have := List.isEmpty_iff.1 h
          have h2 : D.data.toList.length = D.size := by simp
          rw [this] at h2
          simp at h2; omega
        have hpos : 0 < D.size := by omega
        have hne : D.data.toList ≠ [] := by
          intro e
          have h2 : D.data.toList.length = D.size := by simp
          rw [e] at h2
          simp at h2; omega
        have Hne := Lib.hid hne
        obtain ⟨c, hc⟩ : ∃ c, D[0].toNat = c := ⟨_, rfl⟩
        have hhd : D.data.toList.headD 0 = D[0] := by
          have hk' : 0 < D.data.toList.length := by simpa using hpos
          rw [List.headD_eq_head?_getD, List.head?_eq_getElem?, List.getElem?_eq_getElem hk']
          rfl
        have Hz : Hid (D.data.toList.headD 0 = 48 ↔ c = 48) := Lib.hid (by
          rw [hhd, ← hc]
          constructor
          · intro e; rw [e]; rfl
          · intro e; exact UInt8.toNat_inj.1 e)
        clear hne hhd
        have hq : (c = 48 ∧ ¬ s.data.toList = [48]) ∨ (c ≠ 48) ∨ (c = 48 ∧ s.data.toList = [48]) := by
          by_cases h1 : c = 48 <;> by_cases h2 : s.data.toList = [48] <;> simp [h1, h2]
        have fin : ∀ hq2 : ¬ (c = 48 ∧ ¬ s.data.toList = [48]), Hid ((10 < D.size → Tx.numZ s.data.toList = some none) ∧ (¬ 10 < D.size → s.size ≤ 18 ∧ ∃ v, Lib.atoi s.data.toList = some v ∧ NumWR (Tx.numZ s.data.toList) v true)) := fun hq2 => Lib.hid (by
          have hnb : ¬ ((Tx.digs s.data.toList).all digC = false ∨ Tx.digs s.data.toList = [] ∨ ((Tx.digs s.data.toList).headD 0 = 48 ∧ s.data.toList ≠ [48])) := by
            rw [← HDd.out]
            rintro (h | h | h)
            · rw [Hall.out] at h; cases h
            · exact Hne.out h
            · exact hq2 ⟨Hz.out.1 h.1, h.2⟩
          refine ⟨fun h => numZ_long hnb (by have := HDs.out; omega), fun h => ⟨?_, numZ_short hnb (by have := HDs.out; omega)⟩⟩
          have := Hlen.out
          have := HDs.out
          have := Hsl.out
          omega)
        have Hfin := Lib.hid fin
        clear fin
        rcases hq with ⟨h1, h2⟩ | h1 | ⟨h1, h2⟩
        · have e3 : ((c : Int) == 48) = true := by simp [h1]
          have e4 : (s.toList == [48]) = false := by rw [Lib.toList_data, beq_eq_false_iff_ne]; exact h2
          have Hr := Lib.hid (H0.out (.inr (.inr ⟨Hz.out.2 h1, h2⟩)))
          clear h1 h2
          go_wp2_with fail
          go_ret2
          exact Hr.out
        · have e3 : ((c : Int) == 48) = false := beq_eq_false_iff_ne.2 (by omega)
          obtain ⟨F1, F2⟩ := (Hfin.out (fun h => h1 h.1)).out
          clear h1
          by_cases h10 : 10 < D.size
          · have d5 : decide (10 < (D.size : Int)) = true := decide_eq_true (by omega)
            have d5' : decide (10 < D.size) = true := decide_eq_true h10
            have Hr := Lib.hid (F1 h10)
            clear F1 F2
            go_wp2_with fail
            go_ret2
            exact ⟨1000000001, true, rfl, .inr (.inl ⟨Hr.out, rfl, by omega, by omega, by omega⟩), Below.refl _ _⟩
          · have d5 : decide (10 < (D.size : Int)) = false := decide_eq_false (by omega)
            have d5' : decide (10 < D.size) = false := decide_eq_false h10
            obtain ⟨h18, v, hv, hR⟩ := F2 h10
            have HR := Lib.hid hR
            have HA := Lib.hid (fun W => Tryd.strconv_Atoi s v h18 hv W)
            clear F1 F2 hv hR
            go_wp2_with fail
            refine (HA.out _).mono ?_
            rintro e w2 ⟨rfl, tt, rfl⟩
            go_wp2_with fail
            go_ret2
            exact ⟨v, true, rfl, HR.out, Lib.bytesWorld_below _ _ _⟩
        · have e3 : ((c : Int) == 48) = true := by simp [h1]
          have e4 : (s.toList == [48]) = true := by rw [Lib.toList_data, beq_iff_eq]; exact h2
          obtain ⟨F1, F2⟩ := (Hfin.out (fun h => h.2 h2)).out
          have h10 : ¬ 10 < D.size := by
            have h3 := HDs.out
            have h4 := (Hlen.out).1
            rw [h2] at h4 h3
            simp at h4
            omega
          have d5 : decide (10 < (D.size : Int)) = false := decide_eq_false (by omega)
          have d5' : decide (10 < D.size) = false := decide_eq_false h10
          obtain ⟨h18, v, hv, hR⟩ := F2 h10
          have HR := Lib.hid hR
          have HA := Lib.hid (fun W => Tryd.strconv_Atoi s v h18 hv W)
          clear F1 F2 hv hR h1 h2
          go_wp2_with fail
          refine (HA.out _).mono ?_
          rintro e w2 ⟨rfl, tt, rfl⟩
          go_wp2_with fail
          go_ret2
          exact ⟨v, true, rfl, HR.out, Lib.bytesWorld_below _ _ _⟩
end Go.Proofs.YtmjdjcpmkdninaaDoor
