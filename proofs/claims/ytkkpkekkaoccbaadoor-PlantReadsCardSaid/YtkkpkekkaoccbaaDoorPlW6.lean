/- The walks of plant's Through, and of the reference's Neighbour and Through. -/
import Derived.Test.YtkkpkekkaoccbaaDoorPlW5
namespace Go.Proofs.YtkkpkekkaoccbaaDoor
open Go.RowKit
def ThruR (l : List PE) (i inn : Int) (w : World) (e : Ending) (w' : World) : Prop := ∃ A n cp, e = .returned (.slice A n cp) ∧ IR .i64 w' A n (Pl.thru l i inn) ∧ n ≤ 3 ∧ n ≤ cp ∧ cp ≤ maxLen ∧ Below w.heap.size w w'
theorem thru_none {l : List PE} {i inn : Int} (h : (Pl.endsAt l i).contains inn = false) : Pl.thru l i inn = [] := by
  unfold Pl.thru
  generalize Pl.endsAt l i = E at h
  cases E with
  | nil => rfl
  | cons a r =>
    simp only [List.contains_cons, Bool.or_eq_false_iff, beq_eq_false_iff_ne] at h
    rw [Pl.thruGo, if_neg (fun e => h.1 e.symm), if_neg (by rw [h.2]; decide)]
theorem thru_zero {l : List PE} {i inn : Int} {E : List Int} (hE : Pl.endsAt l i = E) (h : E[0]? = some inn) : Pl.thru l i inn = E.drop 1 := by
  unfold Pl.thru
  rw [hE]
  cases E with
  | nil => cases h
  | cons a r =>
    simp at h
    rw [Pl.thruGo, if_pos h]
    rfl
theorem thru_later {l : List PE} {i inn e0 : Int} {E : List Int} (hE : Pl.endsAt l i = E) (h0 : E[0]? = some e0) (hne : e0 ≠ inn) (hc : E.contains inn = true) : Pl.thru l i inn = [e0] := by
  unfold Pl.thru
  rw [hE]
  cases E with
  | nil => cases h0
  | cons a r =>
    simp at h0
    subst h0
    rw [List.contains_cons, Bool.or_eq_true] at hc
    rcases hc with hc | hc
    · exact absurd (eq_of_beq hc).symm hne
    · rw [Pl.thruGo, if_neg hne, if_pos hc]
theorem endsAt_len (l : List PE) (i : Int) : (Pl.endsAt l i).length ≤ 3 ∧ ((Pl.endsAt l i).length ≠ 1) := by
  unfold Pl.endsAt
  split
  · simp
  · split
    · rename_i x _
      unfold Pl.ends
      split
      · simp
      · split <;> simp
    · simp
theorem ThruR.nil_ {l : List PE} {i inn : Int} {w w' : World} (h : Pl.thru l i inn = []) (hb : Below w.heap.size w w') : ThruR l i inn w (.returned (.slice none 0 0)) w' :=
  ⟨none, 0, 0, rfl, by rw [h]; exact IR.nil_, by omega, by omega, by simp [maxLen], hb⟩
theorem ThruR.one {l : List PE} {i inn e0 : Int} {w w1 : World} {e : Ending} {bk : Nat} (h : Pl.thru l i inn = [e0]) (hb : Below w.heap.size w w1) (he : e = .returned (.slice (some ⟨bk, 0, none⟩) 1 1)) (hbk : bk = w1.heap.size) : ThruR l i inn w e (w1.alloc (.cells #[.int .i64 e0] 3)) := by
  subst he hbk
  exact ⟨_, 1, 1, rfl, by rw [h]; exact IR.new [e0] 1 rfl rfl (by decide), by omega, by omega, by simp [maxLen], hb.alloc hb.size _⟩
theorem ThruR.rest {l : List PE} {i inn : Int} {E : List Int} {w w1 : World} {B g m cap : Nat} (hE : Pl.endsAt l i = E) (h0 : E[0]? = some inn) (hb : Below w.heap.size w w1) (own : w1.ownsRow B 3 1 (.slice (some ⟨g, 0, none⟩) m cap) m (E.map (Value.int .i64))) (hm : 1 < m) (hm3 : m ≤ 3) (hcap : m ≤ cap ∧ cap ≤ maxLen) :
    ThruR l i inn w (.returned (.slice (some ⟨g, 1, none⟩) (m - 1) (cap - 1))) w1 := by
  have hc := Reads.cut (own_IR own) (k := 1) (by omega) hcap.1
  rw [if_neg (by omega), Nat.one_mul, ← List.map_drop] at hc
  refine ⟨_, _, _, rfl, ?_, by omega, by omega, by have := hcap.2; omega, hb⟩
  rw [thru_zero hE h0]
  exact hc
set_option linter.unusedVariables false in
set_option maxRecDepth 100000 in
set_option maxHeartbeats 4000000 in
theorem thru_c (A : Option Addr) (n c : Nat) (l : List PE) (i inn : Int) (w : World) (hn : n ≤ maxLen) (h : PR6 w A n l) (hi1 : -9223372036854775808 ≤ i) (hi2 : i ≤ 9223372036854775807) :
    Calls Tryd.prog 21 #[.slice A n c, .int .i64 i, .int .i64 inn] w (ThruR l i inn w) := by
  have HE := Lib.hid (pends_c A n c l i w hn h hi1 hi2)
  have h3 := endsAt_len l i
  go_enter Tryd.func21, Tryd.ntmps21
  go_wp2_with fail
  refine (HE.out).mono ?_
  rintro e w1 ⟨v, rfl, own, hnil, hb⟩
  obtain ⟨E, hE⟩ : ∃ E, Pl.endsAt l i = E := ⟨_, rfl⟩
  have hno : E.contains inn = false → Pl.thru l i inn = [] := fun h => thru_none (by rw [hE]; exact h)
  rw [hE] at own h3
  obtain ⟨m, hm⟩ : ∃ m, E.length = m := ⟨_, rfl⟩
  rw [hm] at own h3
  obtain ⟨h3, h31⟩ := h3
  have HEe := Lib.hid hE
  have Hm := Lib.hid hm
  have Hno := Lib.hid hno
  obtain ⟨Av, cv, rfl, v1, v2⟩ := own_form own
  clear hE hm hnil h hno
  go_wp2_with fail
  go_loop [15] (fun p => ∃ q : Nat, q ≤ m ∧ p = .int .i64 q ∧ Hid ((E.take q).contains inn = false)) (fun p => m - (intOf p).toNat)
  case atStart => exact ⟨0, by omega, rfl, Lib.hid rfl⟩
  case round =>
    obtain ⟨q, hq, rfl, hct⟩ := hrel
    by_cases hqm : q < m
    · obtain ⟨g, cap', hAe, hg1, hg2⟩ := own.form (by omega)
      obtain ⟨rfl, _, rfl⟩ : Av = some ⟨g, 0, none⟩ ∧ m = m ∧ cv = cap' := by simpa using hAe
      clear hAe
      have hc0 := own_cell own hqm
      have hc1 := own_cell own (show 0 < m by omega)
      obtain ⟨y, hy⟩ : ∃ y, E[q]? = some y := ⟨_, List.getElem?_eq_getElem (by rw [Hm.out]; exact hqm)⟩
      obtain ⟨e0, he0⟩ : ∃ y, E[0]? = some y := ⟨_, List.getElem?_eq_getElem (by rw [Hm.out]; omega)⟩
      rw [List.getD_eq_getElem?_getD, hy, Option.getD_some] at hc0
      rw [List.getD_eq_getElem?_getD, he0, Option.getD_some] at hc1
      have Hy := Lib.hid hy
      have He0 := Lib.hid he0
      clear hy he0
      by_cases hyn : y = inn
      · have dy : (y != inn) = false := by simpa using hyn
        by_cases hq0 : q = 0
        · have d0 : decide (0 < (q : Int)) = false := by simp; omega
          have d0' : decide (0 < q) = false := by simp; omega
          have H0 : Hid (E[0]? = some inn) := Lib.hid (by rw [← hyn, ← Hy.out, hq0])
          have hcv : ¬ cv = 1 := by omega
          have hm1 : (1 : Int) ≤ (m : Int) := by omega
          have hm1' : 1 ≤ m := by omega
          clear hyn hq0
          go_wp2_with fail
          go_ret
          exact ThruR.rest HEe.out H0.out hb own (by omega) h3 ⟨v1, v2⟩
        · have d0 : decide (0 < (q : Int)) = true := by simp; omega
          have d0' : decide (0 < q) = true := by simp; omega
          have hne : e0 ≠ inn := by
            intro e
            have h1 := hct.out
            have hm' : inn ∈ E.take q := List.mem_of_getElem? (i := 0) (by rw [List.getElem?_take_of_lt (by omega), He0.out, e])
            simp [hm'] at h1
          have H1 := Lib.hid (thru_later HEe.out He0.out hne (by rw [← hyn]; simpa using List.mem_of_getElem? Hy.out))
          clear hyn hne
          go_wp2_with fail
          go_ret
          exact ThruR.one H1.out hb rfl rfl
      · have dy : (y != inn) = true := by simpa using hyn
        have Hct : Hid ((E.take (q + 1)).contains inn = false) := Lib.hid (by
          have h1 := hct.out
          rw [List.take_add_one, Hy.out]
          simp only [Option.toList_some, List.contains_eq_mem, List.mem_append, List.mem_singleton, decide_eq_false_iff_not, not_or] at h1 ⊢
          exact ⟨h1, fun e => hyn e.symm⟩)
        go_wp2_with fail
        go_round
        case rel => exact ⟨q + 1, by omega, by go_num, Hct⟩
        case measure => simp [intOf]; omega
    · have Hr : Hid (Pl.thru l i inn = []) := Lib.hid (Hno.out (by
        have h1 := hct.out
        rwa [List.take_of_length_le (by rw [Hm.out]; omega)] at h1))
      go_wp2_with fail
      go_ret
      exact ThruR.nil_ Hr.out hb
end Go.Proofs.YtkkpkekkaoccbaaDoor
