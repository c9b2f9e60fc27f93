/- The walks of the reference: Ends, sound. -/
import Derived.Test.YtkkpkekkaoccbaaDoorPlR1
import Derived.Deep.RegionWith
namespace Go.Proofs.YtkkpkekkaoccbaaDoor
open Go.RowKit
def endsN (l : List PE) (i : Int) : List Int := Pl.endsAt l i
theorem endsAt_out {l : List PE} {i : Int} (h : i < 0 ∨ (l.length : Int) ≤ i) : Pl.endsAt l i = [] := by
  unfold Pl.endsAt
  rcases h with h | h
  · rw [if_pos h]
  · rw [if_neg (by omega), List.getElem?_eq_none (by omega)]
theorem endsAt_in {l : List PE} {k : Nat} {x : PE} (h : l[k]? = some x) : Pl.endsAt l (k : Int) = Pl.ends x := by
  unfold Pl.endsAt
  rw [if_neg (by omega), Int.toNat_natCast, h]
def EndsAtR (l : List PE) (i : Int) (w : World) (e : Ending) (w' : World) : Prop := ∃ v, e = .returned v ∧ w'.ownsRow w.heap.size 3 1 v (Pl.endsAt l i).length ((Pl.endsAt l i).map (Value.int .i64)) ∧ (Pl.endsAt l i = [] → v = .slice none 0 0) ∧ Below w.heap.size w w'
theorem EndsAtR.of {l : List PE} {k : Nat} {x : PE} (h : l[k]? = some x) {w : World} {e : Ending} {w' : World} (hE : EndsR x w e w') : EndsAtR l (k : Int) w e w' := by
  unfold EndsAtR
  rw [endsAt_in h]
  exact hE
set_option linter.unusedVariables false in
set_option maxHeartbeats 2000000 in
theorem rends_c (A : Option Addr) (n c : Nat) (l : List PE) (i : Int) (w : World) (hn : n ≤ maxLen) (h : PR6 w A n l) (hi1 : -9223372036854775808 ≤ i) (hi2 : i ≤ 9223372036854775807) :
    Calls Tryd.prog 20 #[.slice A n c, .int .i64 i] w (EndsAtR l i w) := by
  unfold maxLen at hn
  have hl := h.len
  by_cases h1 : i < 0
  · have d1 : decide (i < 0) = true := by simpa using h1
    have He := endsAt_out (l := l) (.inl h1)
    have HE := Lib.hid (show EndsAtR l i w (.returned (.slice none 0 0)) w from ⟨_, rfl, by rw [He]; exact World.ownsRow_nil _ _ _ _, fun _ => rfl, Below.refl _ _⟩)
    clear He
    go_enter Tryd.func20, Tryd.ntmps20
    go_wp2_with fail
    go_ret
    exact HE.out
  · have d1 : decide (i < 0) = false := by simpa using h1
    obtain ⟨k, rfl⟩ := Int.eq_ofNat_of_zero_le (show 0 ≤ i by omega)
    by_cases h2 : n ≤ k
    · have d2 : decide ((n : Int) ≤ (k : Int)) = true := by simp; omega
      have d2' : decide (n ≤ k) = true := by simp; omega
      have He := endsAt_out (l := l) (i := (k : Int)) (.inr (by omega))
      have HE := Lib.hid (show EndsAtR l (k : Int) w (.returned (.slice none 0 0)) w from ⟨_, rfl, by rw [He]; exact World.ownsRow_nil _ _ _ _, fun _ => rfl, Below.refl _ _⟩)
      clear He
      go_enter Tryd.func20, Tryd.ntmps20
      go_wp2_with fail
      go_ret
      exact HE.out
    · have d2 : decide ((n : Int) ≤ (k : Int)) = false := by simp; omega
      have d2' : decide (n ≤ k) = false := by simp; omega
      obtain ⟨ad, ⟨pk, nm, pa, pb, pc, pl⟩, rfl, hba, hp, c0, c1, c2, c3, c4, c5⟩ := h.at_ (i := k) (by omega)
      simp only at c0 c1 c2 c3 c4 c5
      have hkn : (k : Int) < (n : Int) := by omega
      have Hp := Lib.hid hp
      clear hp h
      have hk : pk = 1 ∨ pk = 2 ∨ pk = 3 ∨ (pk ≠ 1 ∧ pk ≠ 2 ∧ pk ≠ 3) := by omega
      rcases hk with hk | hk | hk | hk
      · have e1 : (pk == 1) = true := by simp [hk]
        have Hk := Lib.hid hk
        clear hk
        go_enter Tryd.func20, Tryd.ntmps20
        go_wp2_with fail
        go_region_with fail
        all_goals
          go_wp2_with fail
          go_ret
          exact EndsAtR.of Hp.out (EndsR.two (x := ⟨pk, nm, pa, pb, pc, pl⟩) (w1 := w.drew) (bk := w.heap.size) (.inl Hk.out) (below_drew' (Below.refl _ _)) rfl rfl)
      · have e1 : (pk == 1) = false := by simp [hk]
        have e2 : (pk == 3) = false := by simp [hk]
        have e3 : (pk == 2) = true := by simp [hk]
        have Hk := Lib.hid hk
        clear hk
        go_enter Tryd.func20, Tryd.ntmps20
        go_wp2_with fail
        go_region_with fail
        all_goals
          go_wp2_with fail
          go_ret
          exact EndsAtR.of Hp.out (EndsR.three (x := ⟨pk, nm, pa, pb, pc, pl⟩) (w1 := w.drew) (bk := w.heap.size) Hk.out (below_drew' (Below.refl _ _)) rfl rfl)
      · have e1 : (pk == 1) = false := by simp [hk]
        have e2 : (pk == 3) = true := by simp [hk]
        have Hk := Lib.hid hk
        clear hk
        go_enter Tryd.func20, Tryd.ntmps20
        go_wp2_with fail
        go_region_with fail
        all_goals
          go_wp2_with fail
          go_ret
          exact EndsAtR.of Hp.out (EndsR.two (x := ⟨pk, nm, pa, pb, pc, pl⟩) (w1 := w.drew) (bk := w.heap.size) (.inr Hk.out) (below_drew' (Below.refl _ _)) rfl rfl)
      · have e1 : (pk == 1) = false := by simp [hk]
        have e2 : (pk == 3) = false := by simp [hk]
        have e3 : (pk == 2) = false := by simp [hk]
        have Hk := Lib.hid hk
        clear hk
        go_enter Tryd.func20, Tryd.ntmps20
        go_wp2_with fail
        go_ret
        exact EndsAtR.of Hp.out (EndsR.none_ (x := ⟨pk, nm, pa, pb, pc, pl⟩) Hk.out (Below.refl _ _))
end Go.Proofs.YtkkpkekkaoccbaaDoor
