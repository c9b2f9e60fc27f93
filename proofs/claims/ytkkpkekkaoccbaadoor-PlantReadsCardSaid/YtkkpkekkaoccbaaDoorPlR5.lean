/- The walks of the reference's Neighbour and Through, and of yardgen's SamePlants. -/
import Derived.Test.YtkkpkekkaoccbaaDoorPlW6
import Derived.Test.YtkkpkekkaoccbaaDoorGen1
import Derived.Test.YtkkpkekkaoccbaaDoorV2
import Derived.Laws.StructEq
namespace Go.Proofs.YtkkpkekkaoccbaaDoor
open Go.RowKit
set_option maxHeartbeats 1000000 in
theorem same_c (A B : Option Addr) (n m c d : Nat) (l : List PE) (w : World) (hn : n ≤ maxLen) (ha : PR6 w A n l) (hb : PR6 w B m l) :
    Calls Tryd.prog 15 #[.slice A n c, .slice B m d] w fun e w' => e = .returned (.bool true) ∧ Below w.heap.size w w' := by
  unfold maxLen at hn
  obtain rfl : m = n := by rw [← ha.len, ← hb.len]
  go_enter Tryd.func15, Tryd.ntmps15
  go_wp2_with fail
  go_loopw [5] (fun p wr => ∃ k : Nat, k ≤ m ∧ p = .int .i64 k ∧ Below w.heap.size w wr) (fun p _ => m - (intOf p).toNat)
  case atStart => exact ⟨0, by omega, rfl, Below.refl _ _⟩
  case round =>
    obtain ⟨k, hk, rfl, hbr⟩ := hrel
    by_cases hlt : k < m
    · obtain ⟨ad, p, rfl, _, hp, c0, c1, c2, c3, c4, c5⟩ := (ha.below hbr).at_ hlt
      obtain ⟨bd, q, rfl, _, hq, d0, d1, d2, d3, d4, d5⟩ := (hb.below hbr).at_ hlt
      obtain rfl := Option.some.inj (hp.symm.trans hq)
      clear hp hq
      obtain ⟨pk, nm, pa, pb, pc, pl⟩ := p
      simp only at *
      go_wp2_with fail
      go_quiet (fail)
      go_wp2_with fail
      go_roundw
      case rel => exact ⟨k + 1, by omega, by go_num, below_drewN hbr _⟩
      case measure => simp [intOf]; omega
    · go_wp2_with fail
      go_ret
      exact ⟨rfl, hbr⟩
theorem has_v (A : Option Addr) (n c : Nat) (l : List Int) (y : Int) (w : World) (hn : n ≤ maxLen) (h : IR .i64 w A n l) (b : Bool) (hb : hasB l y = b) :
    Calls Tryd.prog 48 #[.slice A n c, .int .i64 y] w fun e w' => e = .returned (.bool b) ∧ w = w' := by
  subst hb
  exact has_c A n c l y w hn h
set_option maxRecDepth 100000 in
set_option maxHeartbeats 4000000 in
theorem rnb_c (A : Option Addr) (n c : Nat) (l : List PE) (i node : Int) (w : World) (hn : n ≤ maxLen) (h : PR6 w A n l) :
    Calls Tryd.prog 36 #[.slice A n c, .int .i64 i, .int .i64 node] w fun e w' => e = .returned (.int .i64 (Pl.nb l i node)) ∧ Below w.heap.size w w' := by
  have hmx := hn
  unfold maxLen at hn
  have hl := h.len
  have Hh := Lib.hid h
  clear h
  go_enter Tryd.func36, Tryd.ntmps36
  go_wp2_with fail
  go_loopw [7] (fun p wr => ∃ t : Nat, t ≤ n ∧ p = .int .i64 t ∧ Hid (Pl.nb l i node = Pl.nbGo i node (l.drop t) t) ∧ Below w.heap.size w wr) (fun p _ => n - (intOf p).toNat)
  case atStart => exact ⟨0, by omega, rfl, Lib.hid rfl, Below.refl _ _⟩
  case round =>
    obtain ⟨t, ht, rfl, hnb, hbr⟩ := hrel
    by_cases hlt : t < n
    · obtain ⟨x, hx⟩ : ∃ x, l[t]? = some x := ⟨_, List.getElem?_eq_getElem (by omega)⟩
      have Hst := Lib.hid (hnb.out.trans (nbGo_step hx))
      have Hx := Lib.hid hx
      clear hx hnb
      by_cases hti : (t : Int) = i
      · have dt : ((t : Int) != i) = false := by simpa using hti
        have Hnx : Hid (Pl.nb l i node = Pl.nbGo i node (l.drop (t + 1)) (t + 1)) := Lib.hid (by rw [Hst.out, if_neg (fun h => h.1 hti)])
        clear hti
        go_wp2_with fail
        go_roundw
        case rel => exact ⟨t + 1, by omega, by go_num, Hnx, hbr⟩
        case measure => simp [intOf]; omega
      · have dt : ((t : Int) != i) = true := by simpa using hti
        have Hti := Lib.hid hti
        clear hti
        go_wp2_with fail
        refine (rends_c A n c l (t : Int) wr hmx (Hh.out.below hbr) (by omega) (by omega)).mono ?_
        rintro e w1 ⟨v, rfl, own, hnil, hb⟩
        rw [endsAt_in Hx.out] at own
        have hbr1 := below_step hbr hb
        have hE3 := Pl.ends_len x
        obtain ⟨m, hm⟩ : ∃ m, (Pl.ends x).length = m := ⟨_, rfl⟩
        rw [hm] at own hE3
        obtain ⟨Av, cv, rfl, v1, v2⟩ := own_form own
        clear hm hnil hb hbr
        by_cases hh : hasB (Pl.ends x) node = true
        · have Hr : Hid (Pl.nb l i node = (t : Int)) := Lib.hid (by rw [Hst.out, if_pos ⟨Hti.out, hh⟩])
          have Hc := Lib.hid (has_v Av m cv (Pl.ends x) node w1 (by omega) (own_IR own) true hh)
          clear hh
          go_wp2_with fail
          refine (Hc.out).mono ?_
          rintro e w2 ⟨rfl, rfl⟩
          go_wp2_with fail
          go_ret
          exact ⟨retv Hr.out.symm, hbr1⟩
        · have hf : hasB (Pl.ends x) node = false := by simpa using hh
          have Hnx : Hid (Pl.nb l i node = Pl.nbGo i node (l.drop (t + 1)) (t + 1)) := Lib.hid (by rw [Hst.out, if_neg (fun h => hh h.2)])
          have Hc := Lib.hid (has_v Av m cv (Pl.ends x) node w1 (by omega) (own_IR own) false hf)
          clear hh hf
          go_wp2_with fail
          refine (Hc.out).mono ?_
          rintro e w2 ⟨rfl, rfl⟩
          go_wp2_with fail
          go_roundw
          case rel => exact ⟨t + 1, by omega, by go_num, Hnx, hbr1⟩
          case measure => simp [intOf]; omega
    · have Hr : Hid (Pl.nb l i node = -1) := Lib.hid (by rw [hnb.out, List.drop_of_length_le (by omega)]; rfl)
      go_wp2_with fail
      go_ret
      exact ⟨retv Hr.out.symm, hbr⟩
theorem ThruR.of_own {l : List PE} {i inn : Int} {w w1 : World} {B n : Nat} {v : Value} {L : List Int} (hL : Pl.thru l i inn = L) (own : w1.ownsRow B 3 1 v n (L.map (Value.int .i64))) (hn : n ≤ 3) (hb : Below w.heap.size w w1) : ThruR l i inn w (.returned v) w1 := by
  obtain ⟨A, cp, rfl, h1, h2⟩ := own_form own
  exact ⟨A, n, cp, rfl, by rw [hL]; exact own_IR own, hn, h1, h2, hb⟩
set_option linter.unusedVariables false in
set_option maxRecDepth 100000 in
set_option maxHeartbeats 4000000 in
theorem rthru_c (A : Option Addr) (n c : Nat) (l : List PE) (i inn : Int) (w : World) (hn : n ≤ maxLen) (h : PR6 w A n l) (hi1 : -9223372036854775808 ≤ i) (hi2 : i ≤ 9223372036854775807) :
    Calls Tryd.prog 37 #[.slice A n c, .int .i64 i, .int .i64 inn] w (ThruR l i inn w) := by
  have HE := Lib.hid (rends_c A n c l i w hn h hi1 hi2)
  have h3 := endsAt_len l i
  go_enter Tryd.func37, Tryd.ntmps37
  go_wp2_with fail
  refine (HE.out).mono ?_
  rintro e w1 ⟨v, rfl, own, hnil, hb⟩
  obtain ⟨E, hE⟩ : ∃ E, Pl.endsAt l i = E := ⟨_, rfl⟩
  have hno : E.contains inn = false → Pl.thru l i inn = [] := fun h => thru_none (by rw [hE]; exact h)
  rw [hE] at own h3
  obtain ⟨m, hm⟩ : ∃ m, E.length = m := ⟨_, rfl⟩
  rw [hm] at own h3
  obtain ⟨h3, h31⟩ := h3
  have HEe := Lib.hid hE
  have Hm := Lib.hid hm
  obtain ⟨Av, cv, rfl, v1, v2⟩ := own_form own
  clear hE hm hnil h
  by_cases hh : hasB E inn = true
  · have Hc := Lib.hid (has_v Av m cv E inn w1 (by omega) (own_IR own) true hh)
    have hm0 : 0 < m := by
      rcases Nat.eq_zero_or_pos m with h0 | h0
      · have : E = [] := List.eq_nil_of_length_eq_zero (by rw [Hm.out, h0])
        rw [this] at hh
        cases hh
      · exact h0
    obtain ⟨g, cap', hAe, hg1, hg2⟩ := own.form hm0
    obtain ⟨rfl, _, rfl⟩ : Av = some ⟨g, 0, none⟩ ∧ m = m ∧ cv = cap' := by simpa using hAe
    clear hAe
    have hc1 := own_cell own hm0
    obtain ⟨e0, he0⟩ : ∃ y, E[0]? = some y := ⟨_, List.getElem?_eq_getElem (by rw [Hm.out]; omega)⟩
    rw [List.getD_eq_getElem?_getD, he0, Option.getD_some] at hc1
    have Hh := Lib.hid hh
    have He0 := Lib.hid he0
    clear hno hh he0
    by_cases hyn : e0 = inn
    · have dy : (e0 == inn) = true := by simpa using hyn
      have H0 : Hid (E[0]? = some inn) := Lib.hid (by rw [← hyn]; exact He0.out)
      have hcv : ¬ cv = 1 := by omega
      have hm1 : (1 : Int) ≤ (m : Int) := by omega
      have hm1' : 1 ≤ m := by omega
      have hL := Lib.hid (thru_zero HEe.out H0.out)
      have hcut := Reads.cut (own_IR own) (k := 1) (by omega) v1
      rw [if_neg hcv, Nat.one_mul, ← List.map_drop] at hcut
      have hcut' : Reads w1 w1.heap.size 1 (some ⟨g, 1, none⟩) (m - 1) ((E.drop 1).map (Value.int .i64)) := hcut
      clear hyn hcut
      go_wp2_with (first
        | (at_builtin
           go_must (
           refine wpList_cat sl_int rfl (.tmp 22) (.tmp 24) rfl w.heap.size _ 0 [] rfl (World.ownsRow_lit w1 #[] 0 hb.size (by simp [maxLen]) rfl) _ (some ⟨g, 1, none⟩) (m - 1) (cv - 1) _ rfl (hcut'.alloc (Nat.le_refl _) _) (one_ints _ _) (by simp only [maxLen]; omega) (by omega) (by simp; have := hb.size; omega) ?_
           intro v4 w4 own4 hgr4
           have hb4 := (hb.alloc hb.size _).trans (hgr4.below (own_ge (World.ownsRow_lit (e := 3) (size := 1) w1 #[] 0 hb.size (by simp [maxLen]) rfl)) (by simp; have := hb.size; omega))))
        | (go_at_call 48; refine (Hc.out).mono ?_; rintro e w2 ⟨rfl, rfl⟩))
      go_ret
      exact ThruR.of_own hL.out (by simpa using own4) (by omega) hb4
    · have dy : (e0 == inn) = false := by simpa using hyn
      have H1 := Lib.hid (thru_later HEe.out He0.out hyn Hh.out)
      clear hyn
      go_wp2_with (go_at_call 48; refine (Hc.out).mono ?_; rintro e w2 ⟨rfl, rfl⟩)
      go_ret
      exact ThruR.one H1.out hb rfl rfl
  · have hf : hasB E inn = false := by simpa using hh
    have Hc := Lib.hid (has_v Av m cv E inn w1 (by omega) (own_IR own) false hf)
    have Hr := Lib.hid (hno hf)
    clear hno hh hf
    go_wp2_with (go_at_call 48; refine (Hc.out).mono ?_; rintro e w2 ⟨rfl, rfl⟩)
    go_ret
    exact ThruR.nil_ Hr.out hb
end Go.Proofs.YtkkpkekkaoccbaaDoor
