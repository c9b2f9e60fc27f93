/- The walk of the reference's Valid of a layout. -/
import Derived.Test.YtmjdjcpmkdninaaDoorLyR3
namespace Go.Proofs.YtmjdjcpmkdninaaDoor
open Go.RowKit
def RVa (w : World) (n : Nat) (l : List LE) (vt vi : Value) (wr : World) : Prop := ∃ t : Nat, t ≤ n ∧ vi = .int .i64 (t : Int) ∧ vt = .int .i64 (Ly.tracks (l.take t) : Int) ∧ Hid (Ly.vGo l [] = Ly.vGo (l.drop t) (l.take t)) ∧ Below w.heap.size w wr
def RVb (w : World) (n : Nat) (l : List LE) (vi : Value) (wr : World) : Prop := ∃ t : Nat, t ≤ n ∧ vi = .int .i64 (t : Int) ∧ Hid (Ly.lacks l l 0 = Ly.lacks l (l.drop t) t) ∧ Below w.heap.size w wr
def RVc (n t : Nat) (l : List LE) (vk vj : Value) : Prop := ∃ j : Nat, 1 ≤ j ∧ j ≤ n ∧ vj = .int .i64 (j : Int) ∧ vk = .int .i64 (Ly.kids (l.take j) t : Int)
theorem kids_one (l : List LE) (t : Nat) : Ly.kids (l.take 1) t = 0 := by
  rw [Ly.kids_first]; rfl
set_option linter.unusedVariables false in
set_option maxRecDepth 100000 in
set_option maxHeartbeats 8000000 in
theorem rlvalid_c (A : Option Addr) (n c : Nat) (l : List LE) (w : World) (hn : n ≤ maxLen) (h : LR w A n l) (hs : ∀ x ∈ l, x.nm.size ≤ maxLen) :
    Calls Tryd.prog 39 #[.slice A n c] w fun e w' => e = .returned (.int .i64 (Ly.vErr l)) ∧ Below w.heap.size w w' := by
  have hl := h.len
  unfold maxLen at hn
  by_cases hbig : 128 < n
  · have Hr := Lib.hid (show Ly.vErr l = 3 by rw [Ly.vErr, if_pos (by omega)])
    have d1 : decide ((128 : Int) < (n : Int)) = true := decide_eq_true (by omega)
    have d1' : decide (128 < n) = true := decide_eq_true hbig
    go_enter Tryd.func39, Tryd.ntmps39
    go_wp2_with fail
    go_ret
    exact ⟨retv Hr.out.symm, Below.refl _ _⟩
  have d1 : decide ((128 : Int) < (n : Int)) = false := decide_eq_false (by omega)
  have d1' : decide (128 < n) = false := decide_eq_false hbig
  by_cases hzero : n = 0
  · have hnil : l = [] := List.eq_nil_of_length_eq_zero (by omega)
    have Hr := Lib.hid (show Ly.vErr l = 13 by rw [Ly.vErr, if_neg (by omega), if_pos hnil])
    have dz : ((n : Int) == 0) = true := by simp [hzero]
    clear hzero
    go_enter Tryd.func39, Tryd.ntmps39
    go_wp2_with fail
    go_ret
    exact ⟨retv Hr.out.symm, Below.refl _ _⟩
  have hne : l ≠ [] := List.ne_nil_of_length_pos (by omega)
  have Hr := Lib.hid (show Ly.vErr l = if Ly.vGo l [] ≠ 0 then Ly.vGo l [] else if Ly.lacks l l 0 = true then 13 else if 32 < Ly.tracks l then 3 else 0 by rw [Ly.vErr, if_neg (by omega), if_neg hne])
  have dz : ((n : Int) == 0) = false := by simp; omega
  have hn1 : 1 ≤ n := by omega
  have Hh := Lib.hid h
  have hn6 : n ≤ 1000000 := by omega
  clear h hne hzero
  go_enter Tryd.func39, Tryd.ntmps39
  go_wp2_with fail
  go_loopw [3, 4] (fun vt vi wr => RVa w n l vt vi wr) (fun _ vi _ => n - (intOf vi).toNat)
  case atStart => exact (show RVa _ _ _ _ _ _ from ⟨0, by omega, rfl, rfl, Lib.hid (by simp), Below.refl _ _⟩)
  case round =>
    obtain ⟨t, htn, rfl, rfl, Hgo, hbr⟩ := hrel
    obtain ⟨T, hT⟩ : ∃ T, Ly.tracks (l.take t) = T := ⟨_, rfl⟩
    have hTt : T ≤ t := by rw [← hT]; exact Ly.tracks_le
    have HT := Lib.hid hT
    rw [hT]
    clear hT
    by_cases hlt : t < n
    · have hlti : (t : Int) < (n : Int) := by omega
      obtain ⟨x, hx⟩ : ∃ x, l[t]? = some x := ⟨_, List.getElem?_eq_getElem (by omega)⟩
      have Hx := Lib.hid hx
      have hRr := Hh.out.below hbr
      have HF := Lib.hid (rfits_c A n c t l x wr hn6 hRr hlt hx hs)
      have Hdrop := Lib.hid (Ly.vGo_drop hx)
      have HTk := Lib.hid (Ly.tracks_take hx)
      rw [HT.out] at HTk
      obtain ⟨e0, he0⟩ : ∃ e0, Ly.fitE (l.take t) x = e0 := ⟨_, rfl⟩
      rw [he0] at HF Hdrop
      clear hx he0
      go_wp2_with fail
      refine HF.out.mono ?_
      rintro e w2 ⟨rfl, hb2⟩
      clear HF
      have hbr2 := below_step hbr hb2
      have hR2 := hRr.below hb2
      by_cases he : e0 = 0
      · have de : (e0 != 0) = false := by simp [he]
        have Hgo2 := Lib.hid (Hgo.out.trans (Hdrop.out.trans (if_neg (by simpa using he))))
        obtain ⟨ad, x', hae, _, hx', c0, c1, c2, c3, c4, c5, c6, c7⟩ := hR2.at_ (i := t) hlt
        obtain rfl := Option.some.inj (Hx.out.symm.trans hx')
        subst hae
        clear he hx' hRr
        by_cases k4 : x.k = 4
        · have g4 : (x.k == 4) = true := by simp [k4]
          have HT2 := Lib.hid (HTk.out.trans (by rw [if_pos k4]))
          clear k4
          go_wp2_with fail
          go_roundw
          case rel => exact (show RVa _ _ _ _ _ _ from ⟨t + 1, by omega, by go_num, by rw [HT2.out]; go_num, Hgo2, hbr2⟩)
          case measure => simp [intOf]; omega
        · have g4 : (x.k == 4) = false := by simp [k4]
          have HT2 := Lib.hid (HTk.out.trans (by rw [if_neg k4, Nat.add_zero]))
          clear k4
          go_wp2_with fail
          go_roundw
          case rel => exact (show RVa _ _ _ _ _ _ from ⟨t + 1, by omega, by go_num, by rw [HT2.out], Hgo2, hbr2⟩)
          case measure => simp [intOf]; omega
      · have de : (e0 != 0) = true := by simp [he]
        have HE : Hid (Ly.vErr l = e0) := Lib.hid (by
          have h1 : Ly.vGo l [] = e0 := Hgo.out.trans (Hdrop.out.trans (if_pos he))
          rw [Hr.out, h1, if_pos he])
        clear he
        go_wp2_with fail
        go_ret
        exact ⟨retv HE.out.symm, hbr2⟩
    · obtain rfl : t = n := by omega
      have hta : l.take t = l := List.take_of_length_le (by omega)
      have Hg0 : Hid (Ly.vGo l [] = 0) := Lib.hid (by rw [Hgo.out, List.drop_of_length_le (by omega)]; rfl)
      have HTl : Hid (Ly.tracks l = T) := Lib.hid (by rw [← HT.out, hta])
      clear hta
      go_wp2_with fail
      go_loopw [6] (fun vi wx => RVb w t l vi wx) (fun vi _ => t - (intOf vi).toNat)
      case atStart => exact (show RVb _ _ _ _ _ from ⟨0, by omega, rfl, Lib.hid (by simp), hbr⟩)
      case round =>
        obtain ⟨i, hit, rfl, Hlk, hbi⟩ := hrel
        by_cases hlt2 : i < t
        · have hlti2 : (i : Int) < (t : Int) := by omega
          have hRi := Hh.out.below hbi
          obtain ⟨x, hx⟩ : ∃ x, l[i]? = some x := ⟨_, List.getElem?_eq_getElem (by omega)⟩
          have Hld := Lib.hid (Ly.lacks_drop (l := l) hx)
          obtain ⟨ad, x', hae, _, hx', c0, c1, c2, c3, c4, c5, c6, c7⟩ := hRi.at_ (i := i) hlt2
          obtain rfl := Option.some.inj (hx.symm.trans hx')
          subst hae
          clear hx hx'
          go_wp2_with fail
          go_loopw [7, 8] (fun vk vj wx => RVc t i l vk vj ∧ wx = wr) (fun _ vj _ => t - (intOf vj).toNat)
          case atStart => exact ⟨⟨1, by omega, by omega, rfl, by rw [kids_one]; rfl⟩, rfl⟩
          case round =>
            obtain ⟨⟨j, hj1, hjt, rfl, rfl⟩, rfl⟩ := hrel
            obtain ⟨K, hK⟩ : ∃ K, Ly.kids (l.take j) i = K := ⟨_, rfl⟩
            have hKj : K ≤ j := by rw [← hK]; exact Ly.kids_le_len i
            have HK := Lib.hid hK
            rw [hK]
            clear hK
            by_cases hlt3 : j < t
            · have hlti3 : (j : Int) < (t : Int) := by omega
              obtain ⟨ad', z, hae', _, hz, z0, z1, z2, z3, z4, z5, z6, z7⟩ := hRi.at_ (i := j) hlt3
              obtain rfl := Option.some.inj hae'
              have HKt := Lib.hid (Ly.kids_take hz hj1 i)
              rw [HK.out] at HKt
              clear hz hae'
              by_cases hzp : z.p = (i : Int)
              · have u1 : (z.p == (i : Int)) = true := by simp [hzp]
                have HK2 := Lib.hid (HKt.out.trans (by rw [if_pos hzp]))
                clear hzp
                go_wp2_with fail
                go_roundw
                case rel => exact ⟨⟨j + 1, by omega, by omega, by go_num, by rw [HK2.out]; go_num⟩, trivial⟩
                case measure => simp [intOf]; omega
              · have u1 : (z.p == (i : Int)) = false := by simp [hzp]
                have HK2 := Lib.hid (HKt.out.trans (by rw [if_neg hzp, Nat.add_zero]))
                clear hzp
                go_wp2_with fail
                go_roundw
                case rel => exact ⟨⟨j + 1, by omega, by omega, by go_num, by rw [HK2.out]⟩, trivial⟩
                case measure => simp [intOf]; omega
            · obtain rfl : j = t := by omega
              have hkl : Hid (Ly.kids l i = K) := Lib.hid (by rw [← HK.out, List.take_of_length_le (by omega)])
              have HLk := Lib.hid (Hlk.out.trans Hld.out)
              rw [hkl.out] at HLk
              by_cases k3 : x.k = 3
              · have g3 : (x.k == 3) = true := by simp [k3]
                have hw : Ly.want x.k = 2 := by unfold Ly.want; rw [if_pos k3]
                rw [hw] at HLk
                clear k3 hw
                by_cases hK2 : K < 2
                · have f1 : decide ((K : Int) < 2) = true := decide_eq_true (by omega)
                  have f1' : decide (K < 2) = true := decide_eq_true hK2
                  have HE : Hid (Ly.vErr l = 13) := Lib.hid (by rw [Hr.out, Hg0.out, if_neg (by decide), HLk.out, f1']; rfl)
                  go_wp2_with fail
                  go_ret
                  exact ⟨retv HE.out.symm, hbi⟩
                · have f1 : decide ((K : Int) < 2) = false := decide_eq_false (by omega)
                  have f1' : decide (K < 2) = false := decide_eq_false hK2
                  have HL2 := Lib.hid (HLk.out.trans (by rw [f1', Bool.false_or]))
                  go_wp2_with fail
                  go_roundw
                  case rel => exact (show RVb _ _ _ _ _ from ⟨i + 1, by omega, by go_num, HL2, hbi⟩)
                  case measure => simp [intOf]; omega
              · have g3 : (x.k == 3) = false := by simp [k3]
                by_cases k4 : x.k = 4
                · have g4 : (x.k == 4) = true := by simp [k4]
                  have hw : Ly.want x.k = 0 := by unfold Ly.want; rw [if_neg k3, if_pos k4]
                  rw [hw] at HLk
                  clear k3 k4 hw
                  have f1 : decide ((K : Int) < 0) = false := decide_eq_false (by omega)
                  have HL2 := Lib.hid (HLk.out.trans (by rw [decide_eq_false (Nat.not_lt_zero K), Bool.false_or]))
                  go_wp2_with fail
                  go_roundw
                  case rel => exact (show RVb _ _ _ _ _ from ⟨i + 1, by omega, by go_num, HL2, hbi⟩)
                  case measure => simp [intOf]; omega
                · have g4 : (x.k == 4) = false := by simp [k4]
                  have hw : Ly.want x.k = 1 := by unfold Ly.want; rw [if_neg k3, if_neg k4]
                  rw [hw] at HLk
                  clear k3 k4 hw
                  by_cases hK2 : K < 1
                  · have f1 : decide ((K : Int) < 1) = true := decide_eq_true (by omega)
                    have f1' : decide (K < 1) = true := decide_eq_true hK2
                    have HE : Hid (Ly.vErr l = 13) := Lib.hid (by rw [Hr.out, Hg0.out, if_neg (by decide), HLk.out, f1']; rfl)
                    go_wp2_with fail
                    go_ret
                    exact ⟨retv HE.out.symm, hbi⟩
                  · have f1 : decide ((K : Int) < 1) = false := decide_eq_false (by omega)
                    have f1' : decide (K < 1) = false := decide_eq_false hK2
                    have HL2 := Lib.hid (HLk.out.trans (by rw [f1', Bool.false_or]))
                    go_wp2_with fail
                    go_roundw
                    case rel => exact (show RVb _ _ _ _ _ from ⟨i + 1, by omega, by go_num, HL2, hbi⟩)
                    case measure => simp [intOf]; omega
        · obtain rfl : i = t := by omega
          have HLn : Hid (Ly.lacks l l 0 = false) := Lib.hid (by rw [Hlk.out, List.drop_of_length_le (by omega)]; rfl)
          by_cases h32 : 32 < T
          · have f1 : decide ((32 : Int) < (T : Int)) = true := decide_eq_true (by omega)
            have f1' : decide (32 < T) = true := decide_eq_true h32
            have HE : Hid (Ly.vErr l = 3) := Lib.hid (by rw [Hr.out, Hg0.out, if_neg (by decide), HLn.out, if_neg (by decide), HTl.out, if_pos h32])
            go_wp2_with fail
            go_ret
            exact ⟨retv HE.out.symm, hbi⟩
          · have f1 : decide ((32 : Int) < (T : Int)) = false := decide_eq_false (by omega)
            have f1' : decide (32 < T) = false := decide_eq_false h32
            have HE : Hid (Ly.vErr l = 0) := Lib.hid (by rw [Hr.out, Hg0.out, if_neg (by decide), HLn.out, if_neg (by decide), HTl.out, if_neg h32])
            go_wp2_with fail
            go_ret
            exact ⟨retv HE.out.symm, hbi⟩
end Go.Proofs.YtmjdjcpmkdninaaDoor
