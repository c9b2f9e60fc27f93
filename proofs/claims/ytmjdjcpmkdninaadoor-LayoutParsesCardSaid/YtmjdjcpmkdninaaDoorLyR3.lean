/- The walk of the reference's fits. -/
import Derived.Test.YtmjdjcpmkdninaaDoorLyR2
import Derived.Test.YtmjdjcpmkdninaaDoorLyW3
import Derived.Test.YtmjdjcpmkdninaaDoorLyP1
namespace Go.Proofs.YtmjdjcpmkdninaaDoor
open Go.RowKit
namespace Ly
variable {l : List LE}
theorem named_none {t : Nat} {s : ByteArray} (h : ∀ j y, j < t → l[j]? = some y → y.nm ≠ s) : named (l.take t) s = false := by
  unfold named
  rw [List.any_eq_false]
  intro y hy
  obtain ⟨j, hj⟩ := List.mem_iff_getElem?.1 hy
  rw [List.getElem?_take] at hj
  split at hj
  · rename_i hlt
    simpa using h j y hlt hj
  · cases hj
theorem named_hit {t j : Nat} {y : LE} (hj : j < t) (hy : l[j]? = some y) : named (l.take t) y.nm = true := by
  unfold named
  rw [List.any_eq_true]
  exact ⟨y, List.mem_of_getElem? (i := j) (by rw [List.getElem?_take_of_lt hj]; exact hy), by simp⟩
theorem taken_none {t : Nat} {p sd : Int} (h : ∀ j y, 1 ≤ j → j < t → l[j]? = some y → ¬ (y.p = p ∧ y.sd = sd)) : taken (l.take t) p sd = false := by
  unfold taken
  rw [List.any_eq_false]
  intro y hy
  obtain ⟨j, hj⟩ := List.mem_iff_getElem?.1 hy
  rw [List.getElem?_drop, List.getElem?_take] at hj
  split at hj
  · rename_i hlt
    have := h (1 + j) y (by omega) hlt hj
    simpa using this
  · cases hj
theorem taken_hit {t j : Nat} {y : LE} (h1 : 1 ≤ j) (hj : j < t) (hy : l[j]? = some y) : taken (l.take t) y.p y.sd = true := by
  unfold taken
  rw [List.any_eq_true]
  refine ⟨y, List.mem_iff_getElem?.2 ⟨j - 1, ?_⟩, by simp⟩
  rw [List.getElem?_drop, List.getElem?_take, if_pos (by omega), show 1 + (j - 1) = j by omega]
  exact hy
end Ly
theorem cell_al {w : World} {a : Addr} {u : Value} (h : w.cell? a = some u) (o : Obj) : (w.alloc o).cell? a = some u := cell_alloc h o
def FtA (w : World) (t : Nat) (l : List LE) (x : LE) (vi : Value) (wr : World) : Prop := ∃ j : Nat, j ≤ t ∧ vi = .int .i64 (j : Int) ∧ Hid (∀ i y, i < j → l[i]? = some y → y.nm ≠ x.nm) ∧ Blk wr w.heap.size 48 #[.int .i64 x.k, .string x.nm, .int .i64 x.p, .int .i64 x.sd, .int .i64 x.len, .int .i64 x.g, .int .i64 x.c, .int .i64 x.pw] ∧ Below w.heap.size w wr
def FtB (w : World) (t : Nat) (l : List LE) (x : LE) (vi : Value) (wr : World) : Prop := ∃ j : Nat, 1 ≤ j ∧ j ≤ t ∧ vi = .int .i64 (j : Int) ∧ Hid (∀ i y, 1 ≤ i → i < j → l[i]? = some y → ¬ (y.p = x.p ∧ y.sd = x.sd)) ∧ Blk wr w.heap.size 48 #[.int .i64 x.k, .string x.nm, .int .i64 x.p, .int .i64 x.sd, .int .i64 x.len, .int .i64 x.g, .int .i64 x.c, .int .i64 x.pw] ∧ Below w.heap.size w wr
def FitR (w : World) (e0 : Int) (e : Ending) (w' : World) : Prop := e = .returned (.int .i64 e0) ∧ Below w.heap.size w w'
set_option linter.unusedVariables false in
set_option maxRecDepth 100000 in
set_option maxHeartbeats 8000000 in
theorem rfits_c (A : Option Addr) (n c t : Nat) (l : List LE) (x : LE) (w : World) (hn : n ≤ 1000000) (h : LR w A n l) (ht : t < n) (hx : l[t]? = some x) (hs : ∀ x ∈ l, x.nm.size ≤ maxLen) :
    Calls Tryd.prog 49 #[.slice A n c, .int .i64 (t : Int)] w (FitR w (Ly.fitE (l.take t) x)) := by
  have hll := h.len
  have htl : t < l.length := by omega
  have Hh := Lib.hid h
  obtain ⟨ad, x', hae, hab, hx', x0, x1, x2, x3, x4, x5, x6, x7⟩ := h.at_ ht
  obtain rfl := Option.some.inj (hx.symm.trans hx')
  have hti : (t : Int) < (n : Int) := by omega
  have hxs := hs x (List.mem_of_getElem? hx)
  obtain ⟨sb, hsb⟩ : ∃ sb, Ly.sound x = sb := ⟨_, rfl⟩
  have Hs := Lib.hid (fun (W : World) => (rlsound_c x.k x.nm x.p x.sd x.len x.g x.c x.pw W hxs).mono (R' := fun e w' => e = .returned (.bool sb) ∧ Below W.heap.size W w') (fun e w' h => ⟨h.1.trans (congrArg (fun b => Ending.returned (Value.bool b)) hsb), h.2⟩))
  have HF1 := Lib.hid (fun h => Ly.fit_1 (l := l) (t := t) (x := x) htl h)
  have HF8 := Lib.hid (fun a b d => Ly.fit_8 (l := l) (t := t) (x := x) htl a b d)
  have HF0 := Lib.hid (fun a b d e => Ly.fit_first (l := l) (t := t) (x := x) htl a b d e)
  have HF12 := Lib.hid (fun a b d e f => Ly.fit_12 (l := l) (t := t) (x := x) htl a b d e f)
  have HF17 := Lib.hid (fun a b d e f g => Ly.fit_17 (l := l) (t := t) (x := x) htl a b d e f g)
  have HFok := Lib.hid (fun a b d e f g => Ly.fit_ok (l := l) (t := t) (x := x) htl a b d e f g)
  have Hsb := Lib.hid hsb
  have hX := Blk.new w 48 #[.int .i64 x.k, .string x.nm, .int .i64 x.p, .int .i64 x.sd, .int .i64 x.len, .int .i64 x.g, .int .i64 x.c, .int .i64 x.pw]
  have hbX : Below w.heap.size w (w.alloc (.cells #[.int .i64 x.k, .string x.nm, .int .i64 x.p, .int .i64 x.sd, .int .i64 x.len, .int .i64 x.g, .int .i64 x.c, .int .i64 x.pw] 48)) := (Below.refl _ _).alloc (Nat.le_refl _) _
  subst hae
  clear h hx hx' hsb
  go_enter Tryd.func49, Tryd.ntmps49
  go_wp2_with fail
  refine (Hs.out _).mono ?_
  rintro e w1 ⟨rfl, hb1⟩
  have hX1 := hX.below hb1 hX.lt
  have hbw1 := hbX.trans (hb1.mono (by simp))
  clear hX hbX hb1 Hs
  have y0 : w1.cell? ⟨w.heap.size, 0, none⟩ = some (.int .i64 x.k) := hX1.cell 0
  have y1 : w1.cell? ⟨w.heap.size, 1, none⟩ = some (.string x.nm) := hX1.cell 1
  have y2 : w1.cell? ⟨w.heap.size, 2, none⟩ = some (.int .i64 x.p) := hX1.cell 2
  have y3 : w1.cell? ⟨w.heap.size, 3, none⟩ = some (.int .i64 x.sd) := hX1.cell 3
  have y4 : w1.cell? ⟨w.heap.size, 4, none⟩ = some (.int .i64 x.len) := hX1.cell 4
  have y5 : w1.cell? ⟨w.heap.size, 5, none⟩ = some (.int .i64 x.g) := hX1.cell 5
  have y6 : w1.cell? ⟨w.heap.size, 6, none⟩ = some (.int .i64 x.c) := hX1.cell 6
  have y7 : w1.cell? ⟨w.heap.size, 7, none⟩ = some (.int .i64 x.pw) := hX1.cell 7
  cases sb
  case false =>
    have HR := Lib.hid (HF1.out (.inl Hsb.out))
    go_wp2_with fail
    go_ret
    exact (show FitR _ _ _ _ from ⟨retv HR.out.symm, hbw1⟩)
  case true =>
    by_cases hk0 : x.k = 0
    · have e1 : (x.k == 0) = true := by simp [hk0]
      by_cases ht0 : t = 0
      · have e2 : ((t : Int) == 0) = true := by simp [ht0]
        have HN : Hid (Ly.named (l.take t) x.nm = false) := Lib.hid (by rw [ht0]; rfl)
        have HR := Lib.hid (HF0.out Hsb.out ⟨fun _ => ht0, fun _ => hk0⟩ HN.out ht0)
        have htz : ¬ ((0 : Int) < (t : Int)) := by omega
        have htz2 : decide ((0 : Int) < (t : Int)) = false := decide_eq_false htz
        have htz3 : decide (0 < t) = false := decide_eq_false (by omega)
        go_wp2_with fail
        go_loopw [6] (fun vi wr => FtA w t l x vi wr) (fun vi _ => t + 1 - (intOf vi).toNat)
        case atStart => exact (show FtA _ _ _ _ _ _ from ⟨0, by omega, rfl, Lib.hid (fun i y h => by omega), hX1, hbw1⟩)
        case round =>
          obtain ⟨j, hj, rfl, _, _, hbr⟩ := hrel
          obtain rfl : j = 0 := by omega
          go_wp2_with fail
          go_ret
          exact (show FitR _ _ _ _ from ⟨retv HR.out.symm, hbr⟩)
      · have e2 : ((t : Int) == 0) = false := by simp [ht0]
        have HR := Lib.hid (HF1.out (.inr (fun h => ht0 (h.1 hk0))))
        go_wp2_with fail
        go_ret
        exact (show FitR _ _ _ _ from ⟨retv HR.out.symm, hbw1⟩)
    have e1 : (x.k == 0) = false := by simp [hk0]
    by_cases ht0 : t = 0
    · have e2 : ((t : Int) == 0) = true := by simp [ht0]
      have HR := Lib.hid (HF1.out (.inr (fun h => hk0 (h.2 ht0))))
      go_wp2_with fail
      go_ret
      exact (show FitR _ _ _ _ from ⟨retv HR.out.symm, hbw1⟩)
    have e2 : ((t : Int) == 0) = false := by simp [ht0]
    have Hkt : Hid (x.k = 0 ↔ t = 0) := Lib.hid ⟨fun h => absurd h hk0, fun h => absurd h ht0⟩
    have Ht0 := Lib.hid ht0
    have ht1 : 1 ≤ t := by omega
    clear hk0 ht0
    go_wp2_with fail
    go_loopw [6] (fun vi wr => FtA w t l x vi wr) (fun vi _ => t - (intOf vi).toNat)
    case atStart => exact (show FtA _ _ _ _ _ _ from ⟨0, by omega, rfl, Lib.hid (fun i y h => by omega), hX1, hbw1⟩)
    case round =>
      obtain ⟨j, hj, rfl, HN, hXj, hbr⟩ := hrel
      clear hX1 hbw1 y0 y1 y2 y3 y4 y5 y6 y7
      have y0 : wr.cell? ⟨w.heap.size, 0, none⟩ = some (.int .i64 x.k) := hXj.cell 0
      have y1 : wr.cell? ⟨w.heap.size, 1, none⟩ = some (.string x.nm) := hXj.cell 1
      have y2 : wr.cell? ⟨w.heap.size, 2, none⟩ = some (.int .i64 x.p) := hXj.cell 2
      have y3 : wr.cell? ⟨w.heap.size, 3, none⟩ = some (.int .i64 x.sd) := hXj.cell 3
      have y4 : wr.cell? ⟨w.heap.size, 4, none⟩ = some (.int .i64 x.len) := hXj.cell 4
      have y5 : wr.cell? ⟨w.heap.size, 5, none⟩ = some (.int .i64 x.g) := hXj.cell 5
      have y6 : wr.cell? ⟨w.heap.size, 6, none⟩ = some (.int .i64 x.c) := hXj.cell 6
      have y7 : wr.cell? ⟨w.heap.size, 7, none⟩ = some (.int .i64 x.pw) := hXj.cell 7
      by_cases hlt : j < t
      · have hlti : (j : Int) < (t : Int) := by omega
        have hlni : (j : Int) < (n : Int) := by omega
        obtain ⟨ad', y, hae', _, hy, c0, c1, c2, c3, c4, c5, c6, c7⟩ := (Hh.out.below hbr).at_ (i := j) (by omega)
        obtain rfl := Option.some.inj hae'
        by_cases hnm : y.nm = x.nm
        · have d : (y.nm.toList == x.nm.toList) = true := by rw [hnm]; simp
          have HR := Lib.hid (HF8.out Hsb.out Hkt.out (by rw [← hnm]; exact Ly.named_hit hlt hy))
          clear hnm hy hae'
          go_wp2_with fail
          go_quiet (fail)
          go_wp2_with fail
          go_ret
          exact (show FitR _ _ _ _ from ⟨retv HR.out.symm, below_drewN hbr _⟩)
        · have d : (y.nm.toList == x.nm.toList) = false := by rw [str_eq]; exact decide_eq_false (fun e => hnm (Ly.nm_ext e))
          have HN' : Hid (∀ i z, i < j + 1 → l[i]? = some z → z.nm ≠ x.nm) := Lib.hid (fun i z hi hz => by
            rcases Nat.lt_or_ge i j with h | h
            · exact HN.out i z h hz
            · obtain rfl : i = j := by omega
              obtain rfl := Option.some.inj (hy.symm.trans hz)
              exact hnm)
          clear hnm hy hae'
          go_wp2_with fail
          go_quiet (fail)
          go_wp2_with fail
          go_roundw
          case rel => exact (show FtA _ _ _ _ _ _ from ⟨j + 1, by omega, by go_num, HN', hXj.drewN _, below_drewN hbr _⟩)
          case measure => simp [intOf]; omega
      · obtain rfl : j = t := by omega
        have HNn := Lib.hid (Ly.named_none HN.out)
        by_cases hr1 : x.p < 0
        · have f1 : decide (x.p < 0) = true := decide_eq_true hr1
          have HR := Lib.hid (HF12.out Hsb.out Hkt.out HNn.out Ht0.out (.inl hr1))
          go_wp2_with fail
          go_ret
          exact (show FitR _ _ _ _ from ⟨retv HR.out.symm, hbr⟩)
        have f1 : decide (x.p < 0) = false := decide_eq_false hr1
        by_cases hr2 : (j : Int) ≤ x.p
        · have f2 : decide ((j : Int) ≤ x.p) = true := decide_eq_true hr2
          have HR := Lib.hid (HF12.out Hsb.out Hkt.out HNn.out Ht0.out (.inr hr2))
          go_wp2_with fail
          go_ret
          exact (show FitR _ _ _ _ from ⟨retv HR.out.symm, hbr⟩)
        have f2 : decide ((j : Int) ≤ x.p) = false := decide_eq_false hr2
        have hp0 : 0 ≤ x.p := by omega
        have hp1 : x.p < (n : Int) := by omega
        have Hrg : Hid (0 ≤ x.p ∧ x.p < (j : Int)) := Lib.hid ⟨by omega, by omega⟩
        obtain ⟨ad', y, hae', _, hy, c0, c1, c2, c3, c4, c5, c6, c7⟩ := (Hh.out.below hbr).at_ (i := x.p.toNat) (by omega)
        obtain rfl := Option.some.inj hae'
        have Hky : Hid (Ly.kAt (l.take j) x.p = y.k) := Lib.hid (by
          have := Ly.kAt_take (t := j) (p := x.p.toNat) (by omega) hy
          rwa [Int.toNat_of_nonneg hp0] at this)
        clear hy hae' hr1 hr2 hlt
        by_cases k4 : y.k = 4
        · have g4 : (y.k == 4) = true := by simp [k4]
          have HR := Lib.hid (HF17.out Hsb.out Hkt.out HNn.out Ht0.out Hrg.out (.inl (by rw [Hky.out]; exact k4)))
          clear k4
          go_wp2_with fail
          go_ret
          exact (show FitR _ _ _ _ from ⟨retv HR.out.symm, hbr⟩)
        have g4 : (y.k == 4) = false := by simp [k4]
        by_cases k3 : y.k = 3 ↔ x.sd = 0
        · have HR := Lib.hid (HF17.out Hsb.out Hkt.out HNn.out Ht0.out Hrg.out (.inr (.inl (by rw [Hky.out]; exact k3))))
          by_cases hs0 : x.sd = 0
          · have g3 : (y.k == 3) = true := by simp [k3.2 hs0]
            have g0 : (x.sd == 0) = true := by simp [hs0]
            clear k3 k4 hs0
            go_wp2_with fail
            go_ret
            exact (show FitR _ _ _ _ from ⟨retv HR.out.symm, hbr⟩)
          · have g3 : (y.k == 3) = false := beq_eq_false_iff_ne.2 (fun h => hs0 (k3.1 h))
            have g0 : (x.sd == 0) = false := by simp [hs0]
            clear k3 k4 hs0
            go_wp2_with fail
            go_ret
            exact (show FitR _ _ _ _ from ⟨retv HR.out.symm, hbr⟩)
        have g3 : ((y.k == 3) == (x.sd == 0)) = false := by
          by_cases h3 : y.k = 3 <;> by_cases h0 : x.sd = 0 <;> simp [h3, h0] at k3 ⊢
        have HK4 := Lib.hid k4
        have HK3 := Lib.hid k3
        clear k3 k4
        go_wp2_with fail
        go_loopw [8] (fun vi wr => FtB w j l x vi wr) (fun vi _ => j - (intOf vi).toNat)
        case atStart => exact (show FtB _ _ _ _ _ _ from ⟨1, by omega, ht1, rfl, Lib.hid (fun i y h1 h => by omega), hXj, hbr⟩)
        case round =>
          obtain ⟨i, hi1, hij, rfl, HB, hXi, hbi⟩ := hrel
          clear hXj hbr c0 c1 c2 c3 c4 c5 c6 c7 y0 y1 y2 y3 y4 y5 y6 y7
          have y0 : wr.cell? ⟨w.heap.size, 0, none⟩ = some (.int .i64 x.k) := hXi.cell 0
          have y1 : wr.cell? ⟨w.heap.size, 1, none⟩ = some (.string x.nm) := hXi.cell 1
          have y2 : wr.cell? ⟨w.heap.size, 2, none⟩ = some (.int .i64 x.p) := hXi.cell 2
          have y3 : wr.cell? ⟨w.heap.size, 3, none⟩ = some (.int .i64 x.sd) := hXi.cell 3
          have y4 : wr.cell? ⟨w.heap.size, 4, none⟩ = some (.int .i64 x.len) := hXi.cell 4
          have y5 : wr.cell? ⟨w.heap.size, 5, none⟩ = some (.int .i64 x.g) := hXi.cell 5
          have y6 : wr.cell? ⟨w.heap.size, 6, none⟩ = some (.int .i64 x.c) := hXi.cell 6
          have y7 : wr.cell? ⟨w.heap.size, 7, none⟩ = some (.int .i64 x.pw) := hXi.cell 7
          by_cases hlt : i < j
          · have hlti : (i : Int) < (j : Int) := by omega
            have hlni : (i : Int) < (n : Int) := by omega
            obtain ⟨ad', z, hae', _, hz, c0, c1, c2, c3, c4, c5, c6, c7⟩ := (Hh.out.below hbi).at_ (i := i) (by omega)
            obtain rfl := Option.some.inj hae'
            by_cases hzz : z.p = x.p ∧ z.sd = x.sd
            · have u1 : (z.p == x.p) = true := by simp [hzz.1]
              have u2 : (z.sd == x.sd) = true := by simp [hzz.2]
              have HR := Lib.hid (HF17.out Hsb.out Hkt.out HNn.out Ht0.out Hrg.out (.inr (.inr (by rw [← hzz.1, ← hzz.2]; exact Ly.taken_hit hi1 hlt hz))))
              clear hzz hz hae'
              go_wp2_with fail
              go_quiet (fail)
              go_wp2_with fail
              go_ret
              exact (show FitR _ _ _ _ from ⟨retv HR.out.symm, below_drewN hbi _⟩)
            · have HB' : Hid (∀ a y, 1 ≤ a → a < i + 1 → l[a]? = some y → ¬ (y.p = x.p ∧ y.sd = x.sd)) := Lib.hid (fun a y h1 ha hy => by
                rcases Nat.lt_or_ge a i with h | h
                · exact HB.out a y h1 h hy
                · obtain rfl : a = i := by omega
                  obtain rfl := Option.some.inj (hz.symm.trans hy)
                  exact hzz)
              by_cases hzp : z.p = x.p
              · have u1 : (z.p == x.p) = true := by simp [hzp]
                have u2 : (z.sd == x.sd) = false := beq_eq_false_iff_ne.2 (fun h => hzz ⟨hzp, h⟩)
                clear hzz hz hae' hzp
                go_wp2_with fail
                go_quiet (fail)
                go_wp2_with fail
                go_roundw
                case rel => exact (show FtB _ _ _ _ _ _ from ⟨i + 1, by omega, by omega, by go_num, HB', hXi.drewN _, below_drewN hbi _⟩)
                case measure => simp [intOf]; omega
              · have u1 : (z.p == x.p) = false := by simp [hzp]
                clear hzz hz hae' hzp
                go_wp2_with fail
                go_quiet (fail)
                go_wp2_with fail
                go_roundw
                case rel => exact (show FtB _ _ _ _ _ _ from ⟨i + 1, by omega, by omega, by go_num, HB', hXi.drewN _, below_drewN hbi _⟩)
                case measure => simp [intOf]; omega
          · obtain rfl : i = j := by omega
            have HR := Lib.hid (HFok.out Hsb.out Hkt.out HNn.out Ht0.out Hrg.out (by
              rw [Hky.out]
              rintro (h | h | h)
              · exact HK4.out h
              · exact HK3.out h
              · rw [Ly.taken_none HB.out] at h; cases h))
            go_wp2_with fail
            go_ret
            exact (show FitR _ _ _ _ from ⟨retv HR.out.symm, hbi⟩)
end Go.Proofs.YtmjdjcpmkdninaaDoor
