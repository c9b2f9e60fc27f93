/- The walk of 'SectionExact'. -/
import Derived.Test.YtjlfdkkaljlmjaaSecX
import Derived.Test.YtjlfdkkaljlmjaaGenBorders
import Derived.Test.YtjlfdkkaljlmjaaRegion
import Derived.Deep.RegionWith
namespace Go.Proofs.Ytjlfdkkaljlmjaa
open Go.RowKit
def ExA (a0 : Act) (vs : Nat → Value) : Act := ((((((((((a0.put (some 45) (vs 7)).put (some 46) (vs 8)).put (some 47) (vs 9)).put (some 53) (vs 15)).put (some 54) (vs 16)).put (some 55) (vs 17)).put (some 61) (vs 23)).put (some 62) (vs 24)).put (some 63) (vs 25)).put (some 64) (vs 26)).put (some 65) (vs 27)
theorem own_at3 {w : World} {B e n g cap : Nat} {l : List V3} (h : w.ownsRow B e 3 (.slice (some ⟨g, 0, none⟩) n cap) n (flat3 l)) {j : Nat} {p : V3} (hp : l[j]? = some p) :
    w.cell? ⟨g, j * 3, none⟩ = some (.int .i64 p.a) ∧ w.cell? ⟨g, j * 3 + 1, none⟩ = some (.int .i64 p.b) ∧ w.cell? ⟨g, j * 3 + 2, none⟩ = some (.int .i64 p.c) := by
  obtain ⟨h1, h2, h3⟩ := flat3_at l j p hp
  have hl : (flat3 l).length = n * 3 := h.1
  have hb := (List.getElem?_eq_some_iff.1 h3).1
  refine ⟨?_, ?_, ?_⟩
  · rw [h.cellAt _ (by omega)]; exact h1
  · rw [h.cellAt _ (by omega)]; exact h2
  · rw [h.cellAt _ (by omega)]; exact h3
/-- What each operation of the region yields. -/
def ExT (N g j : Nat) (x y z : Int) (k : Nat) (v : Value) (W : World) : Prop :=
  match k with
  | 7 => v = .int .i64 x
  | 8 => SlN W N 3 v [x, -1, 32]
  | 9 => ∃ c : Int, v = .int .i64 c
  | 15 => v = .int .i64 y
  | 16 => SlN W N 3 v [y, -1, 32]
  | 17 => ∃ c : Int, v = .int .i64 c
  | 23 => v = .int .i64 z
  | 24 => SlN W N 3 v [z, 0, 2]
  | 25 => ∃ c : Int, v = .int .i64 c
  | 26 => ∃ a b c : Int, v = .agg #[.int .i64 a, .int .i64 b, .int .i64 c]
  | 27 => v = .pointer (some ⟨g, j * 3, none⟩)
  | _ => True
theorem ExT.st {N g j : Nat} {x y z : Int} {W W' : World} (h : ∀ v l, SlN W N 3 v l → SlN W' N 3 v l) (k : Nat) (v : Value) (hT : ExT N g j x y z k v W) : ExT N g j x y z k v W' := by
  unfold ExT at hT ⊢
  split at hT <;> first | exact hT | exact h _ _ hT
def exPure : List Nat := [0, 1, 2, 3, 4, 5, 6, 10, 11, 12, 13, 14, 18, 19, 20, 21, 22]
structure ExG (w : World) (N c g n cap m : Nat) (v3 : Value) (l p : List V3) (L : Array Bool) (W : World) : Prop where
  pure : ∀ k, k ∈ exPure → L.getD k false = true
  all : L.getD 28 false = true → ∀ k, k < 28 → L.getD k false = true
  last : L.getD 28 false = true → ∃ l', W.ownsRow w.heap.size 24 3 (.slice (some ⟨g, 0, none⟩) n cap) n (flat3 l')
  row : L.getD 28 false = false → W.ownsRow w.heap.size 24 3 (.slice (some ⟨g, 0, none⟩) n cap) n (flat3 l)
  mkr : ∃ c', c' ≤ c + (b2n (L.getD 9 false) + b2n (L.getD 17 false) + b2n (L.getD 25 false)) ∧ Mk w.heap.size W w.heap.size c'
  pr : W.ownsRow w.heap.size 41 3 v3 m (flat3 p)
  bel : Below w.heap.size w W
  sz : N ≤ W.heap.size
/-- An operation that comes up ahead of the store, and what it leaves. -/
theorem ExG.step {w : World} {N c g n cap m : Nat} {v3 : Value} {l p : List V3} {L : Array Bool} {W W' : World} (h : ExG w N c g n cap m v3 l p L W) (i : Nat) (hi : L.getD i false = false) (h28 : i < 28) (hc : i ≠ 9) (hc2 : i ≠ 17) (hc3 : i ≠ 25)
    (hg : ∃ o : Obj, W' = W.alloc o ∨ W' = W) : ExG w N c g n cap m v3 l p (L.setIfInBounds i true) W' := by
  have hL : L.getD 28 false = false := by
    cases hx : L.getD 28 false
    · rfl
    · have := h.all hx i h28; rw [hi] at this; cases this
  have e28 : (L.setIfInBounds i true).getD 28 false = false := by rw [set_other (by omega)]; exact hL
  refine ⟨fun k hk => getD_set_true (h.pure k hk), (fun hx => by rw [e28] at hx; cases hx), (fun hx => by rw [e28] at hx; cases hx), fun _ => ?_, ?_, ?_, ?_, ?_⟩
  · obtain ⟨o, rfl | rfl⟩ := hg
    · exact (h.row hL).alloc _
    · exact h.row hL
  · rw [set_other hc, set_other hc2, set_other hc3]
    obtain ⟨c', h1, h2⟩ := h.mkr
    obtain ⟨o, rfl | rfl⟩ := hg
    · exact ⟨c', h1, h2.alloc _⟩
    · exact ⟨c', h1, h2⟩
  · obtain ⟨o, rfl | rfl⟩ := hg
    · exact h.pr.alloc _
    · exact h.pr
  · obtain ⟨o, rfl | rfl⟩ := hg
    · exact h.bel.alloc h.bel.size _
    · exact h.bel
  · obtain ⟨o, rfl | rfl⟩ := hg
    · have := h.sz; simp; omega
    · exact h.sz
theorem ExG.call {w : World} {N c g n cap m : Nat} {v3 : Value} {l p : List V3} {L : Array Bool} {W W' : World} (h : ExG w N c g n cap m v3 l p L W) (i c' : Nat) (hi : L.getD i false = false) (hsz : i < L.size) (hi3 : i = 9 ∨ i = 17 ∨ i = 25)
    (hc' : c' ≤ c + (b2n (L.getD 9 false) + b2n (L.getD 17 false) + b2n (L.getD 25 false))) (hm0 : Mk w.heap.size W w.heap.size c') (hm : Mk w.heap.size W' w.heap.size (c' + 1)) (hg : W.grownBy W' (some w.heap.size)) : ExG w N c g n cap m v3 l p (L.setIfInBounds i true) W' := by
  have hL : L.getD 28 false = false := by
    cases hx : L.getD 28 false
    · rfl
    · have := h.all hx i (by omega); rw [hi] at this; cases this
  have e28 : (L.setIfInBounds i true).getD 28 false = false := by rw [set_other (by omega)]; exact hL
  refine ⟨fun k hk => getD_set_true (h.pure k hk), (fun hx => by rw [e28] at hx; cases hx), (fun hx => by rw [e28] at hx; cases hx), fun _ => ?_, ⟨c' + 1, ?_, hm⟩, ?_, ?_, Nat.le_trans h.sz hg.size⟩
  · exact (h.row hL).kept hg (.inr (hm0.ne (h.row hL) (by decide)))
  · have hs := set_same hsz
    rcases hi3 with rfl | rfl | rfl
    · rw [hs, set_other (by decide), set_other (by decide), b2n_true]; rw [hi, b2n_false] at hc'; omega
    · rw [hs, set_other (by decide), set_other (by decide), b2n_true]; rw [hi, b2n_false] at hc'; omega
    · rw [hs, set_other (by decide), set_other (by decide), b2n_true]; rw [hi, b2n_false] at hc'; omega
  · exact h.pr.kept hg (.inr (hm0.ne h.pr (by decide)))
  · exact h.bel.trans (grown_below hg h.bel.size (Nat.le_refl _))
theorem flat3_set : ∀ (l : List V3) (j : Nat) (a b c : Int), j < l.length → (((flat3 l).set (j * 3) (.int .i64 a)).set (j * 3 + 1) (.int .i64 b)).set (j * 3 + 2) (.int .i64 c) = flat3 (l.set j ⟨a, b, c⟩) := by
  intro l
  induction l with
  | nil => intro j a b c h; simp at h
  | cons q r ih =>
    intro j a b c h
    have e : flat3 (q :: r) = .int .i64 q.a :: .int .i64 q.b :: .int .i64 q.c :: flat3 r := rfl
    cases j with
    | zero => rfl
    | succ j =>
      rw [e, List.set_cons_succ, show (j + 1) * 3 = j * 3 + 3 by omega]
      have := ih j a b c (by simpa using h)
      simp only [List.set_cons_succ]
      rw [this]
      rfl
theorem own_set3 {w : World} {B e n g cap : Nat} {l : List V3} (h : w.ownsRow B e 3 (.slice (some ⟨g, 0, none⟩) n cap) n (flat3 l)) (j : Nat) (hj : j < n) (a b c : Int) :
    (((w.setCell ⟨g, j * 3, none⟩ (.int .i64 a)).setCell ⟨g, j * 3 + 1, none⟩ (.int .i64 b)).setCell ⟨g, j * 3 + 2, none⟩ (.int .i64 c)).ownsRow B e 3 (.slice (some ⟨g, 0, none⟩) n cap) n (flat3 (l.set j ⟨a, b, c⟩)) := by
  rw [← flat3_set l j a b c (by have := own3_len h; omega)]
  exact (((h.stored (j * 3) (.int .i64 a)).1).stored (j * 3 + 1) (.int .i64 b)).1.stored (j * 3 + 2) (.int .i64 c) |>.1
theorem ExG.store {w : World} {N c g n cap m : Nat} {v3 : Value} {l p : List V3} {L : Array Bool} {W : World} (h : ExG w N c g n cap m v3 l p L W) (hsz : 28 < L.size) (hi : L.getD 28 false = false) (hall : ∀ k, k < 28 → L.getD k false = true)
    {j : Nat} {q : V3} (hp : l[j]? = some q) (a b d : Int) (hgw : g ≠ w.heap.size) :
    ExG w N c g n cap m v3 l p (L.setIfInBounds 28 true) (((W.setCell ⟨g, j * 3, none⟩ (.int .i64 a)).setCell ⟨g, j * 3 + 1, none⟩ (.int .i64 b)).setCell ⟨g, j * 3 + 2, none⟩ (.int .i64 d)) := by
  have hrow := h.row hi
  have hl := own3_len hrow
  have hj : j < n := by have := (List.getElem?_eq_some_iff.1 hp).1; omega
  have h28 := set_same hsz
  have hgr : W.grownBy (((W.setCell ⟨g, j * 3, none⟩ (.int .i64 a)).setCell ⟨g, j * 3 + 1, none⟩ (.int .i64 b)).setCell ⟨g, j * 3 + 2, none⟩ (.int .i64 d)) (some g) := ((World.grownBy_set W g _ _).trans (World.grownBy_set _ g _ _)).trans (World.grownBy_set _ g _ _)
  have hge := own_ge hrow g rfl
  refine ⟨fun k hk => getD_set_true (h.pure k hk), fun _ k hk => getD_set_true (hall k hk), fun _ => ⟨_, own_set3 hrow j hj a b d⟩, (fun hx => by rw [h28] at hx; cases hx), ?_, ?_, ?_, ?_⟩
  · rw [set_other (by decide), set_other (by decide), set_other (by decide)]
    obtain ⟨c', h1, h2⟩ := h.mkr
    exact ⟨c', h1, h2.grown hgr (fun e => hgw (Option.some.inj e)) (fun b e => by cases e; exact hge)⟩
  · refine h.pr.kept hgr ?_
    rcases own_ne_type h.pr hrow (by decide) with ha | ha
    · exact .inl ha
    · exact .inr ha
  · exact h.bel.trans ((Below.refl _ _).grown hgr h.bel.size (fun b e => by cases e; exact hge))
  · exact Nat.le_trans h.sz hgr.size
theorem put_self (a : Act) (t : Nat) : a.put (some t) (a.tmps.getD t undef) = a := by
  have h : a.tmps.setIfInBounds t (a.tmps.getD t undef) = a.tmps := by
    refine Array.ext (by simp) fun i h1 h2 => ?_
    rw [Array.getElem_setIfInBounds h2]
    split
    · rename_i e
      subst e
      rw [Array.getD_eq_getD_getElem?, Array.getElem?_eq_getElem h2]
      rfl
    · rfl
  unfold Act.put
  simp only [h]
theorem ExA_self (a : Act) : ExA a (fun k => a.tmps.getD (k + 38) undef) = a := by
  unfold ExA
  simp only [Nat.reduceAdd, put_self]
theorem pure_only {L : Array Bool} {k : Nat} (hL : (List.range L.size).all (fun k => !(L.getD k false) || exPure.contains k) = true) (hk : L.getD k false = true) : k ∈ exPure := by
  have hlt : k < L.size := by
    rcases Nat.lt_or_ge k L.size with h | h
    · exact h
    · rw [Array.getD_eq_getD_getElem?, Array.getElem?_eq_none h] at hk; simp at hk
  have := List.all_eq_true.1 hL k (List.mem_range.2 hlt)
  rw [hk] at this
  simpa using this
theorem ExT_pure {N g j : Nat} {x y z : Int} {k : Nat} {v : Value} {W : World} (h : k ∈ exPure) : ExT N g j x y z k v W := by
  simp only [exPure, List.mem_cons, List.not_mem_nil, or_false] at h
  rcases h with rfl | rfl | rfl | rfl | rfl | rfl | rfl | rfl | rfl | rfl | rfl | rfl | rfl | rfl | rfl | rfl | rfl <;> exact trivial
set_option linter.unusedVariables false in
theorem ExG.init {w : World} {N c g n cap m : Nat} {v3 : Value} {l p : List V3} {L : Array Bool} {W : World} (h1 : exPure.all (fun k => L.getD k false) = true) (h2 : L.getD 28 false = false) (h9 : L.getD 9 false = false) (h17 : L.getD 17 false = false) (h25 : L.getD 25 false = false)
    (hr : W.ownsRow w.heap.size 24 3 (.slice (some ⟨g, 0, none⟩) n cap) n (flat3 l)) (hm : Mk w.heap.size W w.heap.size c) (hp : W.ownsRow w.heap.size 41 3 v3 m (flat3 p)) (hb : Below w.heap.size w W) (hN : N ≤ W.heap.size := by exact Nat.le_refl _) : ExG w N c g n cap m v3 l p L W :=
  ⟨fun k hk => List.all_eq_true.1 h1 k hk, (fun h => by rw [h2] at h; cases h), (fun h => by rw [h2] at h; cases h), fun _ => hr, ⟨c, by omega, hm⟩, hp, hb, hN⟩
def ExO (w : World) (v : Value) (wr : World) : Prop := ∃ i c : Nat, i ≤ 4 ∧ v = .int .i64 i ∧ c ≤ 200 * i ∧ Mk w.heap.size wr w.heap.size c ∧ Below w.heap.size w wr
set_option linter.unusedVariables false in
set_option maxRecDepth 100000 in
set_option maxHeartbeats 30000000 in
theorem walk_SectionExact (a0 : Option Addr) (len0 cap0 : Nat) (z0 : List Int) (a1 : Option Addr) (len1 cap1 : Nat) (z1 : List V3) (a2 : Option Addr) (len2 cap2 : Nat) (z2 : List V3) (a3 a4 : Int) (w : World)
    (w0 : IsRow .i64 w a0 len0 cap0 z0) (w1 : VR w a1 len1 z1 ∧ len1 ≤ maxLen) (w2 : VR w a2 len2 z2 ∧ len2 ≤ maxLen) (w3 : (Lit.int .i64 a3).wf = true) (w4 : (Lit.int .i64 a4).wf = true) :
    Calls Try.prog 7 #[.slice a0 len0 cap0, .slice a1 len1 cap1, .slice a2 len2 cap2, .int .i64 a3, .int .i64 a4] w fun e w' => e = .returned (.bool true) ∧ Below w.heap.size w w' := by
  obtain ⟨r0, m0, _⟩ := w0.reads
  obtain ⟨r1, m1⟩ := w1
  obtain ⟨r2, m2⟩ := w2
  clear w0
  generalize z0.take len0 = l0 at r0
  go_enter Try.func7, Try.ntmps7
  go_wp2_with fail
  refine (new_c _ _ _ _ _ m0 r0).mono ?_
  rintro e w1 ⟨rfl, hm1, hb1, hz1⟩
  go_wp2_with fail
  go_loopw [12] (fun v wr => ExO w v wr) (fun v _ => 4 - (intOf v).toNat)
  case atStart => exact (show ExO _ _ _ from ⟨0, 0, by omega, rfl, by omega, hm1, hb1⟩)
  case round =>
    obtain ⟨i, c, hi, rfl, hc, hmk, hbr⟩ := hrel
    clear hm1 hb1 hz1
    by_cases hlt : i < 4
    · go_wp2_with fail
      refine (borders_c w.heap.size w.heap.size c 10 wr hmk (by omega) (by omega) hbr.size).mono ?_
      rintro e w2 ⟨v2, l, c2, rfl, own2, hl10, hmB, hc2, hm2, hg2⟩
      have hb2 := hbr.trans (grown_below hg2 hbr.size (Nat.le_refl _))
      go_wp2_with fail
      refine (pulses_c w.heap.size w.heap.size c2 20 w2 hm2 (by omega) (by omega)).mono ?_
      rintro e w3 ⟨v3, p, c3, rfl, own3, hp20, hmP, hc3, hm3, hg3⟩
      have own2a := own2.kept hg3 (.inr (hm2.ne own2 (by decide)))
      have hb3 := hb2.trans (grown_below hg3 hb2.size (Nat.le_refl _))
      have own2b := own_more own2a hbr.size
      have own3b := own_more own3 hb2.size
      clear own2 own2a own3 hm2 hmk hg2 hg3 hb2 hbr hmB hmP
      obtain ⟨n, hn⟩ : ∃ n, l.length = n := ⟨_, rfl⟩
      obtain ⟨m, hm⟩ : ∃ m, p.length = m := ⟨_, rfl⟩
      rw [hn] at own2b hl10
      rw [hm] at own3b hp20
      have Hn := Lib.hid hn
      have Hm := Lib.hid hm
      clear hn hm
      by_cases hsp : i = 2 ∧ 0 < n
      · obtain ⟨hi2, hn0⟩ := hsp
        subst hi2
        have hn0d : decide (0 < (n : Int)) = true := by simp; omega
        obtain ⟨g, cap, rfl, hgw, hcap⟩ := own2b.form hn0
        obtain ⟨A3, d3, rfl, k3, k3'⟩ := own_form own3b
        go_wp2_with fail
        refine (next_c w.heap.size w.heap.size c3 n w3 hm3 (by omega) (by omega) (by omega)).mono ?_
        rintro e w4 ⟨j0, hj0, hj1, rfl, hm4, hg4⟩
        obtain ⟨j, rfl⟩ := Int.eq_ofNat_of_zero_le hj0
        have own2c := own2b.kept hg4 (.inr (hm3.ne own2b (by decide)))
        have own3c := own3b.kept hg4 (.inr (hm3.ne own3b (by decide)))
        have hb4 := hb3.trans (grown_below hg4 hb3.size (Nat.le_refl _))
        have hjn : j < n := by omega
        clear own2b own3b hm3 hg4 hb3 hj0 hj1
        go_wp2_with fail
        -- REGION
        have hjb : (j : Int) < (n : Int) := by omega
        have hlen := own3_len own2c
        obtain ⟨⟨x, y, z⟩, hp⟩ : ∃ q, l[j]? = some q := ⟨l[j], List.getElem?_eq_getElem (by omega)⟩
        have Hp := Lib.hid hp
        clear hp hlen
        refine wp_region_any (by kernel_rfl) ?_
        change wpAny _ _ _ _ _ _ _ (World.drew _)
        refine wpAny_take (i := 0) (v := ?v0) rfl (by kernel_rfl) (by kernel_rfl) (by kernel_rfl) (fun _ _ _ h => h) (Or.inl ⟨by rfl, ?y0⟩) ?_
        case y0 => (intro w; go_simp; with_reducible rfl)
        refine wpAny_take (i := 1) (v := ?v1) rfl (by kernel_rfl) (by kernel_rfl) (by kernel_rfl) (fun _ _ _ h => h) (Or.inl ⟨by rfl, ?y1⟩) ?_
        case y1 => (intro w; go_simp; with_reducible rfl)
        refine wpAny_take (i := 2) (v := ?v2) rfl (by kernel_rfl) (by kernel_rfl) (by kernel_rfl) (fun _ _ _ h => h) (Or.inl ⟨by rfl, ?y2⟩) ?_
        case y2 => (intro w; go_simp; with_reducible rfl)
        refine wpAny_take (i := 3) (v := ?v3) rfl (by kernel_rfl) (by kernel_rfl) (by kernel_rfl) (fun _ _ _ h => h) (Or.inl ⟨by rfl, ?y3⟩) ?_
        case y3 => (intro w; go_simp; with_reducible rfl)
        refine wpAny_take (i := 4) (v := ?v4) rfl (by kernel_rfl) (by kernel_rfl) (by kernel_rfl) (fun _ _ _ h => h) (Or.inl ⟨by rfl, ?y4⟩) ?_
        case y4 => (intro w; go_simp; with_reducible rfl)
        refine wpAny_take (i := 5) (v := ?v5) rfl (by kernel_rfl) (by kernel_rfl) (by kernel_rfl) (fun _ _ _ h => h) (Or.inl ⟨by rfl, ?y5⟩) ?_
        case y5 => (intro w; go_simp; with_reducible rfl)
        refine wpAny_take (i := 6) (v := ?v6) rfl (by kernel_rfl) (by kernel_rfl) (by kernel_rfl) (fun _ _ _ h => h) (Or.inl ⟨by rfl, ?y6⟩) ?_
        case y6 => (intro w; go_simp; with_reducible rfl)
        refine wpAny_take (i := 10) (v := ?v10) rfl (by kernel_rfl) (by kernel_rfl) (by kernel_rfl) (fun _ _ _ h => h) (Or.inl ⟨by rfl, ?y10⟩) ?_
        case y10 => (intro w; go_simp; with_reducible rfl)
        refine wpAny_take (i := 11) (v := ?v11) rfl (by kernel_rfl) (by kernel_rfl) (by kernel_rfl) (fun _ _ _ h => h) (Or.inl ⟨by rfl, ?y11⟩) ?_
        case y11 => (intro w; go_simp; with_reducible rfl)
        refine wpAny_take (i := 12) (v := ?v12) rfl (by kernel_rfl) (by kernel_rfl) (by kernel_rfl) (fun _ _ _ h => h) (Or.inl ⟨by rfl, ?y12⟩) ?_
        case y12 => (intro w; go_simp; with_reducible rfl)
        refine wpAny_take (i := 13) (v := ?v13) rfl (by kernel_rfl) (by kernel_rfl) (by kernel_rfl) (fun _ _ _ h => h) (Or.inl ⟨by rfl, ?y13⟩) ?_
        case y13 => (intro w; go_simp; with_reducible rfl)
        refine wpAny_take (i := 14) (v := ?v14) rfl (by kernel_rfl) (by kernel_rfl) (by kernel_rfl) (fun _ _ _ h => h) (Or.inl ⟨by rfl, ?y14⟩) ?_
        case y14 => (intro w; go_simp; with_reducible rfl)
        refine wpAny_take (i := 18) (v := ?v18) rfl (by kernel_rfl) (by kernel_rfl) (by kernel_rfl) (fun _ _ _ h => h) (Or.inl ⟨by rfl, ?y18⟩) ?_
        case y18 => (intro w; go_simp; with_reducible rfl)
        refine wpAny_take (i := 19) (v := ?v19) rfl (by kernel_rfl) (by kernel_rfl) (by kernel_rfl) (fun _ _ _ h => h) (Or.inl ⟨by rfl, ?y19⟩) ?_
        case y19 => (intro w; go_simp; with_reducible rfl)
        refine wpAny_take (i := 20) (v := ?v20) rfl (by kernel_rfl) (by kernel_rfl) (by kernel_rfl) (fun _ _ _ h => h) (Or.inl ⟨by rfl, ?y20⟩) ?_
        case y20 => (intro w; go_simp; with_reducible rfl)
        refine wpAny_take (i := 21) (v := ?v21) rfl (by kernel_rfl) (by kernel_rfl) (by kernel_rfl) (fun _ _ _ h => h) (Or.inl ⟨by rfl, ?y21⟩) ?_
        case y21 => (intro w; go_simp; with_reducible rfl)
        refine wpAny_take (i := 22) (v := ?v22) rfl (by kernel_rfl) (by kernel_rfl) (by kernel_rfl) (fun _ _ _ h => h) (Or.inl ⟨by rfl, ?y22⟩) ?_
        case y22 => (intro w; go_simp; with_reducible rfl)
        refine with_act (φ := fun a => wpAny _ _ _ _ _ _ a _) ?_
        intro a0 ha0
        simp only [Act.put, List.setIfInBounds_toArray, List.set_cons_zero, List.set_cons_succ, List.getElem_toArray, List.getElem_cons_zero, List.getElem_cons_succ] at ha0
        refine wpAny_inv (by kernel_rfl) (fun L a W => ∃ vs : Nat → Value, a = ExA a0 vs ∧ ExG w w4.heap.size (c3 + 1) g n cap m (.slice A3 m d3) l p L W ∧ ∀ k, L.getD k false = true → ExT w4.heap.size g j x y z k (vs k) W) ?_ ?_ _ _ _ _ (by kernel_rfl) (by decide +kernel) ?_
        · rintro i L a W hi ⟨vs, rfl, hG, hT⟩
          obtain ⟨h0, hsz, hlt'⟩ := ready_at hi
          have hsz' : i < 29 := hsz
          have hnp : i ∉ exPure := fun h => by rw [hG.pure i h] at h0; cases h0
          have hcs : i = 7 ∨ i = 8 ∨ i = 9 ∨ i = 15 ∨ i = 16 ∨ i = 17 ∨ i = 23 ∨ i = 24 ∨ i = 25 ∨ i = 26 ∨ i = 27 ∨ i = 28 := by
            simp only [exPure, List.mem_cons, List.not_mem_nil, or_false, not_or] at hnp
            omega
          have Lnot : ∀ k, L.getD k false = false → k < 28 → L.getD 28 false = false := fun k hk hk2 => by
            cases hx : L.getD 28 false
            · rfl
            · have := hG.all hx k hk2; rw [hk] at this; cases this
          clear hnp hsz hsz'
          rcases hcs with rfl | rfl | rfl | rfl | rfl | rfl | rfl | rfl | rfl | rfl | rfl | rfl
          · refine step_free rfl rfl (fun K' hK => ?_)
            have hc1 := (own_at3 (hG.row (Lnot 7 h0 (by omega))) Hp.out).1
            simp only at hc1
            clear hi Lnot
            have HT := Lib.hid hT
            have HG := Lib.hid hG
            have H0 := Lib.hid h0
            clear hT hG h0
            subst ha0
            unfold ExA
            simp only [Act.put, List.setIfInBounds_toArray, List.set_cons_zero, List.set_cons_succ, List.getElem_toArray, List.getElem_cons_zero, List.getElem_cons_succ]
            go_simp
            refine hK.out _ _ ⟨upd vs 7 (.int .i64 x), ?_, HG.out.step 7 H0.out (by omega) (by omega) (by omega) (by omega) ⟨.cells #[] 0, .inr rfl⟩, T_upd (T := ExT w4.heap.size g j x y z) HT.out (ExT.st (fun _ _ h => h)) (show _ = _ from rfl)⟩
            unfold ExA
            simp only [Act.put, List.setIfInBounds_toArray, List.set_cons_zero, List.set_cons_succ]
            rfl
          · refine step_free rfl rfl (fun K' hK => ?_)
            have e0 : vs 7 = .int .i64 x := hT 7 (ready_dep hi rfl 7 (by kernel_rfl))
            clear hi Lnot
            have HT := Lib.hid hT
            have HG := Lib.hid hG
            have H0 := Lib.hid h0
            clear hT hG h0
            subst ha0
            unfold ExA
            simp only [Act.put, List.setIfInBounds_toArray, List.set_cons_zero, List.set_cons_succ, List.getElem_toArray, List.getElem_cons_zero, List.getElem_cons_succ]
            go_simp
            have hsz := HG.out.sz
            refine hK.out _ _ ⟨upd vs 8 (.slice (some ⟨W.heap.size, 0, none⟩) 3 3), ?_, HG.out.step 8 H0.out (by omega) (by omega) (by omega) (by omega) ⟨_, .inl rfl⟩, T_upd (T := ExT w4.heap.size g j x y z) HT.out (ExT.st (fun _ _ h => h.alloc _)) (show SlN _ _ _ _ _ from ⟨W.heap.size, rfl, hsz, IR.new [x, -1, 32] 3 rfl rfl (by decide)⟩)⟩
            unfold ExA
            simp only [Act.put, List.setIfInBounds_toArray, List.set_cons_zero, List.set_cons_succ]
            rw [← e0]
            rfl
          · refine step_free rfl rfl (fun K' hK => ?_)
            obtain ⟨b, hv, hbN, hIR⟩ : SlN W w4.heap.size 3 (vs 8) [x, -1, 32] := hT 8 (ready_dep hi rfl 8 (by kernel_rfl))
            obtain ⟨c', hc', hmk⟩ := hG.mkr
            have q1 := b2n_le (L.getD 9 false)
            have q2 := b2n_le (L.getD 17 false)
            have q3 := b2n_le (L.getD 25 false)
            have hgw4 := hm4.lt
            have Hpk := Lib.hid (pick_c w.heap.size w.heap.size c' b 3 3 [x, -1, 32] W hmk (by omega) (by omega) (by omega) (by omega) hIR)
            have Hc := Lib.hid hc'
            clear hIR q1 q2 q3 hc'
            clear hi Lnot
            have HT := Lib.hid hT
            have HG := Lib.hid hG
            have H0 := Lib.hid h0
            clear hT hG h0
            subst ha0
            unfold ExA
            simp only [Act.put, List.setIfInBounds_toArray, List.set_cons_zero, List.set_cons_succ, List.getElem_toArray, List.getElem_cons_zero, List.getElem_cons_succ]
            go_simp
            refine (Hpk.out).mono ?_
            rintro e w5 ⟨u, _, rfl, hm5, hg5⟩
            go_simp
            refine hK.out _ _ ⟨upd vs 9 (.int .i64 u), ?_, HG.out.call 9 c' H0.out hlt' (by omega) Hc.out hmk hm5 hg5, T_upd (T := ExT w4.heap.size g j x y z) HT.out (ExT.st (fun _ _ h => h.grown hg5 hgw4)) (show ∃ c : Int, _ from ⟨u, rfl⟩)⟩
            unfold ExA
            simp only [Act.put, List.setIfInBounds_toArray, List.set_cons_zero, List.set_cons_succ]
            rw [← hv]
            rfl
          · refine step_free rfl rfl (fun K' hK => ?_)
            have hc1 := (own_at3 (hG.row (Lnot 15 h0 (by omega))) Hp.out).2.1
            simp only at hc1
            clear hi Lnot
            have HT := Lib.hid hT
            have HG := Lib.hid hG
            have H0 := Lib.hid h0
            clear hT hG h0
            subst ha0
            unfold ExA
            simp only [Act.put, List.setIfInBounds_toArray, List.set_cons_zero, List.set_cons_succ, List.getElem_toArray, List.getElem_cons_zero, List.getElem_cons_succ]
            go_simp
            refine hK.out _ _ ⟨upd vs 15 (.int .i64 y), ?_, HG.out.step 15 H0.out (by omega) (by omega) (by omega) (by omega) ⟨.cells #[] 0, .inr rfl⟩, T_upd (T := ExT w4.heap.size g j x y z) HT.out (ExT.st (fun _ _ h => h)) (show _ = _ from rfl)⟩
            unfold ExA
            simp only [Act.put, List.setIfInBounds_toArray, List.set_cons_zero, List.set_cons_succ]
            rfl
          · refine step_free rfl rfl (fun K' hK => ?_)
            have e0 : vs 15 = .int .i64 y := hT 15 (ready_dep hi rfl 15 (by kernel_rfl))
            clear hi Lnot
            have HT := Lib.hid hT
            have HG := Lib.hid hG
            have H0 := Lib.hid h0
            clear hT hG h0
            subst ha0
            unfold ExA
            simp only [Act.put, List.setIfInBounds_toArray, List.set_cons_zero, List.set_cons_succ, List.getElem_toArray, List.getElem_cons_zero, List.getElem_cons_succ]
            go_simp
            have hsz := HG.out.sz
            refine hK.out _ _ ⟨upd vs 16 (.slice (some ⟨W.heap.size, 0, none⟩) 3 3), ?_, HG.out.step 16 H0.out (by omega) (by omega) (by omega) (by omega) ⟨_, .inl rfl⟩, T_upd (T := ExT w4.heap.size g j x y z) HT.out (ExT.st (fun _ _ h => h.alloc _)) (show SlN _ _ _ _ _ from ⟨W.heap.size, rfl, hsz, IR.new [y, -1, 32] 3 rfl rfl (by decide)⟩)⟩
            unfold ExA
            simp only [Act.put, List.setIfInBounds_toArray, List.set_cons_zero, List.set_cons_succ]
            rw [← e0]
            rfl
          · refine step_free rfl rfl (fun K' hK => ?_)
            obtain ⟨b, hv, hbN, hIR⟩ : SlN W w4.heap.size 3 (vs 16) [y, -1, 32] := hT 16 (ready_dep hi rfl 16 (by kernel_rfl))
            obtain ⟨c', hc', hmk⟩ := hG.mkr
            have q1 := b2n_le (L.getD 9 false)
            have q2 := b2n_le (L.getD 17 false)
            have q3 := b2n_le (L.getD 25 false)
            have hgw4 := hm4.lt
            have Hpk := Lib.hid (pick_c w.heap.size w.heap.size c' b 3 3 [y, -1, 32] W hmk (by omega) (by omega) (by omega) (by omega) hIR)
            have Hc := Lib.hid hc'
            clear hIR q1 q2 q3 hc'
            clear hi Lnot
            have HT := Lib.hid hT
            have HG := Lib.hid hG
            have H0 := Lib.hid h0
            clear hT hG h0
            subst ha0
            unfold ExA
            simp only [Act.put, List.setIfInBounds_toArray, List.set_cons_zero, List.set_cons_succ, List.getElem_toArray, List.getElem_cons_zero, List.getElem_cons_succ]
            go_simp
            refine (Hpk.out).mono ?_
            rintro e w5 ⟨u, _, rfl, hm5, hg5⟩
            go_simp
            refine hK.out _ _ ⟨upd vs 17 (.int .i64 u), ?_, HG.out.call 17 c' H0.out hlt' (by omega) Hc.out hmk hm5 hg5, T_upd (T := ExT w4.heap.size g j x y z) HT.out (ExT.st (fun _ _ h => h.grown hg5 hgw4)) (show ∃ c : Int, _ from ⟨u, rfl⟩)⟩
            unfold ExA
            simp only [Act.put, List.setIfInBounds_toArray, List.set_cons_zero, List.set_cons_succ]
            rw [← hv]
            rfl
          · refine step_free rfl rfl (fun K' hK => ?_)
            have hc1 := (own_at3 (hG.row (Lnot 23 h0 (by omega))) Hp.out).2.2
            simp only at hc1
            clear hi Lnot
            have HT := Lib.hid hT
            have HG := Lib.hid hG
            have H0 := Lib.hid h0
            clear hT hG h0
            subst ha0
            unfold ExA
            simp only [Act.put, List.setIfInBounds_toArray, List.set_cons_zero, List.set_cons_succ, List.getElem_toArray, List.getElem_cons_zero, List.getElem_cons_succ]
            go_simp
            refine hK.out _ _ ⟨upd vs 23 (.int .i64 z), ?_, HG.out.step 23 H0.out (by omega) (by omega) (by omega) (by omega) ⟨.cells #[] 0, .inr rfl⟩, T_upd (T := ExT w4.heap.size g j x y z) HT.out (ExT.st (fun _ _ h => h)) (show _ = _ from rfl)⟩
            unfold ExA
            simp only [Act.put, List.setIfInBounds_toArray, List.set_cons_zero, List.set_cons_succ]
            rfl
          · refine step_free rfl rfl (fun K' hK => ?_)
            have e0 : vs 23 = .int .i64 z := hT 23 (ready_dep hi rfl 23 (by kernel_rfl))
            clear hi Lnot
            have HT := Lib.hid hT
            have HG := Lib.hid hG
            have H0 := Lib.hid h0
            clear hT hG h0
            subst ha0
            unfold ExA
            simp only [Act.put, List.setIfInBounds_toArray, List.set_cons_zero, List.set_cons_succ, List.getElem_toArray, List.getElem_cons_zero, List.getElem_cons_succ]
            go_simp
            have hsz := HG.out.sz
            refine hK.out _ _ ⟨upd vs 24 (.slice (some ⟨W.heap.size, 0, none⟩) 3 3), ?_, HG.out.step 24 H0.out (by omega) (by omega) (by omega) (by omega) ⟨_, .inl rfl⟩, T_upd (T := ExT w4.heap.size g j x y z) HT.out (ExT.st (fun _ _ h => h.alloc _)) (show SlN _ _ _ _ _ from ⟨W.heap.size, rfl, hsz, IR.new [z, 0, 2] 3 rfl rfl (by decide)⟩)⟩
            unfold ExA
            simp only [Act.put, List.setIfInBounds_toArray, List.set_cons_zero, List.set_cons_succ]
            rw [← e0]
            rfl
          · refine step_free rfl rfl (fun K' hK => ?_)
            obtain ⟨b, hv, hbN, hIR⟩ : SlN W w4.heap.size 3 (vs 24) [z, 0, 2] := hT 24 (ready_dep hi rfl 24 (by kernel_rfl))
            obtain ⟨c', hc', hmk⟩ := hG.mkr
            have q1 := b2n_le (L.getD 9 false)
            have q2 := b2n_le (L.getD 17 false)
            have q3 := b2n_le (L.getD 25 false)
            have hgw4 := hm4.lt
            have Hpk := Lib.hid (pick_c w.heap.size w.heap.size c' b 3 3 [z, 0, 2] W hmk (by omega) (by omega) (by omega) (by omega) hIR)
            have Hc := Lib.hid hc'
            clear hIR q1 q2 q3 hc'
            clear hi Lnot
            have HT := Lib.hid hT
            have HG := Lib.hid hG
            have H0 := Lib.hid h0
            clear hT hG h0
            subst ha0
            unfold ExA
            simp only [Act.put, List.setIfInBounds_toArray, List.set_cons_zero, List.set_cons_succ, List.getElem_toArray, List.getElem_cons_zero, List.getElem_cons_succ]
            go_simp
            refine (Hpk.out).mono ?_
            rintro e w5 ⟨u, _, rfl, hm5, hg5⟩
            go_simp
            refine hK.out _ _ ⟨upd vs 25 (.int .i64 u), ?_, HG.out.call 25 c' H0.out hlt' (by omega) Hc.out hmk hm5 hg5, T_upd (T := ExT w4.heap.size g j x y z) HT.out (ExT.st (fun _ _ h => h.grown hg5 hgw4)) (show ∃ c : Int, _ from ⟨u, rfl⟩)⟩
            unfold ExA
            simp only [Act.put, List.setIfInBounds_toArray, List.set_cons_zero, List.set_cons_succ]
            rw [← hv]
            rfl
          · refine step_free rfl rfl (fun K' hK => ?_)
            obtain ⟨y1, e1⟩ : ∃ c : Int, vs 9 = .int .i64 c := hT 9 (ready_dep hi rfl 9 (by kernel_rfl))
            obtain ⟨y2, e2⟩ : ∃ c : Int, vs 17 = .int .i64 c := hT 17 (ready_dep hi rfl 17 (by kernel_rfl))
            obtain ⟨y3, e3⟩ : ∃ c : Int, vs 25 = .int .i64 c := hT 25 (ready_dep hi rfl 25 (by kernel_rfl))
            clear hi Lnot
            have HT := Lib.hid hT
            have HG := Lib.hid hG
            have H0 := Lib.hid h0
            clear hT hG h0
            subst ha0
            unfold ExA
            simp only [Act.put, List.setIfInBounds_toArray, List.set_cons_zero, List.set_cons_succ, List.getElem_toArray, List.getElem_cons_zero, List.getElem_cons_succ]
            go_simp
            refine hK.out _ _ ⟨upd vs 26 (.agg #[.int .i64 y1, .int .i64 y2, .int .i64 y3]), ?_, HG.out.step 26 H0.out (by omega) (by omega) (by omega) (by omega) ⟨.cells #[] 0, .inr rfl⟩, T_upd (T := ExT w4.heap.size g j x y z) HT.out (ExT.st (fun _ _ h => h)) (show ∃ a b c : Int, Value.agg #[.int .i64 y1, .int .i64 y2, .int .i64 y3] = .agg #[.int .i64 a, .int .i64 b, .int .i64 c] from ⟨y1, y2, y3, rfl⟩)⟩
            unfold ExA
            simp only [Act.put, List.setIfInBounds_toArray, List.set_cons_zero, List.set_cons_succ]
            rw [← e1, ← e2, ← e3]
            rfl
          · refine step_free rfl rfl (fun K' hK => ?_)
            clear hi Lnot
            have HT := Lib.hid hT
            have HG := Lib.hid hG
            have H0 := Lib.hid h0
            clear hT hG h0
            subst ha0
            unfold ExA
            simp only [Act.put, List.setIfInBounds_toArray, List.set_cons_zero, List.set_cons_succ, List.getElem_toArray, List.getElem_cons_zero, List.getElem_cons_succ]
            go_simp
            refine hK.out _ _ ⟨upd vs 27 (.pointer (some ⟨g, j * 3, none⟩)), ?_, HG.out.step 27 H0.out (by omega) (by omega) (by omega) (by omega) ⟨.cells #[] 0, .inr rfl⟩, T_upd (T := ExT w4.heap.size g j x y z) HT.out (ExT.st (fun _ _ h => h)) (show _ = _ from rfl)⟩
            unfold ExA
            simp only [Act.put, List.setIfInBounds_toArray, List.set_cons_zero, List.set_cons_succ]
            rfl
          · obtain ⟨y1, y2, y3, e1⟩ : ∃ a b c : Int, vs 26 = .agg #[.int .i64 a, .int .i64 b, .int .i64 c] := hT 26 (ready_dep hi rfl 26 (by kernel_rfl))
            have e2 : vs 27 = .pointer (some ⟨g, j * 3, none⟩) := hT 27 (ready_dep hi rfl 27 (by kernel_rfl))
            have hrow := hG.row h0
            obtain ⟨c1, c2, c3⟩ := own_at3 hrow Hp.out
            have z1 := hrow.frozenAt (j * 3)
            have z2 := hrow.frozenAt (j * 3 + 1)
            have z3 := hrow.frozenAt (j * 3 + 2)
            simp only at c1 c2 c3
            have Hrow := Lib.hid hrow
            have hgw4 : g < w4.heap.size := own_lt own2c g rfl
            have hgw5 : g ≠ w.heap.size := fun e => hm4.ne own2c (by decide) (by rw [e]; rfl)
            obtain ⟨_, o, ho, _⟩ := mem_ready.1 hi
            have ho2 := ho
            simp only [List.getElem?_toArray, List.getElem?_cons_succ, List.getElem?_cons_zero, Option.some.injEq] at ho2
            subst ho2
            have hall := ready_all 28 hi ho (by kernel_rfl)
            have Hall := Lib.hid hall
            refine step_free ho ?_ ?_
            · rfl
            intro K' hK
            clear hrow hall ho
            clear hi Lnot
            have HT := Lib.hid hT
            have HG := Lib.hid hG
            have H0 := Lib.hid h0
            clear hT hG h0
            subst ha0
            unfold ExA
            simp only [Act.put, List.setIfInBounds_toArray, List.set_cons_zero, List.set_cons_succ]
            go_simp
            have hset : ∀ k v, SlN W w4.heap.size 3 k v → SlN (((W.setCell ⟨g, j * 3, none⟩ (.int .i64 y1)).setCell ⟨g, j * 3 + 1, none⟩ (.int .i64 y2)).setCell ⟨g, j * 3 + 2, none⟩ (.int .i64 y3)) w4.heap.size 3 k v := fun k v h => ((h.set _ hgw4).set _ hgw4).set _ hgw4
            refine hK.out _ _ ⟨upd vs 28 undef, ?_, HG.out.store hlt' H0.out Hall.out (Hp.out) y1 y2 y3 hgw5, T_upd (T := ExT w4.heap.size g j x y z) HT.out (ExT.st hset) (show True from trivial)⟩
            unfold ExA
            simp only [Act.put, List.setIfInBounds_toArray, List.set_cons_zero, List.set_cons_succ]
            rw [← e1, ← e2]
            rfl
        · rintro L a W hall ⟨vs, rfl, hG, hT⟩
          have h28 := hall 28 (of_decide_eq_true (by kernel_rfl))
          obtain ⟨lx, ownx⟩ := hG.last h28
          obtain ⟨cx, hcx, mkx⟩ := hG.mkr
          have q1 := b2n_le (L.getD 9 false)
          have q2 := b2n_le (L.getD 17 false)
          have q3 := b2n_le (L.getD 25 false)
          have hcx2 : cx ≤ c3 + 4 := by omega
          have ownp := hG.pr
          have hbx := hG.bel
          clear hG hT hall h28 q1 q2 q3 hcx hm4 own2c own3c hb4
          subst ha0
          unfold ExA
          simp only [Act.put, List.setIfInBounds_toArray, List.set_cons_zero, List.set_cons_succ]
          go_wp2_with fail
          refine (next_c w.heap.size w.heap.size cx n W mkx (by omega) (by omega) (by omega)).mono ?_
          rintro e w9 ⟨q0, hq0, hq1, rfl, hm9, hg9⟩
          obtain ⟨q, rfl⟩ := Int.eq_ofNat_of_zero_le hq0
          have ownx9 := ownx.kept hg9 (.inr (mkx.ne ownx (by decide)))
          have ownp9 := ownp.kept hg9 (.inr (mkx.ne ownp (by decide)))
          have hb9 := hbx.trans (grown_below hg9 hbx.size (Nat.le_refl _))
          have hqn : q < n := by omega
          obtain ⟨⟨xa, xb, xc⟩, hq⟩ : ∃ r, lx[q]? = some r := ⟨_, List.getElem?_eq_getElem (by have := own3_len ownx9; omega)⟩
          obtain ⟨g1, g2, g3⟩ := own_at3 ownx9 hq
          simp only at g1 g2 g3
          clear ownx ownp hg9 mkx hbx hq0 hq1 hq
          by_cases hm0 : 0 < m
          · have hm0d : decide (0 < (m : Int)) = true := by simp; omega
            go_wp2_with (at_builtin; refine wpList_push sl_border rfl (.tmp 66) (.tmp 74) rfl w.heap.size _ _ _ rfl ownx9 1 1 rfl rfl rfl (by simp only [maxLen]; omega) (by omega) hb9.size ?_; intro v10 wx own10 hgr10)
            have ownx : wx.ownsRow w.heap.size 24 3 v10 (n + 1) (flat3 (lx ++ [⟨xa, xb, xc⟩])) := by rw [flat3_snoc]; exact own10
            have ownp := hgr10.keep ownp9 (own_ne_type ownp9 ownx9 (by decide))
            have mkx := hm9.grown hgr10.grown (hm9.ne ownx9 (by decide)) (own_ge ownx9)
            have hbx := hb9.trans (hgr10.below (own_ge ownx9) hb9.size)
            generalize lx ++ [⟨xa, xb, xc⟩] = lx' at ownx
            obtain ⟨nx, hnx⟩ : ∃ nx, n + 1 = nx := ⟨_, rfl⟩
            rw [hnx] at ownx
            obtain ⟨cz, hcz⟩ : ∃ cz, cx + 1 = cz := ⟨_, rfl⟩
            rw [hcz] at mkx
            clear own10 hgr10 ownx9 ownp9 hm9 hb9 g1 g2 g3
            obtain ⟨A5, d5, rfl, k5, k5'⟩ := own_form ownx
            obtain ⟨g3, hA3⟩ : ∃ g3, A3 = some ⟨g3, 0, none⟩ := by
              obtain ⟨g3, cap3, hv, _, _⟩ := ownp.form hm0
              injection hv with hv
              exact ⟨g3, hv⟩
            subst hA3
            have mkd : Mk w.heap.size wx.drew w.heap.size cz := ⟨mkx.ge, mkx.blk⟩
            have ownxd := own_drew ownx
            have ownpd := own_drew ownp
            have hbd : Below w.heap.size w wx.drew := hbx.trans (below_drew' (Below.refl _ _))
            clear mkx ownx ownp hbx
            go_region_with (first
              | (go_at_call 22
                 with_reducible refine (next_c w.heap.size w.heap.size cz (m : Int) _ mkd (by omega) (by omega) (by omega)).mono ?_
                 rintro e wy ⟨i0, hi0, hi1, rfl, mky, hgy⟩
                 obtain ⟨iy, rfl⟩ := Int.eq_ofNat_of_zero_le hi0
                 have ownxy := ownxd.kept hgy (.inr (mkd.ne ownxd (by decide)))
                 have ownpy := ownpd.kept hgy (.inr (mkd.ne ownpd (by decide)))
                 have hby := hbd.trans (grown_below hgy hbd.size (Nat.le_refl _))
                 have hiy : iy < m := by omega
                 obtain ⟨⟨xa', xb', xc'⟩, hq'⟩ : ∃ r, p[iy]? = some r := ⟨_, List.getElem?_eq_getElem (by have := own3_len ownpy; omega)⟩
                 have hcy := (own_at3 ownpy hq').2.1
                 simp only at hcy
                 clear ownxd ownpd hbd hgy hi0)
              | (go_at_call 22
                 with_reducible refine (next_c w.heap.size w.heap.size (cz + 1) 2 _ mky (by omega) (by omega) (by omega)).mono ?_
                 rintro e wz ⟨dz, hz0, hz1, rfl, mkz, hgz⟩
                 have ownxz := ownxy.kept hgz (.inr (mky.ne ownxy (by decide)))
                 have ownpz := ownpy.kept hgz (.inr (mky.ne ownpy (by decide)))
                 have hbz := hby.trans (grown_below hgz hby.size (Nat.le_refl _))
                 have hcz := (own_at3 ownpz hq').2.1
                 simp only at hcz
                 clear ownxy ownpy hby hgz))
            all_goals
              clear hcz hcy hq' mky mkd
              go_wp2_with fail
              refine (pick_c w.heap.size w.heap.size (cz + 1 + 1) wz.heap.size 7 _ [0, 1, 2, 3, 31, 32, -1] _ (mkz.alloc _) (by have := mkz.lt; omega) (by omega) (by omega) (by omega) (IR.new _ 7 rfl rfl (by decide))).mono ?_
              rintro e w6 ⟨sx, _, rfl, hm6, hg6⟩
              have hga6 := (World.grownBy_alloc wz _ (some w.heap.size)).trans hg6
              have ownx6 := ownxz.kept hga6 (.inr (mkz.ne ownxz (by decide)))
              have ownp6 := ownpz.kept hga6 (.inr (mkz.ne ownpz (by decide)))
              have hb6 := hbz.trans (grown_below hga6 hbz.size (Nat.le_refl _))
              clear ownxz ownpz hga6 hg6 mkz hbz
              go_wp2_with fail
              refine (pick_c w.heap.size w.heap.size (cz + 1 + 1 + 1) w6.heap.size 4 _ [_, -1, 0, a4] _ (hm6.alloc _) (by have := hm6.lt; omega) (by omega) (by omega) (by omega) (IR.new _ 4 rfl rfl (by decide))).mono ?_
              rintro e w7 ⟨rx, _, rfl, hm7, hg7⟩
              have hga7 := (World.grownBy_alloc w6 _ (some w.heap.size)).trans hg7
              have ownx7 := ownx6.kept hga7 (.inr (hm6.ne ownx6 (by decide)))
              have ownp7 := ownp6.kept hga7 (.inr (hm6.ne ownp6 (by decide)))
              have hb7 := hb6.trans (grown_below hga7 hb6.size (Nat.le_refl _))
              clear ownx6 ownp6 hga7 hg7 hm6 hb6
              go_wp2_with fail
              refine (exact05_c _ _ _ _ _ _ _ p sx rx _ (by omega) (by omega) (own_VR ownx7) (own_VR ownp7)).mono ?_
              rintro e w8 ⟨rfl, hb8⟩
              have hm8 := hm7.below hb8
              have hb8a := below_step hb7 hb8
              go_wp2_with fail
              go_roundw
              case rel => exact (show ExO _ _ _ from ⟨3, _, by omega, rfl, by omega, hm8, hb8a⟩)
              case measure => simp [intOf] <;> omega
          · have hm0d : decide (0 < (m : Int)) = false := by simp; omega
            have hm0d' : decide (0 < m) = false := by simp; omega
            go_wp2_with (at_builtin; refine wpList_push sl_border rfl (.tmp 66) (.tmp 74) rfl w.heap.size _ _ _ rfl ownx9 1 1 rfl rfl rfl (by simp only [maxLen]; omega) (by omega) hb9.size ?_; intro v10 wx own10 hgr10)
            have ownx : wx.ownsRow w.heap.size 24 3 v10 (n + 1) (flat3 (lx ++ [⟨xa, xb, xc⟩])) := by rw [flat3_snoc]; exact own10
            have ownp := hgr10.keep ownp9 (own_ne_type ownp9 ownx9 (by decide))
            have mkx := hm9.grown hgr10.grown (hm9.ne ownx9 (by decide)) (own_ge ownx9)
            have hbx := hb9.trans (hgr10.below (own_ge ownx9) hb9.size)
            generalize lx ++ [⟨xa, xb, xc⟩] = lx' at ownx
            obtain ⟨nx, hnx⟩ : ∃ nx, n + 1 = nx := ⟨_, rfl⟩
            rw [hnx] at ownx
            obtain ⟨cz, hcz⟩ : ∃ cz, cx + 1 = cz := ⟨_, rfl⟩
            rw [hcz] at mkx
            clear own10 hgr10 ownx9 ownp9 hm9 hb9 g1 g2 g3
            obtain ⟨A5, d5, rfl, k5, k5'⟩ := own_form ownx
            refine (pick_c w.heap.size w.heap.size cz wx.heap.size 7 _ [0, 1, 2, 3, 31, 32, -1] _ (mkx.alloc _) (by have := mkx.lt; omega) (by omega) (by omega) (by omega) (IR.new _ 7 rfl rfl (by decide))).mono ?_
            rintro e w6 ⟨sx, _, rfl, hm6, hg6⟩
            have hga6 := (World.grownBy_alloc wx _ (some w.heap.size)).trans hg6
            have ownx6 := ownx.kept hga6 (.inr (mkx.ne ownx (by decide)))
            have ownp6 := ownp.kept hga6 (.inr (mkx.ne ownp (by decide)))
            have hb6 := hbx.trans (grown_below hga6 hbx.size (Nat.le_refl _))
            clear ownx ownp hga6 hg6 mkx hbx
            go_wp2_with fail
            refine (pick_c w.heap.size w.heap.size (cz + 1) w6.heap.size 4 _ [_, -1, 0, a4] _ (hm6.alloc _) (by have := hm6.lt; omega) (by omega) (by omega) (by omega) (IR.new _ 4 rfl rfl (by decide))).mono ?_
            rintro e w7 ⟨rx, _, rfl, hm7, hg7⟩
            have hga7 := (World.grownBy_alloc w6 _ (some w.heap.size)).trans hg7
            have ownx7 := ownx6.kept hga7 (.inr (hm6.ne ownx6 (by decide)))
            have ownp7 := ownp6.kept hga7 (.inr (hm6.ne ownp6 (by decide)))
            have hb7 := hb6.trans (grown_below hga7 hb6.size (Nat.le_refl _))
            clear ownx6 ownp6 hga7 hg7 hm6 hb6
            go_wp2_with fail
            refine (exact05_c _ _ _ _ _ _ _ p sx rx _ (by omega) (by omega) (own_VR ownx7) (own_VR ownp7)).mono ?_
            rintro e w8 ⟨rfl, hb8⟩
            have hm8 := hm7.below hb8
            have hb8a := below_step hb7 hb8
            go_wp2_with fail
            go_roundw
            case rel => exact (show ExO _ _ _ from ⟨3, _, by omega, rfl, by omega, hm8, hb8a⟩)
            case measure => simp [intOf] <;> omega
        · refine ⟨fun k => a0.tmps.getD (k + 38) undef, (ExA_self a0).symm, ExG.init (by kernel_rfl) (by kernel_rfl) (by kernel_rfl) (by kernel_rfl) (by kernel_rfl) own2c ⟨hm4.ge, hm4.blk⟩ own3c (hb4.trans (below_drew' (Below.refl _ _))), fun k hk => ExT_pure (pure_only (by kernel_rfl) hk)⟩
      · have hcase : ((i : Int) == 2) = false ∨ (((i : Int) == 2) = true ∧ decide (0 < (n : Int)) = false ∧ decide (0 < n) = false) := by
          by_cases h2 : i = 2
          · have h3 : ¬0 < n := fun h => hsp ⟨h2, h⟩
            exact .inr ⟨by simp; omega, by simp; omega, by simp; omega⟩
          · exact .inl (by simp; omega)
        obtain ⟨A3, d3, rfl, k3, k3'⟩ := own_form own3b
        have ownx := own2b
        have ownp := own3b
        have mkx := hm3
        have hbx := hb3
        obtain ⟨wx, hwx⟩ : ∃ wx, w3 = wx := ⟨_, rfl⟩
        subst hwx
        obtain ⟨cx, hcx⟩ : ∃ cx, c3 = cx := ⟨_, rfl⟩
        subst hcx
        obtain ⟨nx, hnx⟩ : ∃ nx, n = nx := ⟨_, rfl⟩
        subst hnx
        clear own2b own3b hm3 hb3 hsp
        obtain ⟨A2, d2, rfl, k2, k2'⟩ := own_form ownx
        rcases hcase with e1 | ⟨e1, e2, e3⟩
        all_goals
          by_cases hm0 : 0 < m
          · have hm0d : decide (0 < (m : Int)) = true := by simp; omega
            go_wp2_with fail
            obtain ⟨g3, hA3⟩ : ∃ g3, A3 = some ⟨g3, 0, none⟩ := by
              obtain ⟨g3, cap3, hv, _, _⟩ := ownp.form hm0
              injection hv with hv
              exact ⟨g3, hv⟩
            subst hA3
            have mkd : Mk w.heap.size w3.drew w.heap.size c3 := ⟨mkx.ge, mkx.blk⟩
            have ownxd := own_drew ownx
            have ownpd := own_drew ownp
            have hbd : Below w.heap.size w w3.drew := hbx.trans (below_drew' (Below.refl _ _))
            clear mkx ownx ownp hbx
            go_region_with (first
              | (go_at_call 22
                 with_reducible refine (next_c w.heap.size w.heap.size c3 (m : Int) _ mkd (by omega) (by omega) (by omega)).mono ?_
                 rintro e wy ⟨i0, hi0, hi1, rfl, mky, hgy⟩
                 obtain ⟨iy, rfl⟩ := Int.eq_ofNat_of_zero_le hi0
                 have ownxy := ownxd.kept hgy (.inr (mkd.ne ownxd (by decide)))
                 have ownpy := ownpd.kept hgy (.inr (mkd.ne ownpd (by decide)))
                 have hby := hbd.trans (grown_below hgy hbd.size (Nat.le_refl _))
                 have hiy : iy < m := by omega
                 obtain ⟨⟨xa', xb', xc'⟩, hq'⟩ : ∃ r, p[iy]? = some r := ⟨_, List.getElem?_eq_getElem (by have := own3_len ownpy; omega)⟩
                 have hcy := (own_at3 ownpy hq').2.1
                 simp only at hcy
                 clear ownxd ownpd hbd hgy hi0)
              | (go_at_call 22
                 with_reducible refine (next_c w.heap.size w.heap.size (c3 + 1) 2 _ mky (by omega) (by omega) (by omega)).mono ?_
                 rintro e wz ⟨dz, hz0, hz1, rfl, mkz, hgz⟩
                 have ownxz := ownxy.kept hgz (.inr (mky.ne ownxy (by decide)))
                 have ownpz := ownpy.kept hgz (.inr (mky.ne ownpy (by decide)))
                 have hbz := hby.trans (grown_below hgz hby.size (Nat.le_refl _))
                 have hcz := (own_at3 ownpz hq').2.1
                 simp only at hcz
                 clear ownxy ownpy hby hgz))
            all_goals
              clear hcz hcy hq' mky mkd
              go_wp2_with fail
              refine (pick_c w.heap.size w.heap.size (c3 + 1 + 1) wz.heap.size 7 _ [0, 1, 2, 3, 31, 32, -1] _ (mkz.alloc _) (by have := mkz.lt; omega) (by omega) (by omega) (by omega) (IR.new _ 7 rfl rfl (by decide))).mono ?_
              rintro e w6 ⟨sx, _, rfl, hm6, hg6⟩
              have hga6 := (World.grownBy_alloc wz _ (some w.heap.size)).trans hg6
              have ownx6 := ownxz.kept hga6 (.inr (mkz.ne ownxz (by decide)))
              have ownp6 := ownpz.kept hga6 (.inr (mkz.ne ownpz (by decide)))
              have hb6 := hbz.trans (grown_below hga6 hbz.size (Nat.le_refl _))
              clear ownxz ownpz hga6 hg6 mkz hbz
              go_wp2_with fail
              refine (pick_c w.heap.size w.heap.size (c3 + 1 + 1 + 1) w6.heap.size 4 _ [_, -1, 0, a4] _ (hm6.alloc _) (by have := hm6.lt; omega) (by omega) (by omega) (by omega) (IR.new _ 4 rfl rfl (by decide))).mono ?_
              rintro e w7 ⟨rx, _, rfl, hm7, hg7⟩
              have hga7 := (World.grownBy_alloc w6 _ (some w.heap.size)).trans hg7
              have ownx7 := ownx6.kept hga7 (.inr (hm6.ne ownx6 (by decide)))
              have ownp7 := ownp6.kept hga7 (.inr (hm6.ne ownp6 (by decide)))
              have hb7 := hb6.trans (grown_below hga7 hb6.size (Nat.le_refl _))
              clear ownx6 ownp6 hga7 hg7 hm6 hb6
              go_wp2_with fail
              refine (exact05_c _ _ _ _ _ _ _ p sx rx _ (by omega) (by omega) (own_VR ownx7) (own_VR ownp7)).mono ?_
              rintro e w8 ⟨rfl, hb8⟩
              have hm8 := hm7.below hb8
              have hb8a := below_step hb7 hb8
              go_wp2_with fail
              go_roundw
              case rel => exact (show ExO _ _ _ from ⟨i + 1, _, by omega, by go_num, by omega, hm8, hb8a⟩)
              case measure => simp [intOf] <;> omega
          · have hm0d : decide (0 < (m : Int)) = false := by simp; omega
            have hm0d' : decide (0 < m) = false := by simp; omega
            go_wp2_with fail
            refine (pick_c w.heap.size w.heap.size c3 w3.heap.size 7 _ [0, 1, 2, 3, 31, 32, -1] _ (mkx.alloc _) (by have := mkx.lt; omega) (by omega) (by omega) (by omega) (IR.new _ 7 rfl rfl (by decide))).mono ?_
            rintro e w6 ⟨sx, _, rfl, hm6, hg6⟩
            have hga6 := (World.grownBy_alloc w3 _ (some w.heap.size)).trans hg6
            have ownx6 := ownx.kept hga6 (.inr (mkx.ne ownx (by decide)))
            have ownp6 := ownp.kept hga6 (.inr (mkx.ne ownp (by decide)))
            have hb6 := hbx.trans (grown_below hga6 hbx.size (Nat.le_refl _))
            clear ownx ownp hga6 hg6 mkx hbx
            go_wp2_with fail
            refine (pick_c w.heap.size w.heap.size (c3 + 1) w6.heap.size 4 _ [_, -1, 0, a4] _ (hm6.alloc _) (by have := hm6.lt; omega) (by omega) (by omega) (by omega) (IR.new _ 4 rfl rfl (by decide))).mono ?_
            rintro e w7 ⟨rx, _, rfl, hm7, hg7⟩
            have hga7 := (World.grownBy_alloc w6 _ (some w.heap.size)).trans hg7
            have ownx7 := ownx6.kept hga7 (.inr (hm6.ne ownx6 (by decide)))
            have ownp7 := ownp6.kept hga7 (.inr (hm6.ne ownp6 (by decide)))
            have hb7 := hb6.trans (grown_below hga7 hb6.size (Nat.le_refl _))
            clear ownx6 ownp6 hga7 hg7 hm6 hb6
            go_wp2_with fail
            refine (exact05_c _ _ _ _ _ _ _ p sx rx _ (by omega) (by omega) (own_VR ownx7) (own_VR ownp7)).mono ?_
            rintro e w8 ⟨rfl, hb8⟩
            have hm8 := hm7.below hb8
            have hb8a := below_step hb7 hb8
            go_wp2_with fail
            go_roundw
            case rel => exact (show ExO _ _ _ from ⟨i + 1, _, by omega, by go_num, by omega, hm8, hb8a⟩)
            case measure => simp [intOf] <;> omega
    · unfold maxLen at m1 m2
      by_cases h1 : 70 < len1
      · have d1 : decide (70 < (len1 : Int)) = true := by simp; omega
        go_wp2_with fail
        go_ret
        exact ⟨rfl, hbr⟩
      · have d1 : decide (70 < (len1 : Int)) = false := by simp; omega
        have d1' : decide (70 < len1) = false := by simp; omega
        by_cases h2 : 70 < len2
        · have d2 : decide (70 < (len2 : Int)) = true := by simp; omega
          go_wp2_with fail
          go_ret
          exact ⟨rfl, hbr⟩
        · have d2 : decide (70 < (len2 : Int)) = false := by simp; omega
          have d2' : decide (70 < len2) = false := by simp; omega
          go_wp2_with fail
          refine (exact05_c _ _ _ _ _ _ z1 z2 a3 a4 _ (by simp only [maxLen]; omega) (by simp only [maxLen]; omega) (r1.below hbr) (r2.below hbr)).mono ?_
          rintro e w8 ⟨rfl, hb8⟩
          go_wp2_with fail
          refine (sane05_c _).mono ?_
          rintro e w9 ⟨rfl, hb9⟩
          go_wp2_with fail
          go_ret
          exact ⟨rfl, below_step (below_step hbr hb8) hb9⟩
end Go.Proofs.Ytjlfdkkaljlmjaa
