/- Slices of structs of three integers: reading, appending. -/
import Derived.Test.YtocohkgdkebmdaaGreatAxW1
import Derived.Test.YtocohkgdkebmdaaGreatTlM2
import Derived.Test.YtocohkgdkebmdaaGreatAxMrg
import Derived.Test.YtocohkgdkebmdaaGreatMem
import Derived.Test.YtocohkgdkebmdaaGreatDetPlain
namespace Go.Proofs.YtocohkgdkebmdaaGreat
open Go.RowKit
/-- What Measure needs of two lists of times. -/
structure MeT (m : Nat) (F S D : List Nat) : Prop where
  ld : D.length + 1 = m
  f : ∀ i, i < m → F.getD i 0 ≤ 1000000000
  s : ∀ i, i < m → S.getD i 0 ≤ 1000000000
  fs : ∀ i, i < m → F.getD i 0 < S.getD i 0
  st : ∀ i, i + 1 < m → F.getD i 0 < F.getD (i + 1) 0
  dv : ∀ i, i + 1 < m → (F.getD (i + 1) 0 - F.getD i 0) * 50 / (S.getD i 0 - F.getD i 0) = D.getD i 0
def MeA (m : Nat) (w : World) (v6 v7 p : Value) (wr : World) : Prop := ∃ i : Nat, i ≤ m ∧ v6 = .slice none 0 0 ∧ v7 = .int .i64 0 ∧ p = .int .i64 i ∧ Below w.heap.size w wr
def MeB (m : Nat) (D : List Nat) (w : World) (v p : Value) (wr : World) : Prop := ∃ i : Nat, i + 1 ≤ m ∧ p = .int .i64 i ∧ wr.ownsRow w.heap.size 3 1 v i (ints64 (D.take i)) ∧ Below w.heap.size w wr
def MeR (D : List Nat) (w : World) (e : Ending) (w' : World) : Prop := ∃ v, e = .returned (.tuple #[v, .int .i64 0]) ∧ w'.ownsRow w.heap.size 3 1 v D.length (ints64 D) ∧ Below w.heap.size w w'
theorem quo_of {e g d : Nat} (h : e * 50 / g = d) : ((e : Int) * 50).tdiv (g : Int) = (d : Int) ∧ (e : Int) * 50 / (g : Int) = (d : Int) := by
  have h1 : (e : Int) * 50 / (g : Int) = (d : Int) := by rw [← h]; push_cast; rfl
  exact ⟨by rw [Int.tdiv_eq_ediv_of_nonneg (by omega)]; exact h1, h1⟩
set_option maxRecDepth 100000 in
set_option maxHeartbeats 8000000 in
theorem measure_c (A1 A2 : Option Addr) (m c1 c2 : Nat) (F S D : List Nat) (w : World) (hm : m ≤ 768) (hA : NR w A1 m F) (hB : NR w A2 m S) (hT : MeT m F S D) :
    Calls Tryz.prog 11 #[.slice A1 m c1, .slice A2 m c2, .int .i64 50] w (MeR D w) := by
  have HT := Lib.hid hT
  have hm1 : 1 ≤ m := by have := hT.ld; omega
  have d1 : decide ((768 : Int) < (m : Int)) = false := decide_eq_false (by omega)
  have d1' : decide (768 < m) = false := decide_eq_false (by omega)
  have d2 : ((m : Int) != (m : Int)) = false := by simp
  clear hT
  go_enter Tryz.func11, Tryz.ntmps11
  go_wp2_with fail
  go_loopw [6, 7, 24] (fun v6 v7 p wr => MeA m w v6 v7 p wr) (fun _ _ p _ => m - (intOf p).toNat)
  case atStart => exact (show MeA _ _ _ _ _ _ from ⟨0, Nat.zero_le _, rfl, rfl, rfl, Below.refl _ _⟩)
  case round =>
    obtain ⟨i, hi, rfl, rfl, rfl, hbr0⟩ := hrel
    by_cases hlt : i < m
    · obtain ⟨ad, rfl, _, k1⟩ := codes_at (hA.below hbr0) hlt
      obtain ⟨bd, rfl, _, k2⟩ := codes_at (hB.below hbr0) hlt
      have hf := HT.out.f i hlt
      have hs := HT.out.s i hlt
      have hfs := HT.out.fs i hlt
      unfold Tl.kAt at k1 k2
      obtain ⟨f, hfE⟩ : ∃ f, F.getD i 0 = f := ⟨_, rfl⟩
      obtain ⟨s, hsE⟩ : ∃ s, S.getD i 0 = s := ⟨_, rfl⟩
      rw [hfE] at k1 hf hfs
      rw [hsE] at k2 hs hfs
      have HfE := Lib.hid hfE
      have e1 : decide ((s : Int) ≤ (f : Int)) = false := decide_eq_false (by omega)
      have e1' : decide (s ≤ f) = false := decide_eq_false (by omega)
      have HTf := Lib.hid (fun W => wtime_c (f : Int) W (by omega) (by omega))
      have HTs := Lib.hid (fun W => wtime_c (s : Int) W (by omega) (by omega))
      clear hfE hsE
      rcases Nat.eq_zero_or_pos i with h0 | h0
      · subst h0
        have k1' : wr.cell? ad = some (.int .i64 (f : Int)) := by have := k1; simpa [Addr.add] using this
        have k2' : wr.cell? bd = some (.int .i64 (s : Int)) := by have := k2; simpa [Addr.add] using this
        have hm0 : (0 : Int) < (m : Int) := by omega
        clear k1 k2
        go_wp2_with fail
        go_quiet (first | (go_at_call 29; exact Calls.quiet_of_same (HTf.out _)) | (go_at_call 29; exact Calls.quiet_of_same (HTs.out _)))
        go_wp2_with fail
        go_roundw
        case rel => exact (show MeA _ _ _ _ _ _ from ⟨1, by omega, rfl, rfl, by go_num, below_drewN hbr0 _⟩)
        case measure => simp [intOf]; omega
      · obtain ⟨y, hy⟩ : ∃ y, i = y + 1 := ⟨i - 1, by omega⟩
        obtain ⟨ad', hae, _, k3⟩ := codes_at (hA.below hbr0) (x := y) (by omega)
        obtain rfl := Option.some.inj hae
        have hst := HT.out.st y (by omega)
        unfold Tl.kAt at k3
        rw [← hy, HfE.out] at hst
        obtain ⟨g, hgE⟩ : ∃ g, F.getD y 0 = g := ⟨_, rfl⟩
        rw [hgE] at k3 hst
        have e2 : decide ((0 : Int) < (i : Int)) = true := decide_eq_true (by omega)
        have e2' : decide (0 < i) = true := decide_eq_true (by omega)
        have e3 : decide ((f : Int) ≤ (g : Int)) = false := decide_eq_false (by omega)
        have e3' : decide (f ≤ g) = false := decide_eq_false (by omega)
        have e4 : IntKind.i64.wrap ((i : Int) - 1) = (y : Int) := by rw [show (i : Int) - 1 = (y : Int) by omega]; exact IntWalk.i64_in _ ⟨by omega, by omega⟩
        have e5 : (i : Int) - 1 = (y : Int) := by omega
        have hyz : y < m := by omega
        have hyz' : (y : Int) < (m : Int) := by omega
        have hy0 : (0 : Int) ≤ (y : Int) := by omega
        clear hgE hae hy hst
        go_wp2_with fail
        go_quiet (first | (go_at_call 29; exact Calls.quiet_of_same (HTf.out _)) | (go_at_call 29; exact Calls.quiet_of_same (HTs.out _)))
        go_wp2_with fail
        go_roundw
        case rel => exact (show MeA _ _ _ _ _ _ from ⟨i + 1, by omega, rfl, rfl, by go_num, below_drewN hbr0 _⟩)
        case measure => simp [intOf]; omega
    · obtain rfl : i = m := by omega
      go_wp2_with fail
      go_loopw [9, 10] (fun v p wr => MeB i D w v p wr) (fun _ p _ => i - (intOf p).toNat)
      case atStart => exact (show MeB _ _ _ _ _ _ from ⟨0, by omega, rfl, World.ownsRow_nil _ _ _ _, hbr0⟩)
      case round =>
        obtain ⟨x, hx, rfl, own, hbr⟩ := hrel
        by_cases hlx : x + 1 < i
        · obtain ⟨ad, rfl, _, k1⟩ := codes_at (hA.below hbr) (x := x) (by omega)
          obtain ⟨ad', hae, _, k3⟩ := codes_at (hA.below hbr) hlx
          obtain rfl := Option.some.inj hae
          obtain ⟨bd, rfl, _, k2⟩ := codes_at (hB.below hbr) (x := x) (by omega)
          have hf := HT.out.f (x + 1) (by omega)
          have hs := HT.out.s x (by omega)
          have hfs := HT.out.fs x (by omega)
          have hst := HT.out.st x (by omega)
          have hdv := HT.out.dv x (by omega)
          have hld := HT.out.ld
          have hdsn : D.take (x + 1) = D.take x ++ [D.getD x 0] := by
            rw [List.take_succ_eq_append_getElem (by omega), List.getD_eq_getElem?_getD, List.getElem?_eq_getElem (by omega)]; rfl
          unfold Tl.kAt at k1 k2 k3
          obtain ⟨f0, hf0⟩ : ∃ f, F.getD x 0 = f := ⟨_, rfl⟩
          obtain ⟨f1, hf1⟩ : ∃ f, F.getD (x + 1) 0 = f := ⟨_, rfl⟩
          obtain ⟨s0, hs0⟩ : ∃ f, S.getD x 0 = f := ⟨_, rfl⟩
          obtain ⟨d, hd⟩ : ∃ f, D.getD x 0 = f := ⟨_, rfl⟩
          rw [hf0] at k1 hfs hst hdv
          rw [hf1] at k3 hf hst hdv
          rw [hs0] at k2 hs hfs hdv
          rw [hd] at hdv hdsn
          rw [add_ne _ (by omega)] at k3
          obtain ⟨e, he⟩ : ∃ e, f1 - f0 = e := ⟨_, rfl⟩
          obtain ⟨g, hg⟩ : ∃ g, s0 - f0 = g := ⟨_, rfl⟩
          rw [he, hg] at hdv
          have hdle : d ≤ 50000000000 := by rw [← hdv]; exact Nat.le_trans (Nat.div_le_self _ _) (by omega)
          obtain ⟨hq1, hq2⟩ := quo_of hdv
          have q1 : (f1 : Int) - (f0 : Int) = (e : Int) := by omega
          have q3 : (s0 : Int) - (f0 : Int) = (g : Int) := by omega
          have wE : IntKind.i64.wrap (e : Int) = (e : Int) := IntWalk.i64_in _ ⟨by omega, by omega⟩
          have wM : IntKind.i64.wrap ((e : Int) * 50) = (e : Int) * 50 := IntWalk.i64_in _ ⟨by omega, by omega⟩
          have wG : IntKind.i64.wrap (g : Int) = (g : Int) := IntWalk.i64_in _ ⟨by omega, by omega⟩
          have wD : IntKind.i64.wrap (d : Int) = (d : Int) := IntWalk.i64_in _ ⟨by omega, by omega⟩
          have wX : IntKind.i64.wrap ((x : Int) + 1) = (x : Int) + 1 := IntWalk.i64_in _ ⟨by omega, by omega⟩
          have x1 : ((x : Int) + 1).toNat = x + 1 := by omega
          have x2 : (0 : Int) ≤ (x : Int) + 1 := by omega
          have x3 : (x : Int) + 1 < (i : Int) := by omega
          have x4 : (x : Int) < (i : Int) := by omega
          have x5 : x < i := by omega
          have gne : ((g : Int) == 0) = false := by simp; omega
          have gne2 : ¬ g = 0 := by omega
          have gne3 : (g == 0) = false := by simp; omega
          obtain ⟨Av, cv, rfl, _, _⟩ := own_form own
          have own1d := own_drew own
          have hms : x + 1 ≤ maxLen := by unfold maxLen; omega
          have hms2 : (x + 1) * 8 ≤ 140737488355328 := by omega
          have hBd2 : w.heap.size ≤ wr.drew.heap.size := hbr.size
          have Hdsn := Lib.hid hdsn
          have hbs := Lib.hid hbr
          have hxi : x + 1 + 1 ≤ i := by omega
          clear hf hs hfs hst hdv hld hdsn hf0 hf1 hs0 hd he hg hae hbr0
          go_wp2_with fail
          go_region_law (refine step_pushb sl_int (by rfl) (.tmp 79) (.tmp 102) (by rfl) w.heap.size (.slice Av x cv) x (ints64 (D.take x)) (by rfl) own1d 1 1 wr.drew.heap.size rfl (by rfl) (by rfl) (by rfl) hms hms2 hBd2 ?_
                         intro v' w9 own9 hgr)
          all_goals
            go_wp2_with fail
            go_roundw
            case rel => exact (show MeB _ _ _ _ _ _ from ⟨x + 1, hxi, by go_num, by rw [Hdsn.out]; simpa [ints64] using own9, hbs.out.trans (below_drew' (hgr.below (own_ge own1d) hBd2))⟩)
            case measure => simp [intOf]; omega
        · obtain ⟨rfl⟩ : i = x + 1 := by omega
          have hE : D.take x = D := List.take_of_length_le (by have := HT.out.ld; omega)
          have hL : D.length = x := by have := HT.out.ld; omega
          rw [hE] at own
          have HR : Hid (MeR D w (.returned (.tuple #[_, .int .i64 0])) wr) := Lib.hid ⟨_, rfl, by rw [hL]; exact own, hbr⟩
          clear hE hL own
          go_wp2_with fail
          go_ret2
          exact HR.out
end Go.Proofs.YtocohkgdkebmdaaGreat
namespace Go.Proofs.YtocohkgdkebmdaaGreat
namespace Ax
theorem D_bd {W : List W2} (h : ∀ w ∈ W, Ok w) {i : Nat} (hi : i + 1 < (pos 0 W).length) : 1 ≤ (diffs (pos 0 W)).getD i 0 ∧ (diffs (pos 0 W)).getD i 0 ≤ 4000 := by
  have := (pos_stp W 0 h).get i hi
  rw [diffs_get _ hi]
  omega
theorem D_le {W : List W2} (h : ∀ w ∈ W, Ok w) (i : Nat) : (diffs (pos 0 W)).getD i 0 ≤ 4000 := by
  by_cases hi : i + 1 < (pos 0 W).length
  · exact (D_bd h hi).2
  · rw [List.getD_eq_getElem?_getD, List.getElem?_eq_none (by rw [diffs_len]; omega)]
    exact Nat.zero_le _
theorem pos_one (w : W2) : pos 0 [w] = offs w := by
  rw [pos, pos, List.append_nil]
  simp
theorem pat_bd {w : W2} (h : Ok w) : (pat w).length ≤ 5 ∧ ∀ k, k < (pat w).length → 1 ≤ (pat w).getD k 0 ∧ (pat w).getD k 0 ≤ 10000 := by
  have h1 : (pat w).length = (offs w).length - 1 := diffs_len _
  have h2 := offs_len w
  refine ⟨by omega, fun k hk => ?_⟩
  have h3 := D_bd (W := [w]) (fun x hx => by rw [List.mem_singleton.1 hx]; exact h) (i := k) (by rw [pos_one]; omega)
  rw [pos_one] at h3
  have : pat w = diffs (offs w) := rfl
  rw [this]
  omega
theorem range_at {f : Nat → Nat} {m i : Nat} (h : i < m) : ((List.range m).map f).getD i 0 = f i := by
  rw [List.getD_eq_getElem?_getD, List.getElem?_map, List.getElem?_range h]
  rfl
def tm0 (sp : Nat) (d : List Nat) (m : Nat) : List Nat := (List.range m).map (tms sp d)
def tm1 (sp : Nat) (d : List Nat) (m : Nat) : List Nat := (List.range m).map fun i => tms sp d i + 50 * sp
theorem tm0_snoc (sp : Nat) (d : List Nat) (m : Nat) : tm0 sp d (m + 1) = tm0 sp d m ++ [tms sp d m] := by simp [tm0, List.range_succ]
theorem met {sp m : Nat} {d : List Nat} (h1 : 1 ≤ sp) (h9 : sp ≤ 9) (hm : d.length + 1 = m) (hm2 : m ≤ 768) (hd : ∀ i, d.getD i 0 ≤ 4000) (hd1 : ∀ i, i < d.length → 1 ≤ d.getD i 0) : MeT m (tm0 sp d m) (tm1 sp d m) d := by
  have hb : ∀ i, i < m → tms sp d i ≤ 30000000 := fun i hi => by have := tms_le h9 hd i; omega
  refine ⟨hm, fun i hi => ?_, fun i hi => ?_, fun i hi => ?_, fun i hi => ?_, fun i hi => ?_⟩
  · rw [tm0, range_at hi]; have := hb i hi; omega
  · rw [tm1, range_at hi]; have := hb i hi; omega
  · rw [tm0, tm1, range_at hi, range_at hi]; omega
  · rw [tm0, range_at hi, range_at (by omega)]
    exact tms_lt h1 (hd1 i (by omega))
  · rw [tm0, tm1, range_at hi, range_at (by omega), range_at (by omega)]
    exact measured d h1 i
/-- The times of the first detector among pulses, and of the others. -/
def fst0 (p : List V3) : List Nat := (p.filter fun q => decide (q.a = 0)).map fun q => q.b.toNat
def snd0 (p : List V3) : List Nat := (p.filter fun q => !decide (q.a = 0)).map fun q => q.b.toNat
theorem fst0_of {sp m : Nat} {d : List Nat} {p : List V3} (h : Mrg sp d m m m p) : fst0 p = tm0 sp d m ∧ snd0 p = tm1 sp d m := by
  unfold fst0 snd0 tm0 tm1
  rw [h.f0, h.f1, List.map_map, List.map_map]
  exact ⟨List.map_congr_left fun i _ => by simp, List.map_congr_left fun i _ => by simp only [Function.comp]; omega⟩
theorem fst0_yes {p : List V3} {q : V3} (h : q.a = 0) : fst0 (p ++ [q]) = fst0 p ++ [q.b.toNat] ∧ snd0 (p ++ [q]) = snd0 p := by
  unfold fst0 snd0
  rw [List.filter_append, List.filter_append]
  simp [h]
theorem fst0_no {p : List V3} {q : V3} (h : q.a ≠ 0) : fst0 (p ++ [q]) = fst0 p ∧ snd0 (p ++ [q]) = snd0 p ++ [q.b.toNat] := by
  unfold fst0 snd0
  rw [List.filter_append, List.filter_append]
  simp [h]
theorem fst0_len (p : List V3) : (fst0 p).length ≤ p.length ∧ (snd0 p).length ≤ p.length := by
  unfold fst0 snd0
  rw [List.length_map, List.length_map]
  exact ⟨List.length_filter_le _ _, List.length_filter_le _ _⟩
end Ax
open Go.RowKit
theorem sl_pul : SlT Tryz.prog 31 33 3 24 := slT_of (z := .agg #[.int .i64 0, .int .i64 0, .int .i64 0]) Tryz.underlying31 (by kernel_rfl) rfl (by omega)
/-- A row is put behind a slice of rows. -/
theorem OwnLL.push {w w' : World} {B n : Nat} {eO eI : TypeId} {v v' s : Value} {L : List (List Nat)} {l : List Nat} {vs : List Value} (hne : eI ≠ eO) (h : OwnLL w B eO eI v n L vs) (hs : w.ownsRow B eI 1 s l.length (ints64 l)) (ha : ∀ i, i < n → apart (vs.getD i nilS) s)
    (ho : w'.ownsRow B eO 1 v' (n + 1) (vs ++ [s])) (hg : Grew w v v' w') : OwnLL w' B eO eI v' (n + 1) (L ++ [l]) (vs ++ [s]) := by
  have hvl := h.vlen
  have hll := h.len
  have g1 : ∀ i, i < n → (vs ++ [s]).getD i nilS = vs.getD i nilS := fun i hi => by
    rw [List.getD_eq_getElem?_getD, List.getElem?_append_left (by omega), ← List.getD_eq_getElem?_getD]
  have g2 : (vs ++ [s]).getD n nilS = s := by rw [List.getD_eq_getElem?_getD, List.getElem?_append_right (by omega), hvl]; simp
  have k1 : ∀ i, i < n → (L ++ [l]).getD i [] = L.getD i [] := fun i hi => by
    rw [List.getD_eq_getElem?_getD, List.getElem?_append_left (by omega), ← List.getD_eq_getElem?_getD]
  have k2 : (L ++ [l]).getD n [] = l := by rw [List.getD_eq_getElem?_getD, List.getElem?_append_right (by omega), hll]; simp
  refine ⟨ho, by simp [hll], fun i hi => ?_, fun i j hij hi hj => ?_⟩
  · by_cases e : i = n
    · subst e
      rw [g2, k2]
      exact hg.keep hs (own_ne hs h.outer hne)
    · rw [g1 i (by omega), k1 i (by omega)]
      have := h.inner i (by omega)
      exact hg.keep this (own_ne this h.outer hne)
  · by_cases e : i = n
    · subst e
      rw [g2, g1 j (by omega)]
      exact (ha j (by omega)).symm
    · rw [g1 i (by omega)]
      by_cases e2 : j = n
      · subst e2
        rw [g2]
        exact ha i (by omega)
      · rw [g1 j (by omega)]
        exact h.far i j hij (by omega) (by omega)
theorem OwnLL.none_ {w : World} {B : Nat} {eO eI : TypeId} : OwnLL w B eO eI (.slice none 0 0) 0 [] [] :=
  ⟨World.ownsRow_nil _ _ _ _, rfl, fun _ hi => absurd hi (Nat.not_lt_zero _), fun _ _ _ hi _ => absurd hi (Nat.not_lt_zero _)⟩
end Go.Proofs.YtocohkgdkebmdaaGreat
namespace Go.Proofs.YtocohkgdkebmdaaGreat
open Go.RowKit
def cells3 (p : V3) : List Value := [.int .i64 p.a, .int .i64 p.b, .int .i64 p.c]
def flat3 (l : List V3) : List Value := l.flatMap cells3
theorem flat3_len (l : List V3) : (flat3 l).length = l.length * 3 := by
  induction l with
  | nil => rfl
  | cons p r ih => simp only [flat3, List.flatMap_cons, List.length_append] at *; rw [ih]; simp [cells3]; omega
theorem flat3_append (l m : List V3) : flat3 (l ++ m) = flat3 l ++ flat3 m := by simp [flat3]
theorem flat3_snoc (l : List V3) (p : V3) : flat3 (l ++ [p]) = flat3 l ++ cells3 p := by simp [flat3]
theorem flat3_at (l : List V3) : ∀ (i : Nat) (p : V3), l[i]? = some p → (flat3 l)[i * 3]? = some (.int .i64 p.a) ∧ (flat3 l)[i * 3 + 1]? = some (.int .i64 p.b) ∧ (flat3 l)[i * 3 + 2]? = some (.int .i64 p.c) := by
  induction l with
  | nil => intro i p h; simp at h
  | cons q r ih =>
    intro i p h
    have e : flat3 (q :: r) = .int .i64 q.a :: .int .i64 q.b :: .int .i64 q.c :: flat3 r := rfl
    rw [e]
    cases i with
    | zero => simp at h; subst h; exact ⟨rfl, rfl, rfl⟩
    | succ i =>
      simp only [List.getElem?_cons_succ] at h
      obtain ⟨h1, h2, h3⟩ := ih i p h
      have e1 : (i + 1) * 3 = i * 3 + 3 := by omega
      rw [e1]
      exact ⟨h1, h2, h3⟩
/-- The slice (address A, n structs) reads as l. -/
def VR (w : World) (A : Option Addr) (n : Nat) (l : List V3) : Prop := Reads w w.heap.size 3 A n (flat3 l)
section
variable {w w' : World} {A : Option Addr} {n : Nat} {l : List V3}
theorem VR.len (h : VR w A n l) : l.length = n := by have := h.1; rw [flat3_len] at this; omega
theorem VR.at_ (h : VR w A n l) {i : Nat} (hi : i < n) :
    ∃ ad p, A = some ad ∧ ad.block < w.heap.size ∧ l[i]? = some p ∧ w.cell? (ad.add (i * 3)) = some (.int .i64 p.a) ∧ w.cell? ⟨(ad.add (i * 3)).block, (ad.add (i * 3)).off + 1, none⟩ = some (.int .i64 p.b) ∧ w.cell? ⟨(ad.add (i * 3)).block, (ad.add (i * 3)).off + 2, none⟩ = some (.int .i64 p.c) := by
  have hl := h.len
  obtain ⟨ad, e, hb, hc⟩ := h.2 (by omega)
  have hp : l[i]? = some l[i] := List.getElem?_eq_getElem (by omega)
  obtain ⟨h1, h2, h3⟩ := flat3_at l i _ hp
  have e1 := hc _ _ h2
  have e2 := hc _ _ h3
  rw [← add_of_add] at e1 e2
  exact ⟨ad, _, e, hb, hp, hc _ _ h1, by simpa [Addr.add] using e1, by simpa [Addr.add] using e2⟩
theorem VR.below (h : VR w A n l) (hb : Below w.heap.size w w') : VR w' A n l := (Reads.below h hb).more hb.size
theorem VR.take (h : VR w A n l) {g : Nat} (hg : g ≤ n) : VR w A g (l.take g) := by
  have hl := h.len
  refine ⟨by rw [flat3_len, List.length_take]; omega, fun hg0 => ?_⟩
  obtain ⟨ad, e, hb, hc⟩ := h.2 (by omega)
  refine ⟨ad, e, hb, fun j u hu => hc j u ?_⟩
  have he : flat3 l = flat3 (l.take g) ++ flat3 (l.drop g) := by rw [← flat3_append, List.take_append_drop]
  rw [he, List.getElem?_append_left (by have := (List.getElem?_eq_some_iff.1 hu).1; exact this)]
  exact hu
theorem flat3_drop (l : List V3) (g : Nat) : (flat3 l).drop (g * 3) = flat3 (l.drop g) := by
  by_cases h : g ≤ l.length
  · have he : flat3 l = flat3 (l.take g) ++ flat3 (l.drop g) := by rw [← flat3_append, List.take_append_drop]
    rw [he, List.drop_append_of_le_length (by rw [flat3_len, List.length_take]; omega), List.drop_of_length_le (by rw [flat3_len, List.length_take]; omega)]
    rfl
  · rw [List.drop_of_length_le (by rw [flat3_len]; omega), List.drop_of_length_le (by omega)]; rfl
theorem VR.cut (h : VR w A n l) {g cap : Nat} (hg : g ≤ n) (hc : n ≤ cap) : VR w (if cap = g then A else A.map (·.add (g * 3))) (n - g) (l.drop g) := by
  have := Reads.cut h hg hc
  rwa [flat3_drop] at this
theorem VR.nil_ : VR w A 0 [] := ⟨by simp [flat3], fun h => absurd h (by omega)⟩
end
theorem own_VR {w0 : World} {B e n c : Nat} {A : Option Addr} {l : List V3} (h : w0.ownsRow B e 3 (.slice A n c) n (flat3 l)) : VR w0 A n l := Reads.of_own h
end Go.Proofs.YtocohkgdkebmdaaGreat
