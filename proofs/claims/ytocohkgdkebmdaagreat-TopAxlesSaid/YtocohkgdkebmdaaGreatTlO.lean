/- Own rows of naturals; a row filled up to a place. -/
import Derived.Test.YtocohkgdkebmdaaGreatTlW3
import Derived.Test.YtocohkgdkebmdaaGreatLL
namespace Go.Proofs.YtocohkgdkebmdaaGreat
open Go.RowKit
theorem mk_intR : Tryz.prog.underlying 22 = some (.slice 3) ∧ ∃ i, Tryz.prog.info? 3 = some i ∧ i.zero = some (.int .i64 0) ∧ i.size = 1 ∧ i.bytes = 8 := by
  obtain ⟨i, h1, h2, h3, h4⟩ := info_parts (show (Tryz.prog.info? 3).map (fun i => (i.zero, i.size, i.bytes)) = some (some (.int .i64 0), 1, 8) by kernel_rfl)
  exact ⟨Tryz.underlying22, i, h1, h2, h3, h4⟩
theorem mk_ll : Tryz.prog.underlying 43 = some (.slice 22) ∧ ∃ i, Tryz.prog.info? 22 = some i ∧ i.zero = some nilS ∧ i.size = 1 ∧ i.bytes = 24 := by
  obtain ⟨i, h1, h2, h3, h4⟩ := info_parts (show (Tryz.prog.info? 22).map (fun i => (i.zero, i.size, i.bytes)) = some (some nilS, 1, 24) by kernel_rfl)
  exact ⟨Tryz.underlying43, i, h1, h2, h3, h4⟩
namespace Tl
def relRow (l : List IT) (n x : Nat) : List Nat := (List.range n).map fun y => rel l x y
/-- A row of which the first m places are written. -/
def relPart (l : List IT) (n x m : Nat) : List Nat := (List.range n).map fun y => if y < m then rel l x y else 0
theorem relPart_zero (l : List IT) (n x : Nat) : relPart l n x 0 = List.replicate n 0 := by
  unfold relPart
  refine List.ext_getElem (by simp) fun i h1 h2 => by simp
theorem relPart_full (l : List IT) (n x : Nat) : relPart l n x n = relRow l n x := by
  unfold relPart relRow
  refine List.map_congr_left fun y hy => ?_
  rw [if_pos (by simpa using hy)]
theorem relPart_set (l : List IT) (n x m : Nat) : (relPart l n x m).set m (rel l x m) = relPart l n x (m + 1) := by
  unfold relPart
  refine List.ext_getElem (by simp) fun i h1 h2 => ?_
  simp only [List.getElem_set, List.getElem_map, List.getElem_range]
  by_cases e : m = i
  · subst e; simp
  · rw [if_neg e]
    by_cases h : i < m
    · rw [if_pos h, if_pos (by omega)]
    · rw [if_neg h, if_neg (by omega)]
theorem relPart_same (l : List IT) (n x m : Nat) (hr : rel l x m = 0) : relPart l n x m = relPart l n x (m + 1) := by
  unfold relPart
  refine List.map_congr_left fun y _ => ?_
  by_cases e : y = m
  · subst e; rw [if_neg (by omega), if_pos (by omega), hr]
  · by_cases h : y < m
    · rw [if_pos h, if_pos (by omega)]
    · rw [if_neg h, if_neg (by omega)]
theorem relPart_len (l : List IT) (n x m : Nat) : (relPart l n x m).length = n := by simp [relPart]
end Tl
theorem below_two {B : Nat} {a w : World} (h : Below B a w) (hB : B ≤ w.heap.size) (o o' : Obj) : Below B a ((w.alloc o).alloc o').drew := by
  have h1 := (h.alloc hB o).alloc (by simp; omega) o'
  exact ⟨h1.os, h1.tape, h1.output, h1.size, h1.block⟩
/-- The outer loop. -/
def RelO (W0 : World) (b n : Nat) (l : List IT) (p : Value) (wr : World) : Prop :=
  ∃ (x : Nat) (L : List (List Nat)) (vs : List Value), x ≤ n ∧ p = .int .i64 x ∧ OwnLL wr b 22 3 (.slice (some ⟨b, 0, none⟩) n n) n L vs ∧
    Hid (∀ i, i < n → L.getD i [] = if i < x then Tl.relRow l n i else []) ∧ Below b W0 wr ∧ b < wr.heap.size
/-- The inner loop. -/
def RelI (W0 : World) (b n x : Nat) (l : List IT) (p : Value) (wr : World) : Prop :=
  ∃ (y g' cap' : Nat) (L : List (List Nat)) (vs : List Value), y ≤ n ∧ p = .int .i64 y ∧ OwnLL wr b 22 3 (.slice (some ⟨b, 0, none⟩) n n) n L vs ∧ vs.getD x nilS = .slice (some ⟨g', 0, none⟩) n cap' ∧
    L.getD x [] = Tl.relPart l n x y ∧ Hid (∀ i, i < n → i ≠ x → L.getD i [] = if i < x then Tl.relRow l n i else []) ∧ Below b W0 wr ∧ b < wr.heap.size
set_option maxRecDepth 100000 in
set_option maxHeartbeats 4000000 in
theorem relations_c (A : Option Addr) (n c k : Nat) (l : List IT) (w : World) (hn : n ≤ 96) (h : IR4 w A n l) :
    Calls Tryz.prog 87 #[jobV A n c k] w fun e w' => ∃ (g : Nat) (L : List (List Nat)) (vs : List Value), e = .returned (.slice (some ⟨g, 0, none⟩) n n) ∧
      OwnLL w' w.heap.size 22 3 (.slice (some ⟨g, 0, none⟩) n n) n L vs ∧ (∀ i, i < n → L.getD i [] = Tl.relRow l n i) ∧ Below w.heap.size w w' := by
  have hl := h.len
  unfold jobV
  go_enter Tryz.func87, Tryz.ntmps87
  go_wp2_with (at_make; refine wpList_mkn mk_ll rfl rfl _ _ rfl (w.heap.size + 1) _ _ _ _ n rfl rfl rfl rfl (by omega) (by simp only [maxLen]; omega) (by simp) ?_; intro w1 own1 hb1)
  have hc0 : (w.alloc (Obj.cells #[Value.slice A n c, Value.int IntKind.i64 k] 57)).cell? ⟨w.heap.size, 0, none⟩ = some (.slice A n c) := by go_simp
  have hbw := (Below.refl w.heap.size w).alloc (Nat.le_refl _) (Obj.cells #[Value.slice A n c, Value.int IntKind.i64 k] 57)
  have hsz : (w.alloc (Obj.cells #[Value.slice A n c, Value.int IntKind.i64 k] 57)).heap.size = w.heap.size + 1 := by simp
  have h0 := h.below hbw
  rw [hsz] at own1
  go_wp2_with fail
  rw [hsz] at hb1
  generalize w.alloc (Obj.cells #[Value.slice A n c, Value.int IntKind.i64 k] 57) = W0 at *
  obtain ⟨b, hb⟩ : ∃ b, b = w.heap.size + 1 := ⟨_, rfl⟩
  rw [← hb] at own1 hb1 hsz ⊢
  have hbl : w.heap.size < b := by omega
  have hbu : b ≤ w.heap.size + 1 := by omega
  clear hb
  have hll := OwnLL.nils (eI := 3) own1
  have hlt0 := hll.outer.lt b rfl
  go_loopw [14] (fun p wr => RelO W0 b n l p wr) (fun p _ => n - (intOf p).toNat)
  case atStart => exact (show RelO _ _ _ _ _ _ from ⟨0, _, _, by omega, rfl, hll, Lib.hid (fun i hi => by rw [if_neg (by omega), List.getD_eq_getElem?_getD, List.getElem?_replicate, if_pos hi]; rfl), hb1, hlt0.2⟩)
  case round =>
    obtain ⟨x, L, vs, hx, rfl, hl1, HL, hbr, hsr⟩ := hrel
    have hjc := hbr.cell (p := ⟨w.heap.size, 0, none⟩) (by show w.heap.size < b; omega)
    rw [hc0] at hjc
    by_cases hlt : x < n
    · have hcx := hl1.cellO hlt
      have hfx := hl1.outer.frozenAt x
      go_wp2_with (at_make; refine wpList_mkn mk_intR rfl rfl _ _ rfl wr.heap.size _ _ _ _ n rfl rfl rfl rfl (by omega) (by simp only [maxLen]; omega) (Nat.le_refl _) ?_; intro w2 own2 hb2; have hcx2 := keep_cell hb2 hcx; have hfx2 := (own_below hl1.outer hb2).frozenAt x)
      have own3 : w2.ownsRow wr.heap.size 3 1 (.slice (some ⟨wr.heap.size, 0, none⟩) n n) (Tl.relPart l n x 0).length (ints64 (Tl.relPart l n x 0)) := by
        rw [Tl.relPart_zero, List.length_replicate]
        have : ints64 (List.replicate n 0) = List.replicate n (Value.int .i64 0) := by simp [ints64]
        rw [this]
        exact own2
      have hl2 := OwnLL.fresh (by decide) hl1 hlt hb2 (by omega) own3
      have hbr2 : Below b W0 (w2.setCell ⟨b, x, none⟩ (.slice (some ⟨wr.heap.size, 0, none⟩) n n)) := (hbr.trans (hb2.mono (by omega))).setCell (p := ⟨b, x, none⟩) (Nat.le_refl _) _
      have hvl := hl1.vlen
      have hLl := hl1.len
      have hin1 : (vs.set x (.slice (some ⟨wr.heap.size, 0, none⟩) n n)).getD x nilS = .slice (some ⟨wr.heap.size, 0, none⟩) n n := getD_set_same (by omega)
      have hin2 : (L.set x (Tl.relPart l n x 0)).getD x [] = Tl.relPart l n x 0 := getD_set_same (by omega)
      have Hin : Hid (∀ i, i < n → i ≠ x → (L.set x (Tl.relPart l n x 0)).getD i [] = if i < x then Tl.relRow l n i else []) := Lib.hid fun i hi hne => by rw [getD_set_other hne.symm, HL.out i hi]
      have hs2 : b < (w2.setCell ⟨b, x, none⟩ (.slice (some ⟨wr.heap.size, 0, none⟩) n n)).heap.size := by have := hb2.size; simp; omega
      go_loopw [29] (fun p wr => RelI W0 b n x l p wr) (fun p _ => n - (intOf p).toNat)
      case atStart => exact (show RelI _ _ _ _ _ _ _ from ⟨0, wr.heap.size, n, _, _, by omega, rfl, hl2, hin1, hin2, Hin, hbr2, hs2⟩)
      case round =>
        clear own2 own3 hl2 hin1 hin2 Hin hbr2 hs2 hcx hcx2 hfx hfx2
        obtain ⟨y, g', cap', L2, vs2, hy, rfl, hl2, hv2, hp2, H2, hb3, hs3⟩ := hrel
        clear hbr hsr hjc hl1 HL hb2 hvl hLl
        by_cases hlt2 : y < n
        · obtain ⟨ad, ⟨pa, pb, pc, pd⟩, rfl, hba, hpx, c1, c2, c3, c4⟩ := h0.at_ hlt
          obtain ⟨ad', ⟨qa, qb, qc, qd⟩, hea, _, hqy, f1, f2, f3, f4⟩ := h0.at_ hlt2
          obtain rfl := Option.some.inj hea
          have hb4 := hb3
          rw [← hsz] at hb4
          have d1 := keep_cell hb4 c1
          have d2 := keep_cell hb4 c2
          have d3 := keep_cell hb4 c3
          have d4 := keep_cell hb4 c4
          have e1 := keep_cell hb4 f1
          have e2 := keep_cell hb4 f2
          have e3 := keep_cell hb4 f3
          have e4 := keep_cell hb4 f4
          have hjc := keep_cell hb4 hc0
          have hrl : Tl.rel l x y = if pa ≠ qa ∨ qb ≤ pb then 0 else if y < x then 2 else 1 := by
            unfold Tl.rel
            rw [(itm_at hpx).1, (itm_at hqy).1]
          simp only at d1 d2 d3 d4 e1 e2 e3 e4
          clear c1 c2 c3 c4 f1 f2 f3 f4 hpx hqy hea
          have hjca := fun o => cell_alloc hjc o
          have hjcb := fun o o' => cell_alloc (cell_alloc hjc o) o'
          have d1a := fun o => cell_alloc d1 o
          have d1b := fun o o' => cell_alloc (cell_alloc d1 o) o'
          have d2a := fun o => cell_alloc d2 o
          have d2b := fun o o' => cell_alloc (cell_alloc d2 o) o'
          have d3a := fun o => cell_alloc d3 o
          have d3b := fun o o' => cell_alloc (cell_alloc d3 o) o'
          have d4a := fun o => cell_alloc d4 o
          have d4b := fun o o' => cell_alloc (cell_alloc d4 o) o'
          have e1a := fun o => cell_alloc e1 o
          have e1b := fun o o' => cell_alloc (cell_alloc e1 o) o'
          have e2a := fun o => cell_alloc e2 o
          have e2b := fun o o' => cell_alloc (cell_alloc e2 o) o'
          have e3a := fun o => cell_alloc e3 o
          have e3b := fun o o' => cell_alloc (cell_alloc e3 o) o'
          have e4a := fun o => cell_alloc e4 o
          have e4b := fun o o' => cell_alloc (cell_alloc e4 o) o'
          have hin := hl2.inner x hlt
          rw [hv2] at hin
          have hrow : (L2.getD x []).length = n := by rw [hp2, Tl.relPart_len]
          rw [hrow] at hin
          have hox := hl2.cellO hlt
          rw [hv2] at hox
          have hoxb := fun o o' => cell_alloc (cell_alloc hox o) o'
          have hiy := hin.cellAt y (by omega)
          rw [hp2] at hiy
          obtain ⟨z, hz⟩ : ∃ z, (ints64 (Tl.relPart l n x y))[y]? = some z := ⟨_, List.getElem?_eq_getElem (by simp [ints64, Tl.relPart_len]; omega)⟩
          rw [hz] at hiy
          have hiyb := fun o o' => cell_alloc (cell_alloc hiy o) o'
          have hfb := fun o o' => ((hin.alloc o).alloc o').frozenAt y
          clear hz hin
          by_cases hno : pa ≠ qa ∨ qb ≤ pb
          · rw [if_pos hno] at hrl
            have hp3 := hp2.trans (Tl.relPart_same l n x y hrl)
            have hno1 : ((pa != qa) = true ∧ ((pa : Int) != (qa : Int)) = true) ∨ ((pa != qa) = false ∧ ((pa : Int) != (qa : Int)) = false) ∧ decide (qb ≤ pb) = true ∧ decide ((qb : Int) ≤ (pb : Int)) = true := by
              by_cases e : pa = qa
              · exact .inr ⟨⟨by simp [e], by simp [e]⟩, by simp; omega, by simp; omega⟩
              · exact .inl ⟨by simpa using e, by simp; omega⟩
            clear hno hp2 hox hoxb hiy hiyb hfb
            rcases hno1 with ⟨q1, q1'⟩ | ⟨⟨q1, q1'⟩, q2, q2'⟩
            all_goals
              go_wp2_with fail
              go_region
              all_goals
                go_wp2_with fail
                go_roundw
                case rel => exact (show RelI _ _ _ _ _ _ _ from ⟨y + 1, g', cap', L2, vs2, by omega, by go_num, hl2.alloc2 _ _, hv2, hp3, H2, below_two hb3 (by omega) _ _, by simp; omega⟩)
                case measure => simp [intOf]; omega
          · rw [if_neg hno] at hrl
            have q1 : (pa != qa) = false := by simp; omega
            have q1' : ((pa : Int) != (qa : Int)) = false := by simp; omega
            have q2 : decide (qb ≤ pb) = false := by simp; omega
            have q2' : decide ((qb : Int) ≤ (pb : Int)) = false := by simp; omega
            have hset : ∀ v, Tl.rel l x y = v → (L2.set x ((L2.getD x []).set y v)).getD x [] = Tl.relPart l n x (y + 1) := fun v e => by
              rw [getD_set_same (by rw [hl2.len]; exact hlt), hp2, ← e, Tl.relPart_set]
            have hoth : ∀ r, Hid (∀ i, i < n → i ≠ x → (L2.set x r).getD i [] = if i < x then Tl.relRow l n i else []) := fun r => Lib.hid fun i hi hne => by rw [getD_set_other hne.symm, H2.out i hi hne]
            have hvr : vs2.getD x nilS = .slice (some ⟨g', 0, none⟩) (L2.getD x []).length cap' := by rw [hrow]; exact hv2
            have hge : b ≤ g' := own_ge (hl2.inner x hlt) g' (by rw [hv2]; rfl)
            clear hno hp2
            by_cases hyx : y < x
            · rw [if_pos hyx] at hrl
              have q3 : decide (y < x) = true := decide_eq_true hyx
              have hs := hset 2 hrl
              have ho := hoth ((L2.getD x []).set y 2)
              clear hset hoth
              go_wp2_with fail
              go_region
              all_goals
                go_wp2_with fail
                go_roundw
                case rel => exact (show RelI _ _ _ _ _ _ _ from ⟨y + 1, g', cap', _, vs2, by omega, by go_num, (hl2.alloc2 _ _).setIn (x := 2) (by decide) hlt hvr, hv2, hs, ho, (below_two hb3 (by omega) _ _).setCell hge _, by simp; omega⟩)
                case measure => simp [intOf]; omega
            · rw [if_neg hyx] at hrl
              have q3 : decide (y < x) = false := decide_eq_false hyx
              have hs := hset 1 hrl
              have ho := hoth ((L2.getD x []).set y 1)
              clear hset hoth
              go_wp2_with fail
              go_region
              all_goals
                go_wp2_with fail
                go_roundw
                case rel => exact (show RelI _ _ _ _ _ _ _ from ⟨y + 1, g', cap', _, vs2, by omega, by go_num, (hl2.alloc2 _ _).setIn (x := 1) (by decide) hlt hvr, hv2, hs, ho, (below_two hb3 (by omega) _ _).setCell hge _, by simp; omega⟩)
                case measure => simp [intOf]; omega
        · obtain rfl : y = n := by omega
          rw [Tl.relPart_full] at hp2
          go_wp2_with fail
          go_roundw
          case rel => exact (show RelO _ _ _ _ _ _ from ⟨x + 1, L2, vs2, by omega, by go_num, hl2, Lib.hid (fun i hi => by
            by_cases e : i = x
            · subst e; rw [hp2, if_pos (by omega)]
            · rw [H2.out i hi e]
              by_cases h : i < x
              · rw [if_pos h, if_pos (by omega)]
              · rw [if_neg h, if_neg (by omega)]), hb3, hs3⟩)
          case measure => simp [intOf]; omega
    · obtain rfl : x = n := by omega
      go_wp2_with fail
      go_ret
      exact ⟨b, L, vs, rfl, ⟨own_more hl1.outer (by omega), hl1.len, fun i hi => own_more (hl1.inner i hi) (by omega), hl1.far⟩, fun i hi => by rw [HL.out i hi, if_pos hi], (hbw.mono (by omega)).trans (hbr.mono (by omega))⟩
end Go.Proofs.YtocohkgdkebmdaaGreat
namespace Go.Proofs.YtocohkgdkebmdaaGreat
open Go.RowKit
namespace Tl
def part (f : Nat → Nat) (n m : Nat) : List Nat := (List.range n).map fun y => if y < m then f y else 0
theorem part_zero (f : Nat → Nat) (n : Nat) : part f n 0 = List.replicate n 0 := by
  unfold part
  refine List.ext_getElem (by simp) fun i h1 h2 => by simp
theorem part_full (f : Nat → Nat) (n : Nat) : part f n n = (List.range n).map f := by
  unfold part
  refine List.map_congr_left fun y hy => ?_
  rw [if_pos (by simpa using hy)]
theorem part_set (f : Nat → Nat) (n m : Nat) : (part f n m).set m (f m) = part f n (m + 1) := by
  unfold part
  refine List.ext_getElem (by simp) fun i h1 h2 => ?_
  simp only [List.getElem_set, List.getElem_map, List.getElem_range]
  by_cases e : m = i
  · subst e; simp
  · rw [if_neg e]
    by_cases h : i < m
    · rw [if_pos h, if_pos (by omega)]
    · rw [if_neg h, if_neg (by omega)]
end Tl
theorem ints64_zeros (n : Nat) : ints64 (List.replicate n 0) = List.replicate n (Value.int .i64 0) := by simp [ints64]
theorem ints64_set (l : List Nat) (i x : Nat) : (ints64 l).set i (.int .i64 (x : Int)) = ints64 (l.set i x) := by simp [ints64, List.map_set]
theorem ints64_at (l : List Nat) (i : Nat) (h : i < l.length) : (ints64 l)[i]? = some (.int .i64 ((l.getD i 0 : Nat) : Int)) := by
  rw [ints64, List.getElem?_map, List.getElem?_eq_getElem h, List.getD_eq_getElem?_getD, List.getElem?_eq_getElem h]
  rfl
/-- An own row of naturals: a cell. -/
theorem own64_cell {w : World} {B n g cap i : Nat} {e : TypeId} {l : List Nat} (h : w.ownsRow B e 1 (.slice (some ⟨g, 0, none⟩) n cap) n (ints64 l)) (hi : i < n) : w.cell? ⟨g, i, none⟩ = some (.int .i64 ((l.getD i 0 : Nat) : Int)) := by
  have hl : l.length = n := by have := h.1; simpa [ints64] using this
  rw [h.cellAt i (by omega), ints64_at l i (by omega)]
theorem own64_set {w : World} {B n g cap i : Nat} {e : TypeId} {l : List Nat} (h : w.ownsRow B e 1 (.slice (some ⟨g, 0, none⟩) n cap) n (ints64 l)) (x : Nat) : (w.setCell ⟨g, i, none⟩ (.int .i64 (x : Int))).ownsRow B e 1 (.slice (some ⟨g, 0, none⟩) n cap) n (ints64 (l.set i x)) := by
  have := (h.stored i (.int .i64 (x : Int))).1
  rwa [ints64_set] at this
theorem own64_len {w : World} {B n : Nat} {e : TypeId} {v : Value} {l : List Nat} (h : w.ownsRow B e 1 v n (ints64 l)) : l.length = n := by have := h.1; simpa [ints64] using this
theorem own64_IR {w : World} {B n c : Nat} {e : TypeId} {A : Option Addr} {l : List Nat} (h : w.ownsRow B e 1 (.slice A n c) n (ints64 l)) : IR .i64 w A n (l.map fun (x : Nat) => (x : Int)) := by
  rw [ints64_map] at h
  exact own_IR h
/-- An append of new memory as a step of a drawn region. -/
theorem step_pushb {P : Program} {w0 : World} {e' : TypeId} {cs : Array Value} {ops : Array Oper} {o : Oper} {a : Act} {K : Act → World → Prop} {Q : Exit → Act → World → Prop} {E : Prop} {t e : TypeId} {size bytes : Nat} (S : SlT P t e size bytes)
    (hgd : o.guard = none) (s x : Operand) (ho : o.op = .call { callee := .builtin .append, args := #[s, x], argTypes := #[t, t] })
    (B : Nat) (v : Value) (n : Nat) (xs : List Value) (hs : a.eval s = v) (hown : w0.ownsRow B e size v n xs)
    (m c : Nat) (bk : Nat) (hbk : bk = w0.heap.size) (hx : a.eval x = .slice (some ⟨bk, 0, none⟩) m c) (hl : cs.size = m * size) (h1 : cs.toList.all (·.oneCell') = true)
    (h63 : n + m ≤ maxLen) (hbytes : (n + m) * bytes ≤ 140737488355328) (hbase : B ≤ w0.heap.size)
    (h : ∀ v' w', w'.ownsRow B e size v' (n + m) (xs ++ cs.toList) → Grew w0 v v' w' → K (a.put o.dst v') w') : if Region.wanted o (yielded ops a.tmps) = true then Oper.wp P o a (w0.alloc (.cells cs e')) K Q else E := by
  subst hbk
  have hw : Region.wanted o (yielded ops a.tmps) = true := by simp [Region.wanted, hgd]
  rw [if_pos hw]
  obtain ⟨i, z, hi, hz, hsize, hby, hzs⟩ := S.info
  obtain ⟨v', w', hrun, h2, h3, _, h5⟩ := run_append_own_at (P := P) (w0.alloc (.cells cs e')) B t o.type e i z size bytes S.under hi hz hsize hby hzs S.pos v n xs (hown.alloc _) ⟨w0.heap.size, 0, none⟩ m c cs.toList (by simpa using hl)
    (cell_new_row w0 cs e') (fun u hu => List.all_eq_true.1 h1 u hu) h63 hbytes (by simp; omega)
  unfold Oper.wp execOp
  simp only [ho, resolve, invoke, builtin, Sem.run_bind, Sem.run_pure, Result.andThen_ok, List.map_toArray, List.map_cons, List.map_nil, hs, hx, hrun]
  refine h v' w' h2 ⟨(World.grownBy_alloc w0 _ v.ownBlock).trans h3, ?_⟩
  rcases h5 with h5 | h5
  · exact .inl h5
  · exact .inr ⟨_, h5, by simp⟩
end Go.Proofs.YtocohkgdkebmdaaGreat
