/- (*Maker).Borders: a valid list of at most n borders; (*Maker).Chain: the borders of n sections in order. -/
import Derived.Test.YtjlfdkkaljlmjaaGenPulses
import Derived.Test.YtjlfdkkaljlmjaaSecPlain
namespace Go.Proofs.Ytjlfdkkaljlmjaa
open Go.RowKit
namespace Sec
theorem vGo_snoc : ∀ (l done : List V3) (b : V3), vGo l done = 0 → okB b = true → held (done ++ l) b.a b.b = false → vGo (l ++ [b]) done = 0 := by
  intro l
  induction l with
  | nil => intro done b _ hb hf; rw [List.append_nil] at hf; rw [List.nil_append, vGo_ok b [] done hb hf]; rfl
  | cons q r ih =>
    intro done b h hb hf
    by_cases hk : okB q = true
    · by_cases hh : held done q.a q.b = true
      · rw [vGo_dup q r done hk hh] at h; omega
      · rw [vGo_ok q r done hk (by simpa using hh)] at h
        rw [List.cons_append, vGo_ok q _ done hk (by simpa using hh)]
        exact ih _ b h hb (by rw [List.append_assoc]; exact hf)
    · rw [vGo_bad q r done (by simpa using hk)] at h; omega
theorem held_snoc' (l : List V3) (b : V3) (s d : Int) : held (l ++ [b]) s d = if s = b.a ∧ d = b.b then true else held l s d := congrFun (congrFun (held_snoc l b) s) d
/-- The borders of the sections 0 .. k - 1 in a row. -/
def chain : Nat → List V3
  | 0 => []
  | k + 1 => chain k ++ [⟨k, k, 1⟩, ⟨k, k + 1, -1⟩]
theorem chain_len (k : Nat) : (chain k).length = 2 * k := by
  induction k with
  | zero => rfl
  | succ k ih => rw [chain, List.length_append, ih]; simp; omega
end Sec
theorem inM (v m : Int) (hm : 0 < m) : ∃ n : Nat, (n : Int) < m ∧ ((v.tmod m + m) % m) = (n : Int) := by
  have := mod_bd (v.tmod m + m) m hm
  exact ⟨((v.tmod m + m) % m).toNat, by omega, by omega⟩
theorem own_ne_type {w : World} {B B' e e' size size' n n' : Nat} {v v' : Value} {xs ys : List Value} (h : w.ownsRow B e size v n xs) (h' : w.ownsRow B' e' size' v' n' ys) (hne : e ≠ e') : apart v v' := by
  rcases h'.2 with ⟨rfl, _⟩ | ⟨g', cap, cur, rfl, _, hh, _⟩
  · by_cases hv : v.ownBlock = none
    · exact .inl hv
    · exact .inr (by simpa [Value.ownBlock] using hv)
  · exact .inr (own_blk_ne h (t := e') (cs := cur) hh hne)
theorem grown_set (w : World) (g i : Nat) (u : Value) : w.grownBy (w.setCell ⟨g, i, none⟩ u) (some g) :=
  ⟨rfl, rfl, rfl, by simp [World.setCell], fun j _ hne => Below.heap_setCell w ⟨g, i, none⟩ u j (fun e => hne (by rw [e]))⟩
theorem own_setB {w0 : World} {B e n g cap j : Nat} {l : List Bool} (h : w0.ownsRow B e 1 (.slice (some ⟨g, 0, none⟩) n cap) n (l.map Value.bool)) (x : Bool) :
    (w0.setCell ⟨g, j, none⟩ (.bool x)).ownsRow B e 1 (.slice (some ⟨g, 0, none⟩) n cap) n ((l.set j x).map Value.bool) := by
  have := (h.stored j (.bool x)).1
  rwa [List.map_set]
theorem own_lenB {w0 : World} {B e n : Nat} {v : Value} {l : List Bool} (h : w0.ownsRow B e 1 v n (l.map Value.bool)) : l.length = n := by have := h.1; simpa using this
theorem own_cellB {w0 : World} {B e n g cap j : Nat} {l : List Bool} (h : w0.ownsRow B e 1 (.slice (some ⟨g, 0, none⟩) n cap) n (l.map Value.bool)) (hj : j < n) : w0.cell? ⟨g, j, none⟩ = some (.bool (l.getD j false)) := by
  rw [h.cellAt j (by omega)]
  have hl := own_lenB h
  rw [List.getElem?_map, List.getElem?_eq_getElem (by omega), List.getD_eq_getElem?_getD, List.getElem?_eq_getElem (by omega)]
  rfl
theorem mk_bool : Try.prog.underlying 75 = some (.slice 4) ∧ ∃ i, Try.prog.info? 4 = some i ∧ i.zero = some (.bool false) ∧ i.size = 1 ∧ i.bytes = 1 := by
  obtain ⟨i, h1, h2, h3, h4⟩ := info_parts (show (Try.prog.info? 4).map (fun i => (i.zero, i.size, i.bytes)) = some (some (.bool false), 1, 1) by kernel_rfl)
  exact ⟨Try.underlying75, i, h1, h2, h3, h4⟩
theorem sl_border : SlT Try.prog 22 24 3 24 := slT_of (z := .agg #[.int .i64 0, .int .i64 0, .int .i64 0]) Try.underlying22 (by kernel_rfl) rfl (by omega)
/-- What a made list of borders is. -/
structure MadeB (l : List V3) : Prop where
  ok : Sec.vGo l [] = 0
  sec : ∀ q ∈ l, q.a < 4
  det : ∀ q ∈ l, q.b < 6
/-- The list of what was seen, of a list of borders. -/
def SeenB (S : List Bool) (l : List V3) : Prop := ∀ s d : Nat, s < 4 → d < 6 → S.getD (6 * s + d) false = Sec.held l s d
theorem SeenB.nil : SeenB (List.replicate 24 false) [] := by
  intro s d hs hd
  rw [List.getD_eq_getElem?_getD, List.getElem?_replicate, if_pos (by omega)]
  rfl
theorem SeenB.put {S : List Bool} {l : List V3} (h : SeenB S l) (s d : Nat) (c : Int) (hs : s < 4) (hd : d < 6) (hl : S.length = 24) : SeenB (S.set (6 * s + d) true) (l ++ [⟨s, d, c⟩]) := by
  intro s' d' hs' hd'
  rw [Sec.held_snoc', List.getD_eq_getElem?_getD, List.getElem?_set]
  simp only
  by_cases e : s' = s ∧ d' = d
  · obtain ⟨rfl, rfl⟩ := e
    rw [if_pos rfl, if_pos (by omega), if_pos ⟨rfl, rfl⟩]
    rfl
  · rw [if_neg (by omega), if_neg (by omega), ← List.getD_eq_getElem?_getD]
    exact h s' d' hs' hd'
def BorR (B : Nat) (w : World) (g c m : Nat) (out p : Value) (wr : World) : Prop :=
  ∃ (l : List V3) (i c' : Nat) (S : List Bool), p = .int .i64 i ∧ l.length + i ≤ m ∧ MadeB l ∧ c' + 3 * i ≤ c + 1 + 3 * m ∧ Mk B wr g c' ∧ wr.ownsRow w.heap.size 24 3 out l.length (flat3 l) ∧
    wr.ownsRow w.heap.size 4 1 (.slice (some ⟨w.heap.size, 0, none⟩) 24 24) 24 (S.map Value.bool) ∧ SeenB S l ∧ w.grownBy wr (some g)
set_option maxRecDepth 100000 in
set_option maxHeartbeats 2000000 in
theorem borders_c (B g c m : Nat) (w : World) (h : Mk B w g c) (hc : c ≤ 2305843009213693952) (hm : m ≤ 24) (hBw : B ≤ w.heap.size) :
    Calls Try.prog 20 #[.pointer (some ⟨g, 0, none⟩), .int .i64 (m : Int)] w fun e w' => ∃ v l c', e = .returned v ∧ w'.ownsRow w.heap.size 24 3 v (l : List V3).length (flat3 l) ∧ l.length ≤ m ∧ MadeB l ∧ c' ≤ c + 1 + 3 * m ∧ Mk B w' g c' ∧ w.grownBy w' (some g) := by
  have hgl := h.lt
  go_enter Try.func20, Try.ntmps20
  go_wp2_with (at_make; refine wpList_mkn mk_bool rfl rfl _ _ rfl w.heap.size _ _ _ _ 24 rfl rfl rfl rfl (by omega) (by simp only [maxLen]; omega) (Nat.le_refl _) ?_; intro w1 own1 hb1)
  rw [show List.replicate 24 (Value.bool false) = (List.replicate 24 false).map Value.bool from by rw [List.map_replicate]] at own1
  have hm1 := h.below hb1
  have hz1 := own_lt own1 w.heap.size rfl
  go_wp2_with fail
  refine (next_c B g c ((m : Int) + 1) _ hm1 (by omega) (by omega) (by omega)).mono ?_
  rintro e w2 ⟨i0, hi0, hi1, rfl, hm2, hg2⟩
  obtain ⟨i, rfl⟩ := Int.eq_ofNat_of_zero_le hi0
  have own2 := own1.kept hg2 (.inr (hm1.ne own1 (by decide)))
  have hgw2 : w.grownBy w2 (some g) := grown_then ⟨hb1.os, hb1.tape, hb1.output, hb1.size, fun i hi _ => hb1.block i hi⟩ hg2 (fun b e => .inl (Option.some.inj e).symm)
  have hz2 := own_lt own2 w.heap.size rfl
  clear hm1 hg2 own1 hb1 hz1
  go_wp2_with fail
  go_loopw [5, 7] (fun out p wr => BorR B w g c m out p wr) (fun _ p _ => (intOf p).toNat)
  case atStart => exact (show BorR _ _ _ _ _ _ _ _ from ⟨[], i, _, _, rfl, by simp; omega, ⟨rfl, by simp, by simp⟩, by omega, hm2, World.ownsRow_nil _ _ _ _, own2, SeenB.nil, hgw2⟩)
  case round =>
    obtain ⟨l, i, c', S, rfl, hli, hmade, hcc, hmk, hown, hseen, hS, hgw⟩ := hrel
    clear hm2 hgw2 hi0 hi1 own2 hz2
    by_cases hi : 0 < i
    · go_wp2_with fail
      refine (next_c B g c' 4 _ hmk (by omega) (by omega) (by omega)).mono ?_
      rintro e w3 ⟨s0, hs0, hs1, rfl, hm3, hg3⟩
      obtain ⟨s, rfl⟩ := Int.eq_ofNat_of_zero_le hs0
      have own3 := hown.kept hg3 (.inr (hmk.ne hown (by decide)))
      have seen3 := hseen.kept hg3 (.inr (hmk.ne hseen (by decide)))
      have hgw3 := hgw.trans hg3
      clear hown hseen hg3 hgw
      go_wp2_with fail
      refine (next_c B g (c' + 1) 6 _ hm3 (by omega) (by omega) (by omega)).mono ?_
      rintro e w4 ⟨d0, hd0, hd1, rfl, hm4, hg4⟩
      obtain ⟨d, rfl⟩ := Int.eq_ofNat_of_zero_le hd0
      have own4 := own3.kept hg4 (.inr (hm3.ne own3 (by decide)))
      have seen4 := seen3.kept hg4 (.inr (hm3.ne seen3 (by decide)))
      have hgw4 := hgw3.trans hg4
      clear own3 seen3 hg4 hgw3 hm3 hmk
      obtain ⟨j, hj⟩ : ∃ j, 6 * s + d = j := ⟨_, rfl⟩
      have hji : (6 : Int) * (s : Int) + (d : Int) = (j : Int) := by omega
      have hj24 : j < 24 := by omega
      have hjw : IntKind.i64.wrap (j : Int) = (j : Int) := IntWalk.i64_in _ ⟨by omega, by omega⟩
      have hcell := own_cellB seen4 (j := j) hj24
      have hfz := seen4.frozenAt j
      have hSl := own_lenB seen4
      have hsd := hS s d (by omega) (by omega)
      rw [hj] at hsd
      generalize hq : S.getD j false = q at hcell hsd
      have Hsd := Lib.hid hsd
      have Hj := Lib.hid hj
      clear hsd hj hq
      cases q
      · have Hf := Lib.hid (show Sec.held l (s : Int) (d : Int) = false from Hsd.out.symm)
        have hgs := grown_set w4 w.heap.size j (.bool true)
        have hneS : (some w.heap.size : Option Nat) ≠ some g := by
          have := hgl
          intro e; have := Option.some.inj e; omega
        have m5 : Mk B (w4.setCell ⟨w.heap.size, j, none⟩ (.bool true)) g (c' + 1 + 1) := hm4.grown hgs hneS (fun b e => by cases e; exact hBw)
        have own5 := own_set_other own4 (g := w.heap.size) (j := j) (by
          rcases own_ne_type own4 seen4 (by decide) with ha | ha
          · rw [ha]; simp
          · exact ha) (.bool true)
        have seen5 := own_setB seen4 (j := j) true
        have hgw5 := grown_then hgw4 hgs (fun b e => by cases e; exact .inr (Nat.le_refl _))
        have hlt5 := m5.lt
        have hne5 := m5.ne own5 (by decide)
        generalize hw5 : w4.setCell ⟨w.heap.size, j, none⟩ (.bool true) = w5 at m5 own5 seen5 hgw5 hlt5 hne5
        have Hput := Lib.hid (fun x => hS.put s d x (by omega) (by omega) hSl)
        rw [Hj.out] at Hput
        clear hgs hneS hgw4 own4 seen4 hm4 hS
        go_wp2_with fail
        clear hw5 hcell hfz hji hjw
        refine (pick_c B g (c' + 1 + 1) w5.heap.size 2 _ [1, -1] _ (m5.alloc _) (by omega) (by omega) (by omega) (by omega) (IR.new _ 2 rfl rfl (by decide))).mono ?_
        rintro e w6 ⟨r, hr, rfl, hm6, hg6⟩
        have hga := (World.grownBy_alloc w5 _ (some g)).trans hg6
        have seen6 := seen5.kept hga (.inr (m5.ne seen5 (by decide)))
        have own6 := own5.kept hga (.inr hne5)
        have hgw6 := hgw5.trans hga
        have hr2 : r = 1 ∨ r = -1 := by simp at hr; omega
        have hne6 := hm6.ne own6 (by decide)
        clear hg6 hga own5 seen5 hgw5 m5 hr hne5
        go_wp2_with (at_builtin; refine wpList_push sl_border rfl (.tmp 37) (.tmp 44) rfl w.heap.size _ _ _ rfl own6 1 1 rfl rfl rfl (by simp only [maxLen]; omega) (by omega) hgw6.size ?_; intro v7 w7 own7 hgr7)
        have hm7 := hm6.grown hgr7.grown hne6 (fun b hb => Nat.le_trans hBw (own_ge own6 b hb))
        have hgw7 := grown_then hgw6 hgr7.grown (fun b hb => .inr (own_ge own6 b hb))
        have seen7 := hgr7.keep seen6 (own_ne_type seen6 own6 (by decide))
        clear own6 seen6 hgr7 hgw6 hm6 hne6
        go_wp2_with fail
        go_roundw
        case rel =>
          refine (show BorR _ _ _ _ _ _ _ _ from ⟨l ++ [⟨s, d, r⟩], i - 1, c' + 1 + 1 + 1, S.set j true, vint (by omega), by simp; omega, ⟨Sec.vGo_snoc _ _ _ hmade.ok ?_ (by rw [List.nil_append]; exact Hf.out), fun q hq => ?_, fun q hq => ?_⟩, by omega, hm7, ?_, seen7, Hput.out r, hgw7⟩)
          · simp only [Sec.okB, Sec.inB, Bool.and_eq_true, Bool.or_eq_true, decide_eq_true_eq]
            omega
          · rcases List.mem_append.1 hq with hq | hq
            · exact hmade.sec q hq
            · simp at hq; subst hq; exact hs1
          · rcases List.mem_append.1 hq with hq | hq
            · exact hmade.det q hq
            · simp at hq; subst hq; exact hd1
          · rw [flat3_snoc]
            simpa [cells3] using own7
        case measure => simp [intOf]; omega
      · go_wp2_with fail
        go_roundw
        case rel => exact (show BorR _ _ _ _ _ _ _ _ from ⟨l, i - 1, c' + 1 + 1, S, vint (by omega), by omega, hmade, by omega, hm4, own4, seen4, hS, hgw4⟩)
        case measure => simp [intOf]; omega
    · obtain rfl : i = 0 := by omega
      go_wp2_with fail
      go_ret
      exact ⟨_, l, c', rfl, hown, by omega, hmade, by omega, hmk, hgw⟩
set_option maxHeartbeats 2000000 in
theorem chain_c (P : Value) (m : Nat) (w : World) (hm : m ≤ 30) :
    Calls Try.prog 25 #[P, .int .i64 (m : Int)] w fun e w' => ∃ v, e = .returned v ∧ w'.ownsRow w.heap.size 24 3 v (2 * m) (flat3 (Sec.chain m)) ∧ Below w.heap.size w w' := by
  go_enter Try.func25, Try.ntmps25
  go_wp2_with fail
  go_loopw [5, 6] (fun v p wr => ∃ k : Nat, k ≤ m ∧ p = .int .i64 k ∧ wr.ownsRow w.heap.size 24 3 v (2 * k) (flat3 (Sec.chain k)) ∧ Below w.heap.size w wr) (fun _ p _ => m - (intOf p).toNat)
  case atStart => exact ⟨0, by omega, rfl, World.ownsRow_nil _ _ _ _, Below.refl _ _⟩
  case round =>
    obtain ⟨k, hk, rfl, own, hbr⟩ := hrel
    by_cases hlt : k < m
    · go_wp2_with (at_builtin; refine wpList_push sl_border rfl (.tmp 12) (.tmp 20) rfl w.heap.size _ _ _ rfl own 2 2 rfl rfl rfl (by simp only [maxLen]; omega) (by omega) hbr.size ?_; intro v6 w6 own6 hgr6)
      have own7 : w6.ownsRow w.heap.size 24 3 v6 (2 * (k + 1)) (flat3 (Sec.chain (k + 1))) := by
        rw [Sec.chain, flat3_append]
        exact own6
      clear own6
      go_roundw
      case rel => exact ⟨k + 1, by omega, by go_num, own7, hbr.trans (hgr6.below (own_ge own) hbr.size)⟩
      case measure => simp [intOf]; omega
    · obtain rfl : k = m := by omega
      go_wp2_with fail
      go_ret
      exact ⟨_, rfl, own, hbr⟩
end Go.Proofs.Ytjlfdkkaljlmjaa
