/- The walk of 'TopLate'. -/
import Derived.Test.YtlljanbhbnempaaTlWk
import Derived.Test.YtlljanbhbnempaaTlG
import Derived.Test.YtlljanbhbnempaaTlSd
import Derived.Test.YtlljanbhbnempaaTlLa
import Derived.Test.YtlljanbhbnempaaTlMk
namespace Go.Proofs.Ytlljanbhbnempaa
open Go.RowKit
theorem own_cat0 {w : World} {B n : Nat} {v : Value} {l : List IT} (h : w.ownsRow B 30 4 v (0 + n) ([] ++ flat4 l)) : w.ownsRow B 30 4 v n (flat4 l) := by simpa using h
theorem tl_apart_new {w : World} {B e size n : Nat} {v : Value} {xs : List Value} (h : w.ownsRow B e size v n xs) (k c : Nat) : apart v (.slice (some ⟨w.heap.size, 0, none⟩) k c) := by
  refine .inr fun e => ?_
  have := own_lt h w.heap.size (by rw [e]; rfl)
  omega
/-- The two rows of items. -/
structure LtQ (w W : World) (p : Nat) (A2 : Option Addr) (n c2 : Nat) (l : List IT) (A6 : Option Addr) (c6 : Nat) (l6 : List IT) : Prop where
  own2 : W.ownsRow w.heap.size 30 4 (.slice A2 n c2) n (flat4 l)
  own6 : W.ownsRow w.heap.size 30 4 (.slice A6 n c6) n (flat4 l6)
  far : apart (.slice A2 n c2) (.slice A6 n c6)
  blk : Blk W p 27 #[.slice A2 n c2, .int .i64 12]
  bel : Below w.heap.size w W
theorem LtQ.alloc {w W : World} {p n c2 c6 : Nat} {A2 A6 : Option Addr} {l l6 : List IT} (h : LtQ w W p A2 n c2 l A6 c6 l6) (o : Obj) : LtQ w (W.alloc o) p A2 n c2 l A6 c6 l6 :=
  ⟨h.own2.alloc o, h.own6.alloc o, h.far, h.blk.alloc o, h.bel.alloc h.bel.size o⟩
theorem LtQ.set_ {w W : World} {p n c2 c6 q j : Nat} {A2 A6 : Option Addr} {l l6 : List IT} {cs : Array Value} (h : LtQ w W p A2 n c2 l A6 c6 l6) (hq : Blk W q 27 cs) (hp : p ≠ q) (hw : w.heap.size ≤ q) (u : Value) : LtQ w (W.setCell ⟨q, j, none⟩ u) p A2 n c2 l A6 c6 l6 :=
  ⟨own_set_other h.own2 (own_blk_ne h.own2 hq (by decide)) u, own_set_other h.own6 (own_blk_ne h.own6 hq (by decide)) u, h.far, h.blk.far hp u, h.bel.setCell (p := ⟨q, j, none⟩) hw u⟩
theorem LtQ.below {w W W' : World} {p n c2 c6 : Nat} {A2 A6 : Option Addr} {l l6 : List IT} (h : LtQ w W p A2 n c2 l A6 c6 l6) (hb : Below W.heap.size W W') : LtQ w W' p A2 n c2 l A6 c6 l6 :=
  ⟨own_below h.own2 hb, own_below h.own6 hb, h.far, h.blk.below hb h.blk.lt, below_step h.bel hb⟩
theorem own_addr {w : World} {B e size n c : Nat} {A : Option Addr} {xs : List Value} (h : w.ownsRow B e size (.slice A n c) n xs) (h0 : 0 < n) : ∃ g, A = some ⟨g, 0, none⟩ := by
  rcases h.2 with ⟨_, h2⟩ | ⟨g, cap, cur, hv, _⟩
  · omega
  · injection hv with h1 _ _
    exact ⟨g, h1⟩
theorem LtQ.start {w W : World} {p n c2 c6 : Nat} {A2 A6 : Option Addr} {l : List IT} (h : LtQ w W p A2 n c2 l A6 c6 l) (i0 d : Nat) : LtQ w W p A2 n c2 l A6 c6 (Tl.lateTo l i0 d i0) := by rw [Tl.lateTo_start]; exact h
/-- A round of one of the late items. -/
theorem LtQ.late {w W : World} {p n c2 c6 g x d : Nat} {A2 : Option Addr} {l : List IT} {i0 : Nat} (h : LtQ w W p A2 n c2 l (some ⟨g, 0, none⟩) c6 (Tl.lateTo l i0 d x)) (hx : x < n) (h0 : i0 ≤ x) (hl : l.length = n) :
    W.cell? ⟨g, x * 4 + 2, none⟩ = some (.int .i64 (Tl.it l x).rd) ∧ W.frozen? ⟨g, x * 4 + 2, none⟩ = false ∧
    LtQ w (W.setCell ⟨g, x * 4 + 2, none⟩ (.int .i64 (((Tl.it l x).rd + d : Nat) : Int))) p A2 n c2 l (some ⟨g, 0, none⟩) c6 (Tl.lateTo l i0 d (x + 1)) := by
  have hlen := Tl.lateTo_len l i0 d x
  have hp : (Tl.lateTo l i0 d x)[x]? = some (Tl.it l x) := by
    rw [Tl.lateTo_get, Tl.it, List.getD_eq_getElem?_getD, List.getElem?_eq_getElem (by omega)]
    simp only [Option.map_some, Option.getD_some]
    rw [if_neg (by omega)]
  have hc := flat4_at _ x _ hp 2 _ rfl
  have hne : (Value.slice A2 n c2).ownBlock ≠ some g := by
    rcases h.far with hf | hf
    · rw [hf]; simp
    · exact hf
  refine ⟨by rw [h.own6.cellAt _ (by omega)]; exact hc, h.own6.frozenAt _, own_set_other h.own2 hne _, ?_, h.far, h.blk.far (fun e => own_blk_ne h.own6 h.blk (by decide) (by rw [e]; rfl)) _, h.bel.setCell (p := ⟨g, x * 4 + 2, none⟩) (own_ge h.own6 g rfl) _⟩
  have h1 := (h.own6.stored (x * 4 + 2) (.int .i64 (((Tl.it l x).rd + d : Nat) : Int))).1
  rw [flat4_set _ x _ _ hp, Tl.lateTo_succ l i0 d x h0 _ hp] at h1
  exact h1
/-- The late job in memory. -/
def LtJ (w : World) (p : Nat) (A2 : Option Addr) (n c2 : Nat) (l l6 : List IT) (v : Value) (W : World) : Prop :=
  ∃ (q c6 : Nat) (A6 : Option Addr), v = .pointer (some ⟨q, 0, none⟩) ∧ w.heap.size ≤ q ∧ Blk W q 27 #[.slice A6 n c6, .int .i64 12] ∧ LtQ w W p A2 n c2 l A6 c6 l6
theorem ltj_new {w W : World} {p n c2 c6 : Nat} {A2 A6 : Option Addr} {l l6 : List IT} (h : LtQ w W p A2 n c2 l A6 c6 l6) : LtJ w p A2 n c2 l l6 (.pointer (some ⟨W.heap.size, 0, none⟩)) (W.alloc (.cells #[.slice A6 n c6, .int .i64 12] 27)) :=
  ⟨_, c6, A6, rfl, h.bel.size, Blk.new W _ _, h.alloc _⟩
theorem ltj_set {w W : World} {p n c2 c6 q : Nat} {A2 A6 : Option Addr} {l l6 : List IT} {u0 u1 : Value} (h : LtQ w W p A2 n c2 l A6 c6 l6) (hq : Blk W q 27 #[u0, u1]) (hp : p ≠ q) (hw : w.heap.size ≤ q) :
    LtJ w p A2 n c2 l l6 (.pointer (some ⟨q, 0, none⟩)) ((W.setCell ⟨q, 0, none⟩ (.slice A6 n c6)).setCell ⟨q, 1, none⟩ (.int .i64 12)) :=
  ⟨q, c6, A6, rfl, hw, (hq.set_ 0 _).set_ 1 _, (h.set_ hq hp hw _).set_ (hq.set_ 0 _) hp hw _⟩
/-- The rows behind the append. -/
theorem ltq_grew {w W w6 : World} {p n c2 : Nat} {A2 : Option Addr} {l : List IT} {v0 v6 : Value} (ho : W.ownsRow w.heap.size 30 4 (.slice A2 n c2) n (flat4 l)) (hX : Blk W p 27 #[.slice A2 n c2, .int .i64 12]) (hb : Below w.heap.size w W)
    (h0 : W.ownsRow w.heap.size 30 4 v0 0 []) (ha : apart (.slice A2 n c2) v0) (hG : Grew W v0 v6 w6) (own6 : w6.ownsRow w.heap.size 30 4 v6 n (flat4 l)) :
    ∃ (A6 : Option Addr) (c6 : Nat), v6 = .slice A6 n c6 ∧ LtQ w w6 p A2 n c2 l A6 c6 l := by
  obtain ⟨A6, c6, rfl, _, _⟩ := own_form own6
  exact ⟨A6, c6, rfl, hG.keep ho ha, own6, hG.apart_l ho ha, hX.grown hG.grown (fun e => own_blk_ne h0 hX (by decide) e.symm), hb.trans (hG.below (own_ge h0) hb.size)⟩
/-- What Least left, in a later world. -/
def LsK (w : World) (l : List IT) (n : Nat) (S : Int) (A : Option Addr) (m c : Nat) (x : Int) (W : World) : Prop :=
  ∃ o : List Nat, Tl.Ord l o ∧ ((Tl.solve l 12 o = none ∧ S = 0 ∧ A = none ∧ m = 0 ∧ c = 0 ∧ x = 15) ∨
    ∃ (b K : List Nat) (g : Nat), Tl.solve l 12 o = some (b, K) ∧ S = (Tl.stepsOf K : Nat) ∧ A = some ⟨g, 0, none⟩ ∧ n = m ∧ n = c ∧ x = 0 ∧ W.ownsRow w.heap.size 3 1 (.slice (some ⟨g, 0, none⟩) n n) n (ints64 K))
theorem lsk_of {w wr W : World} {l : List IT} {n m c : Nat} {S x : Int} {A : Option Addr} (h : LsP l 12 n wr S A m c x W) (hw : w.heap.size ≤ wr.heap.size) : Below wr.heap.size wr W ∧ LsK w l n S A m c x W := by
  obtain ⟨o, ho, hb, h | ⟨b, K, g, h1, h2, h3, h4, h5, h6, h7⟩⟩ := h
  · exact ⟨hb, o, ho, .inl h⟩
  · exact ⟨hb, o, ho, .inr ⟨b, K, g, h1, h2, h3, h4, h5, h6, own_more h7 hw⟩⟩
theorem LsK.below {w W W' : World} {l : List IT} {n m c : Nat} {S x : Int} {A : Option Addr} (h : LsK w l n S A m c x W) (hb : Below W.heap.size W W') : LsK w l n S A m c x W' := by
  obtain ⟨o, ho, h | ⟨b, K, g, h1, h2, h3, h4, h5, h6, h7⟩⟩ := h
  · exact ⟨o, ho, .inl h⟩
  · exact ⟨o, ho, .inr ⟨b, K, g, h1, h2, h3, h4, h5, h6, own_below h7 hb⟩⟩
theorem LsK.alloc {w W : World} {l : List IT} {n m c : Nat} {S x : Int} {A : Option Addr} (h : LsK w l n S A m c x W) (o : Obj) : LsK w l n S A m c x (W.alloc o) := by
  obtain ⟨r, ho, h | ⟨b, K, g, h1, h2, h3, h4, h5, h6, h7⟩⟩ := h
  · exact ⟨r, ho, .inl h⟩
  · exact ⟨r, ho, .inr ⟨b, K, g, h1, h2, h3, h4, h5, h6, h7.alloc o⟩⟩
/-- Codes of a job and of its late one. -/
theorem late_codes {l l6 : List IT} (hl : Tl.Late l l6) {o o6 b6 K6 : List Nat} (ho : Tl.Ord l o) (ho6 : Tl.Ord l6 o6) (h6 : Tl.solve l6 12 o6 = some (b6, K6)) :
    ∃ b K, Tl.solve l 12 o = some (b, K) ∧ (∀ x, Tl.kAt K x ≤ Tl.kAt K6 x) ∧ Tl.stepsOf K ≤ Tl.stepsOf K6 ∧ Tl.Sol l6 12 K6 ∧ ∀ x, Tl.kAt K6 x < 4096 := by
  have hs := (Tl.solve_sol ho6 h6).1
  obtain ⟨b, K, h1, h2⟩ := Tl.solve_late hl hs ho
  have hlt := Tl.sol_lt hs
  have hk := (Tl.solve_sol ho h1).1
  refine ⟨b, K, h1, h2, ?_, hs, hlt⟩
  unfold Tl.stepsOf
  rw [hk.1, hs.1, hl.len]
  exact Tl.stepsTo_mono h2 hlt _
set_option linter.unusedVariables false in
set_option maxRecDepth 100000 in
set_option maxHeartbeats 4000000 in
theorem walk_TopLate (a0 : Option Addr) (len0 cap0 : Nat) (z0 : List Int) (a b : Int) (w : World) (w0 : IsRow .i64 w a0 len0 cap0 z0) (wa : (Lit.int .i64 a).wf = true) (wb : (Lit.int .i64 b).wf = true) :
    Calls Try.prog 3 #[.slice a0 len0 cap0, .int .i64 a, .int .i64 b] w fun e w' => e = .returned (.bool true) ∧ Below w.heap.size w w' := by
  obtain ⟨r0, m0, _⟩ := w0.reads
  clear w0
  generalize z0.take len0 = l0 at r0
  go_enter Try.func3, Try.ntmps3
  go_wp2_with fail
  refine (new_c _ _ _ _ _ m0 r0).mono ?_
  rintro e w1 ⟨rfl, hm1, hb1, hz1⟩
  go_wp2_with fail
  refine (job_c w.heap.size w.heap.size 0 12 w1 hm1 (by omega) (by omega) (by omega)).mono ?_
  rintro e w2 ⟨v2, l, c', k, rfl, hk, own2, hl12, hmade, _, hm2, hg2⟩
  have hb2 := hb1.trans (grown_below hg2 hb1.size (Nat.le_refl _))
  obtain ⟨A2, c2, rfl, k2, k2'⟩ := own_form own2
  clear hm1 hz1 hm2 hg2
  obtain ⟨n, hn⟩ : ∃ n, l.length = n := ⟨_, rfl⟩
  rw [hn] at own2 hl12 k2 ⊢
  have own2a := own_more own2 hb1.size
  obtain ⟨W3, hW3⟩ : ∃ W3, w2.alloc (.cells #[.slice A2 n c2, .int .i64 k] 27) = W3 := ⟨_, rfl⟩
  have hX : Blk W3 w2.heap.size 27 #[.slice A2 n c2, .int .i64 k] := by rw [← hW3]; exact Blk.new w2 _ _
  have hb3 : Below w.heap.size w W3 := by rw [← hW3]; exact hb2.alloc hb2.size _
  have own3 : W3.ownsRow w.heap.size 30 4 (.slice A2 n c2) n (flat4 l) := by rw [← hW3]; exact own2a.alloc _
  obtain ⟨p, hp⟩ : ∃ p, w2.heap.size = p := ⟨_, rfl⟩
  rw [hp] at hX
  have hpw : w.heap.size ≤ p := by rw [← hp]; exact hb2.size
  clear own2 own2a hb2
  go_upto_region 3 with fail
  clear hW3 hp
  have x0 := hX.cell 0
  have x1 := hX.cell 1
  have f1 := hX.frozen 1
  simp at x0 x1
  have hX4 := hX.set_ 1 (.int .i64 12)
  have q0 := hX4.cell 0
  have q1 := hX4.cell 1
  simp at q0 q1
  have own4 := own_set_other (j := 1) own3 (own_blk_ne own3 hX (by decide)) (.int .i64 12)
  have hb4 := hb3.setCell (p := ⟨p, 1, none⟩) hpw (.int .i64 12)
  have t1 := tmod_bd a ((n : Int) + 1) (by omega)
  have t2 := tmod_bd b 4 (by omega)
  clear hX own3 hb3
  go_upto_region 6 with fail
  obtain ⟨i0, hi0, hie⟩ : ∃ i0 : Nat, i0 ≤ n ∧ (a.tmod ((n : Int) + 1) + (n : Int) + 1) % ((n : Int) + 1) = (i0 : Int) := by
    have := mod_bd (a.tmod ((n : Int) + 1) + (n : Int) + 1) ((n : Int) + 1) (by omega)
    exact ⟨((a.tmod ((n : Int) + 1) + (n : Int) + 1) % ((n : Int) + 1)).toNat, by omega, by omega⟩
  obtain ⟨d, hd, hde⟩ : ∃ d : Nat, d ≤ 3 ∧ (b.tmod 4 + 4) % 4 = (d : Int) := by
    have := mod_bd (b.tmod 4 + 4) 4 (by omega)
    exact ⟨((b.tmod 4 + 4) % 4).toNat, by omega, by omega⟩
  simp only [hie, hde]
  generalize W3.setCell ⟨p, 1, none⟩ (.int .i64 12) = W5 at *
  obtain ⟨iP, zP, i1, i2, i3, i4, i5⟩ := sl_item.info
  have own5 := own_drew own4
  have hb5 : Below w.heap.size w W5.drew := hb4.trans (below_drew' (Below.refl _ _))
  have hle5 : w.heap.size ≤ W5.drew.heap.size := hb5.size
  have hX5 : Blk W5.drew p 27 _ := hX4
  have q0a := fun o : Obj => cell_alloc q0 o
  have q1a := fun o : Obj => cell_alloc q1 o
  have hR5 := Reads.of_own own5
  have q0b := fun o o' : Obj => cell_alloc (cell_alloc q0 o) o'
  have q1b := fun o o' : Obj => cell_alloc (cell_alloc q1 o) o'
  have hle5a : w.heap.size ≤ (W5.drew.alloc (.cells #[] 30)).heap.size := by simp only [World.size_alloc]; omega
  clear own4 hb4 t1 t2 hie hde
  have hz : Blk W5.drew p 27 #[.slice A2 n c2, .int .i64 12] := hX5
  have own0 : ∀ W : World, w.heap.size ≤ W.heap.size → (W.alloc (.cells #[] 30)).ownsRow w.heap.size 30 4 (.slice (some ⟨W.heap.size, 0, none⟩) 0 0) 0 [] := fun W h => World.ownsRow_lit W #[] 0 h (by simp [maxLen]) rfl
  have hpl : p < W5.drew.heap.size := hz.lt
  have oA := own0 W5.drew hle5
  have oB := oA.alloc (.cells #[.slice none 0 0, .int .i64 0] 27)
  have hleB : w.heap.size ≤ ((W5.drew.alloc (.cells #[] 30)).alloc (.cells #[.slice none 0 0, .int .i64 0] 27)).heap.size := by simp only [World.size_alloc] at hle5a ⊢; omega
  have hleC0 : w.heap.size ≤ (W5.drew.alloc (.cells #[.slice none 0 0, .int .i64 0] 27)).heap.size := by simp only [World.size_alloc]; omega
  have hR1 : W5.drew.heap.size ≤ (W5.drew.alloc (.cells #[] 30)).heap.size := by simp only [World.size_alloc]; omega
  have hR2 : W5.drew.heap.size ≤ (W5.drew.alloc (.cells #[.slice none 0 0, .int .i64 0] 27)).heap.size := by simp only [World.size_alloc]; omega
  have hleC : w.heap.size ≤ ((W5.drew.alloc (.cells #[.slice none 0 0, .int .i64 0] 27)).alloc (.cells #[] 30)).heap.size := by simp only [World.size_alloc] at hleC0 ⊢; omega
  have oC : ((W5.drew.alloc (.cells #[.slice none 0 0, .int .i64 0] 27)).alloc (.cells #[] 30)).ownsRow w.heap.size 30 4 (.slice (some ⟨W5.heap.size + 1, 0, none⟩) 0 0) 0 [] := by
    have := own0 (W5.drew.alloc (.cells #[.slice none 0 0, .int .i64 0] 27)) hleC0
    rw [World.size_alloc] at this
    exact this
  have aA := tl_apart_new own5 0 0
  have aC : apart (.slice A2 n c2) (.slice (some ⟨W5.heap.size + 1, 0, none⟩) 0 0) := by
    have := tl_apart_new (own5.alloc (.cells #[.slice none 0 0, .int .i64 0] 27)) 0 0
    rw [World.size_alloc] at this
    exact this
  have hqB := Blk.new (W5.drew.alloc (.cells #[] 30)) 27 #[.slice none 0 0, .int .i64 0]
  have hqC := (Blk.new W5.drew 27 #[.slice none 0 0, .int .i64 0]).alloc (.cells #[] 30)
  have KB : ∀ v6 w6, w6.ownsRow w.heap.size 30 4 v6 (0 + n) ([] ++ flat4 l) → ((W5.drew.alloc (.cells #[] 30)).alloc (.cells #[.slice none 0 0, .int .i64 0] 27)).grownBy w6 (some W5.heap.size) → (v6.ownBlock = some W5.heap.size ∨ v6.ownBlock = some ((W5.drew.alloc (.cells #[] 30)).alloc (.cells #[.slice none 0 0, .int .i64 0] 27)).heap.size) →
      ∃ (A6 : Option Addr) (c6 : Nat), v6 = .slice A6 n c6 ∧ LtQ w w6 p A2 n c2 l A6 c6 l ∧ Blk w6 (W5.heap.size + 1) 27 #[.slice none 0 0, .int .i64 0] := fun v6 w6 own6 hg6 hp6 => by
    obtain ⟨A6, c6, h1, hQ⟩ := ltq_grew ((own5.alloc _).alloc _) ((hz.alloc _).alloc _) ((hb5.alloc hle5 _).alloc hle5a _) oB aA ⟨hg6, hp6.imp id (fun h => ⟨_, h, Nat.le_refl _⟩)⟩ (own_cat0 own6)
    have hq := hqB.grown hg6 (fun e => own_blk_ne oB hqB (by decide) e.symm)
    rw [World.size_alloc] at hq
    exact ⟨A6, c6, h1, hQ, hq⟩
  have KC : ∀ v6 w6, w6.ownsRow w.heap.size 30 4 v6 (0 + n) ([] ++ flat4 l) → ((W5.drew.alloc (.cells #[.slice none 0 0, .int .i64 0] 27)).alloc (.cells #[] 30)).grownBy w6 (some (W5.heap.size + 1)) → (v6.ownBlock = some (W5.heap.size + 1) ∨ v6.ownBlock = some ((W5.drew.alloc (.cells #[.slice none 0 0, .int .i64 0] 27)).alloc (.cells #[] 30)).heap.size) →
      ∃ (A6 : Option Addr) (c6 : Nat), v6 = .slice A6 n c6 ∧ LtQ w w6 p A2 n c2 l A6 c6 l ∧ Blk w6 W5.heap.size 27 #[.slice none 0 0, .int .i64 0] := fun v6 w6 own6 hg6 hp6 => by
    obtain ⟨A6, c6, h1, hQ⟩ := ltq_grew ((own5.alloc _).alloc _) ((hz.alloc _).alloc _) ((hb5.alloc hle5 _).alloc hleC0 _) oC aC ⟨hg6, hp6.imp id (fun h => ⟨_, h, Nat.le_refl _⟩)⟩ (own_cat0 own6)
    have hq := hqC.grown hg6 (fun e => own_blk_ne oC hqC (by decide) e.symm)
    exact ⟨A6, c6, h1, hQ, hq⟩
  have hpB : p ≠ W5.heap.size + 1 := by have : p < W5.heap.size := hpl; omega
  have hpC : p ≠ W5.heap.size := by have : p < W5.heap.size := hpl; omega
  have hwC : w.heap.size ≤ W5.heap.size := hle5
  have hwB : w.heap.size ≤ W5.heap.size + 1 := by omega
  have HM := Lib.hid hmade
  have Hn := Lib.hid hn
  clear hX4 hX5 hmade hn
  go_cut [10] from 41 to 47 (fun v W => LtJ w p A2 n c2 l l v W)
  case first =>
    go_region_law (first
      | (refine step_append_any _ rfl (.tmp 43) (.tmp 45) 25 rfl w.heap.size 30 iP zP 4 32 sl_item.under i1 i2 i3 i4 i5 (by omega) _ 0 [] rfl oA _ A2 n c2 _ rfl (hR5.alloc (Nat.le_refl _) _) (one_flat4 _) (by simp only [maxLen]; omega) (by omega) hle5a ?_
         intro v6 w6 own6 hg6 hp6
         obtain ⟨A6, c6, rfl, hQ⟩ := ltq_grew (own5.alloc _) (hz.alloc _) (hb5.alloc hle5 _) oA aA ⟨hg6, hp6.imp id (fun h => ⟨_, h, Nat.le_refl _⟩)⟩ (own_cat0 own6)
         have e1 : w6.cell? ⟨p, 1, none⟩ = some (.int .i64 12) := hQ.blk.cell 1
         have e1a := fun o : Obj => cell_alloc e1 o)
      | (refine step_append_any _ rfl (.tmp 43) (.tmp 45) 25 rfl w.heap.size 30 iP zP 4 32 sl_item.under i1 i2 i3 i4 i5 (by omega) _ 0 [] rfl oC _ A2 n c2 _ rfl ((hR5.alloc (Nat.le_refl _) _).alloc hR2 _) (one_flat4 _) (by simp only [maxLen]; omega) (by omega) hleC ?_
         intro v6 w6 own6 hg6 hp6
         obtain ⟨A6, c6, rfl, hQ, hq⟩ := KC v6 w6 own6 hg6 hp6
         have e1 : w6.cell? ⟨p, 1, none⟩ = some (.int .i64 12) := hQ.blk.cell 1
         have c0 : w6.cell? ⟨W5.heap.size, 0, none⟩ = some (.slice none 0 0) := hq.cell 0
         have c1 : w6.cell? ⟨W5.heap.size, 1, none⟩ = some (.int .i64 0) := hq.cell 1
         have f0 : w6.frozen? ⟨W5.heap.size, 0, none⟩ = false := hq.frozen 0
         have f1' : w6.frozen? ⟨W5.heap.size, 1, none⟩ = false := hq.frozen 1)
      | (refine step_append_any _ rfl (.tmp 43) (.tmp 45) 25 rfl w.heap.size 30 iP zP 4 32 sl_item.under i1 i2 i3 i4 i5 (by omega) _ 0 [] rfl oB _ A2 n c2 _ rfl ((hR5.alloc (Nat.le_refl _) _).alloc hR1 _) (one_flat4 _) (by simp only [maxLen]; omega) (by omega) hleB ?_
         intro v6 w6 own6 hg6 hp6
         obtain ⟨A6, c6, rfl, hQ, hq⟩ := KB v6 w6 own6 hg6 hp6
         have e1 : w6.cell? ⟨p, 1, none⟩ = some (.int .i64 12) := hQ.blk.cell 1
         have c0 : w6.cell? ⟨W5.heap.size + 1, 0, none⟩ = some (.slice none 0 0) := hq.cell 0
         have c1 : w6.cell? ⟨W5.heap.size + 1, 1, none⟩ = some (.int .i64 0) := hq.cell 1
         have f0 : w6.frozen? ⟨W5.heap.size + 1, 0, none⟩ = false := hq.frozen 0
         have f1' : w6.frozen? ⟨W5.heap.size + 1, 1, none⟩ = false := hq.frozen 1))
    all_goals
      clear HM Hn KB KC q0a q1a q0b q1b q0 q1 own0 oA oB oC hqB hqC
      go_wp2_with fail
      go_meet
      case rel => first | exact ltj_new hQ | exact ltj_set hQ hq hpB hwB | exact ltj_set hQ hq hpC hwC
  case rest =>
    obtain ⟨q, c6, A6, rfl, hwq, hq, hQ⟩ := hcut
    clear KB KC q0a q1a q0b q1b q0 q1 own0 oA oB oC hqB hqC hpB hpC hwB aA aC own5 hR5 hR1 hR2 hleB hleC hleC0 hle5a hz hpl hb5 hle5 i1 i2 i3 i4 i5
    have own6s := hQ.start i0 d
    clear hQ
    go_wp2_with fail
    go_loopw [11] (fun v wr => ∃ i : Nat, v = .int .i64 i ∧ i0 ≤ i ∧ i ≤ n ∧ Blk wr q 27 #[.slice A6 n c6, .int .i64 12] ∧ LtQ w wr p A2 n c2 l A6 c6 (Tl.lateTo l i0 d i)) (fun v _ => n - (intOf v).toNat)
    case atStart => exact ⟨i0, rfl, Nat.le_refl _, hi0, hq, own6s⟩
    case round =>
      obtain ⟨i, rfl, h0i, hin, hqr, hQr⟩ := hrel
      rcases Nat.lt_or_ge i n with hlt | hge
      · obtain ⟨g, rfl⟩ := own_addr hQr.own6 (by omega)
        obtain ⟨hcell, hfz, hQn⟩ := hQr.late hlt h0i Hn.out
        have hj0 := hqr.cell 0
        simp at hj0
        have hrd := (HM.out.its _ (Tl.it_mem (l := l) (x := i) (by have := Hn.out; omega))).2.2.1
        have hqn := hqr.far (p := ⟨g, i * 4 + 2, none⟩) (fun e => own_blk_ne hQr.own6 hqr (by decide) (by rw [e]; rfl)) (.int .i64 (((Tl.it l i).rd + d : Nat) : Int))
        clear hQr hqr hq own6s
        go_wp2_with fail
        go_roundw
        case rel => exact ⟨i + 1, rfl, by omega, by omega, hqn, hQn⟩
        case measure => simp [intOf]; omega
      · obtain rfl : n = i := by omega
        have HJ := Lib.hid (Tl.made_ok HM.out (by omega) (by have := Hn.out; omega))
        have HJ6 := Lib.hid (Tl.late_ok (l := l) (a := i0) (b := d) HM.out hd (by have := Hn.out; omega))
        have HLt := Lib.hid (Tl.lateTo_late l i0 d l.length)
        have hll : Tl.lateTo l i0 d n = Tl.lateTo l i0 d l.length := by rw [Hn.out]
        rw [hll] at hQr
        obtain ⟨l6, hl6⟩ : ∃ l6, Tl.lateTo l i0 d l.length = l6 := ⟨_, rfl⟩
        rw [hl6] at hQr HJ6 HLt
        clear hll hl6 hq own6s hi0 h0i hin
        have HL1 := Lib.hid (least_c A2 n c2 12 l wr HJ.out hl12 (own_IR4 hQr.own2))
        unfold jobV at HL1
        have jp0 := hQr.blk.cell 0
        have jp1 := hQr.blk.cell 1
        simp at jp0 jp1
        go_wp2_with fail
        refine HL1.out.mono ?_
        intro e wa hls
        obtain ⟨S1, A1, m1, d1, x1, rfl, hLs⟩ := lsr_form hls
        obtain ⟨hba, hK1⟩ := lsk_of (w := w) hLs hQr.bel.size
        have hqa := hqr.below hba hqr.lt
        have hQa := hQr.below hba
        clear hls hLs HL1 jp0 jp1 hqr hQr hba
        obtain ⟨W6, hW6⟩ : ∃ W6, wa.alloc (.cells #[.int .i64 S1, .slice A1 m1 d1] 32) = W6 := ⟨_, rfl⟩
        have hP1 : Blk W6 wa.heap.size 32 #[.int .i64 S1, .slice A1 m1 d1] := by rw [← hW6]; exact Blk.new wa _ _
        replace hqa := hqa.alloc (.cells #[.int .i64 S1, .slice A1 m1 d1] 32)
        replace hQa := hQa.alloc (.cells #[.int .i64 S1, .slice A1 m1 d1] 32)
        replace hK1 := hK1.alloc (.cells #[.int .i64 S1, .slice A1 m1 d1] 32)
        rw [hW6] at hqa hQa hK1
        obtain ⟨P1, hp1⟩ : ∃ P1, wa.heap.size = P1 := ⟨_, rfl⟩
        rw [hp1] at hP1
        have HL2 := Lib.hid (least_c A6 n c6 12 l6 W6 HJ6.out hl12 (own_IR4 hQa.own6))
        unfold jobV at HL2
        have jq0 := hqa.cell 0
        have jq1 := hqa.cell 1
        simp at jq0 jq1
        have HK1 := Lib.hid hK1
        clear hK1
        go_wp2_with fail
        clear hW6 hp1
        refine HL2.out.mono ?_
        intro e wb hls
        obtain ⟨S2, A3, m2, d2, x2, rfl, hLs⟩ := lsr_form hls
        obtain ⟨hbb, hK2⟩ := lsk_of (w := w) hLs hQa.bel.size
        have hqb := hqa.below hbb hqa.lt
        have hQb := hQa.below hbb
        have hPb := hP1.below hbb hP1.lt
        have hK1 := HK1.out.below hbb
        clear hls hLs HL2 jq0 jq1 hqa hQa hbb HK1 hP1
        obtain ⟨W7, hW7⟩ : ∃ W7, wb.alloc (.cells #[.int .i64 S2, .slice A3 m2 d2] 32) = W7 := ⟨_, rfl⟩
        have hP2 : Blk W7 wb.heap.size 32 #[.int .i64 S2, .slice A3 m2 d2] := by rw [← hW7]; exact Blk.new wb _ _
        replace hqb := hqb.alloc (.cells #[.int .i64 S2, .slice A3 m2 d2] 32)
        replace hQb := hQb.alloc (.cells #[.int .i64 S2, .slice A3 m2 d2] 32)
        replace hK1 := hK1.alloc (.cells #[.int .i64 S2, .slice A3 m2 d2] 32)
        replace hK2 := hK2.alloc (.cells #[.int .i64 S2, .slice A3 m2 d2] 32)
        replace hPb := hPb.alloc (.cells #[.int .i64 S2, .slice A3 m2 d2] 32)
        rw [hW7] at hqb hQb hK1 hK2 hPb
        obtain ⟨P2, hp2⟩ : ∃ P2, wb.heap.size = P2 := ⟨_, rfl⟩
        rw [hp2] at hP2
        have HK1 := Lib.hid hK1
        have HK2 := Lib.hid hK2
        clear hK1 hK2
        go_upto_region 13 with fail
        clear hW7 hp2
        have hbw := hQb.bel
        have HA := Lib.hid (awake_c W7)
        obtain ⟨o1, ho1, hc1⟩ := HK1.out
        obtain ⟨o2, ho2, hc2⟩ := HK2.out
        clear HK1 HK2
        rcases hc2 with ⟨hno, rfl, rfl, rfl, rfl, rfl⟩ | ⟨b6, K6, g6, hso6, rfl, rfl, rfl, rfl, rfl, own6k⟩
        · have hx1 : x1 = 15 ∨ x1 = 0 := by
            rcases hc1 with ⟨_, _, _, _, _, h⟩ | ⟨_, _, _, _, _, _, _, _, h, _⟩
            · exact .inl h
            · exact .inr h
          clear hc1 hno
          rcases hx1 with rfl | rfl
          all_goals
            go_wp2_with fail
            refine HA.out.mono ?_
            rintro e w8 ⟨rfl, hb8⟩
            have hb9 := below_step hbw hb8
            clear hb8 HA hQb hqb hPb hP2
            go_wp2_with fail
            go_ret
            exact ⟨rfl, hb9⟩
        · obtain ⟨b1, K1, hso1, hle1, hst1, hsol6, hlt6⟩ := late_codes HLt.out ho1 ho2 hso6
          rcases hc1 with ⟨hno, _⟩ | ⟨b1', K1', g1, hso1', rfl, rfl, rfl, rfl, rfl, own1k⟩
          · rw [hso1] at hno; cases hno
          · rw [hso1] at hso1'
            cases hso1'
            clear hso1 hso6
            have hsteps := Tl.sol_steps hsol6
            have HPl := Lib.hid (Tl.sol_plan hsol6 hsteps.1 hsteps.2)
            have HSd := Lib.hid (Tl.run_SortedT hsol6 HJ6.out.mono hsteps.2)
            have hrl : (Tl.run l6 K6 (Tl.stepsOf K6)).tn.length ≤ 1000000 := by
              have h1 := (Tl.run_trains (Tl.sol_fit hsol6 HJ6.out.mono hsteps.2) (fun x hx => Tl.sol_rd hsol6 hsteps.2 hx)).1
              have h2 : Tl.nTn l6 ≤ 16 := Tl.nTn_le fun x hx => by have := (HJ6.out.its x hx).1; omega
              omega
            have HRl := Lib.hid hrl
            have HLe := Lib.hid hle1
            clear hrl hsteps hle1 hsol6 hlt6
            obtain ⟨T1, hT1⟩ : ∃ T1, Tl.stepsOf K1 = T1 := ⟨_, rfl⟩
            obtain ⟨T2, hT2⟩ : ∃ T2, Tl.stepsOf K6 = T2 := ⟨_, rfl⟩
            simp only [hT1, hT2] at hst1 hPb hP2 HPl HSd HRl ⊢
            clear hT1 hT2
            have e10 : W7.cell? ⟨P1, 0, none⟩ = some (.int .i64 (T1 : Int)) := hPb.cell 0
            have e11 : W7.cell? ⟨P1, 1, none⟩ = some (.slice (some ⟨g1, 0, none⟩) n n) := hPb.cell 1
            have e20 : W7.cell? ⟨P2, 0, none⟩ = some (.int .i64 (T2 : Int)) := hP2.cell 0
            have e21 : W7.cell? ⟨P2, 1, none⟩ = some (.slice (some ⟨g6, 0, none⟩) n n) := hP2.cell 1
            have hd1 : decide ((T2 : Int) < (T1 : Int)) = false := by simp; omega
            have hd2 : decide (T2 < T1) = false := by simp; omega
            go_wp2_with fail
            go_loopw [16, 115] (fun _ v wr2 => ∃ k i : Nat, i ≤ n ∧ v = .int .i64 i ∧ wr2 = W7.drewN k) (fun _ v _ => n - (intOf v).toNat)
            case atStart => exact ⟨0, 0, Nat.zero_le _, rfl, rfl⟩
            case round =>
              obtain ⟨k', i, hin, rfl, rfl⟩ := hrel
              rcases Nat.lt_or_ge i n with hlt2 | hge2
              · have y1 := own64_cell own1k hlt2
                have y6 := own64_cell own6k hlt2
                have hy := HLe.out i
                unfold Tl.kAt at hy
                obtain ⟨z1, hz1⟩ : ∃ z1, K1.getD i 0 = z1 := ⟨_, rfl⟩
                obtain ⟨z6, hz6⟩ : ∃ z6, K6.getD i 0 = z6 := ⟨_, rfl⟩
                rw [hz1] at y1 hy
                rw [hz6] at y6 hy
                have hd3 : decide ((z6 : Int) < (z1 : Int)) = false := by simp; omega
                have hd4 : decide (z6 < z1) = false := by simp; omega
                clear hz1 hz6
                go_wp2_with fail
                go_quiet (fail)
                go_wp2_with fail
                go_roundw
                case rel => exact ⟨_, i + 1, by omega, rfl, rfl⟩
                case measure => simp [intOf]; omega
              · obtain rfl : n = i := by omega
                have hdr : Below W7.heap.size W7 (W7.drewN k') := below_drewN (Below.refl _ _) k'
                have hQy := hQb.below hdr
                have own6y := own_below own6k hdr
                have hqy := hqb.below hdr hqb.lt
                have HR := Lib.hid (rrun_c A6 (some ⟨g6, 0, none⟩) n c6 12 T2 n l6 K6 (W7.drewN k') HJ6.out HPl.out (own_IR4 hQy.own6) (NR.of_own own6y))
                unfold jobV planV at HR
                unfold RunV at HR
                obtain ⟨R, hR⟩ : ∃ R, Tl.run l6 K6 T2 = R := ⟨_, rfl⟩
                rw [hR] at HSd HRl HR
                have jq0 : W7.cell? ⟨q, 0, none⟩ = some (.slice A6 n c6) := hqb.cell 0
                have jq1 : W7.cell? ⟨q, 1, none⟩ = some (.int .i64 12) := hqb.cell 1
                have hbx := hQy.bel.size
                clear hR hdr hQb hqb own6y own6k own1k hbw HA hPb hP2
                go_wp2_with fail
                refine HR.out.mono ?_
                rintro e w8 ⟨vT, vsT, rfl, hLL, hb8⟩
                obtain ⟨AT, cT, rfl, _, _⟩ := own_form hLL.outer
                have hQ8 := hQy.below hb8
                have hq8 := hqy.below hb8 hqy.lt
                have hLR : LLR w8 AT R.tn.length R.tn vsT := hLL.reads
                clear hQy hqy hLL HR jq0 jq1 e10 e11 e20 e21 hb8 hbx
                obtain ⟨W9, hW9⟩ : ∃ W9, w8.alloc (.cells #[.slice AT R.tn.length cT, .int .i64 R.mv] 39) = W9 := ⟨_, rfl⟩
                have hS : Blk W9 w8.heap.size 39 #[.slice AT R.tn.length cT, .int .i64 R.mv] := by rw [← hW9]; exact Blk.new w8 _ _
                have hLR9 : LLR W9 AT R.tn.length R.tn vsT := by rw [← hW9]; exact hLR.below ((Below.refl _ _).alloc (Nat.le_refl _) _)
                replace hQ8 := hQ8.alloc (.cells #[.slice AT R.tn.length cT, .int .i64 R.mv] 39)
                replace hq8 := hq8.alloc (.cells #[.slice AT R.tn.length cT, .int .i64 R.mv] 39)
                rw [hW9] at hQ8 hq8
                obtain ⟨sb, hsb⟩ : ∃ sb, w8.heap.size = sb := ⟨_, rfl⟩
                rw [hsb] at hS
                have jq0 : W9.cell? ⟨q, 0, none⟩ = some (.slice A6 n c6) := hq8.cell 0
                have jq1 : W9.cell? ⟨q, 1, none⟩ = some (.int .i64 12) := hq8.cell 1
                have js0 : W9.cell? ⟨sb, 0, none⟩ = some (.slice AT R.tn.length cT) := hS.cell 0
                have HS := Lib.hid (sorted_c A6 AT n c6 12 R.tn.length cT l6 R.tn vsT W9 HJ6.out (own_IR4 hQ8.own6) hLR9 HSd.out HRl.out)
                unfold jobV at HS
                have hb9 := hQ8.bel
                clear hLR hLR9 hS hQ8 hq8
                go_wp2_with fail
                clear hW9 hsb
                refine HS.out.mono ?_
                rintro e w10 ⟨rfl, hb10⟩
                have hb11 := below_step hb9 hb10
                have HA := Lib.hid (awake_c w10)
                clear hb9 hb10 HS jq0 jq1 js0
                go_wp2_with fail
                refine HA.out.mono ?_
                rintro e w11 ⟨rfl, hb12⟩
                have hb13 := below_step hb11 hb12
                clear hb11 hb12 HA
                go_wp2_with fail
                go_ret
                exact ⟨rfl, hb13⟩
end Go.Proofs.Ytlljanbhbnempaa
