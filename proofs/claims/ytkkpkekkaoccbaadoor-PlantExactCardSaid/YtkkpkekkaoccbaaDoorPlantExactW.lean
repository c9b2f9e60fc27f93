/- The walk of 'PlantExact'. -/
import Derived.Test.YtkkpkekkaoccbaaDoorPlY0
import Derived.Test.YtkkpkekkaoccbaaDoorPlG4
namespace Go.Proofs.YtkkpkekkaoccbaaDoor
open Go.RowKit
/-- The three lists: the made, the spoiled, the longer one. -/
structure E3 (w : World) (g c bx b' bz : Nat) (x y z : Value) (nx ny nz : Nat) (lx ly lz : List PE) (wr : World) : Prop where
  mkr : Mk w.heap.size wr g c
  ox : wr.ownsRow bx 40 6 x nx (flat6 lx)
  oy : wr.ownsRow b' 40 6 y ny (flat6 ly)
  oz : wr.ownsRow bz 40 6 z nz (flat6 lz)
  bel : Below w.heap.size w wr
section
variable {w wr w' : World} {g c bx b' bz nx ny nz : Nat} {x y z : Value} {lx ly lz : List PE}
theorem E3.next (h : E3 w g c bx b' bz x y z nx ny nz lx ly lz wr) {c' : Nat} (m : Mk w.heap.size w' g c') (hg : wr.grownBy w' (some g)) (hgw : w.heap.size ≤ g) : E3 w g c' bx b' bz x y z nx ny nz lx ly lz w' :=
  ⟨m, h.ox.kept hg (.inr (h.mkr.ne h.ox (by decide))), h.oy.kept hg (.inr (h.mkr.ne h.oy (by decide))), h.oz.kept hg (.inr (h.mkr.ne h.oz (by decide))), h.bel.trans (grown_below hg h.bel.size hgw)⟩
theorem E3.below (h : E3 w g c bx b' bz x y z nx ny nz lx ly lz wr) (hb : Below wr.heap.size wr w') : E3 w g c bx b' bz x y z nx ny nz lx ly lz w' :=
  ⟨h.mkr.below hb, own_below h.ox hb, own_below h.oy hb, own_below h.oz hb, below_step h.bel hb⟩
theorem E3.alloc (h : E3 w g c bx b' bz x y z nx ny nz lx ly lz wr) (o : Obj) : E3 w g c bx b' bz x y z nx ny nz lx ly lz (wr.alloc o) :=
  h.below ((Below.refl _ _).alloc (Nat.le_refl _) o)
/-- The third list is new or has grown. -/
theorem E3.grow {z' : Value} {nz' bz' : Nat} {lz' : List PE} (h : E3 w g c bx b' bz x y z nx ny nz lx ly lz wr) {row : Option Nat} (hg : wr.grownBy w' row) (hr : ∀ b, row = some b → w.heap.size ≤ b ∧ b ≠ g ∧ x.ownBlock ≠ some b ∧ y.ownBlock ≠ some b)
    (hz : w'.ownsRow bz' 40 6 z' nz' (flat6 lz')) : E3 w g c bx b' bz' x y z' nx ny nz' lx ly lz' w' := by
  have key : ∀ v : Value, (∀ b, row = some b → v.ownBlock ≠ some b) → v.ownBlock = none ∨ v.ownBlock ≠ row := by
    intro v hv
    cases row with
    | none => cases v.ownBlock <;> simp
    | some b => exact .inr (hv b rfl)
  refine ⟨h.mkr.grown hg (fun e => (hr g e).2.1 rfl) (fun b e => (hr b e).1), h.ox.kept hg (key _ fun b e => (hr b e).2.2.1), h.oy.kept hg (key _ fun b e => (hr b e).2.2.2), hz, h.bel.trans ((Below.refl _ _).grown hg h.bel.size (fun b e => (hr b e).1))⟩
end
set_option maxRecDepth 100000 in
set_option maxHeartbeats 8000000 in
theorem walk_PlantExact (a0 : Option Addr) (len0 cap0 : Nat) (z0 : List Int) (a1 : Option Addr) (len1 cap1 : Nat) (l1 : List PE) (a2 a3 : Int) (mx : Int) (w : World) (w0 : IsRow .i64 w a0 len0 cap0 z0)
    (w1 : PR6 w a1 len1 l1 ∧ len1 ≤ maxLen ∧ ∀ x ∈ l1, x.nm.size ≤ maxLen) (w2 : (Lit.int .i64 a2).wf = true) (_w3 : (Lit.int .i64 a3).wf = true) (hmx : w.cell? ⟨0, 0, none⟩ = some (.int .i64 mx)) (ht : Tab10 w) :
    Calls Tryd.prog 6 #[.slice a0 len0 cap0, .slice a1 len1 cap1, .int .i64 a2, .int .i64 a3] w fun e w' => e = .returned (.bool true) ∧ Below w.heap.size w w' := by
  obtain ⟨r0, m0, _⟩ := w0.reads
  clear w0
  generalize z0.take len0 = l0 at r0
  obtain ⟨hl1, hlm, hln⟩ := w1
  have Hln := Lib.hid hln
  clear hln
  have hi2 : -9223372036854775808 ≤ a2 ∧ a2 ≤ 9223372036854775807 := by
    have := w2
    simp [Lit.wf] at this
    have e1 : IntKind.i64.min = -9223372036854775808 := rfl
    have e2 : IntKind.i64.max = 9223372036854775807 := rfl
    omega
  clear w2
  obtain ⟨i0, z0', hi0, hz0, hz1, hz2, hzs⟩ := sl6.info
  go_enter Tryd.func6, Tryd.ntmps6
  go_wp2_with fail
  refine (new_c _ _ _ _ _ m0 r0).mono ?_
  rintro e w1 ⟨rfl, hm1, hb1, hz1'⟩
  clear r0 m0
  go_wp2_with fail
  refine (made_c w.heap.size w.heap.size 0 14 w1 hm1 (by omega) (by omega) hb1.size).mono ?_
  rintro e w2 ⟨A, n, cp, l, c2, rfl, ox2, hR2, hn1, hn96, _, _, _, Hnm, hc2, hm2, hg2⟩
  have hb2 := hb1.trans (grown_below hg2 hb1.size (Nat.le_refl _))
  clear hm1 hg2 hz1'
  go_wp2_with fail
  refine (spoilPlant_c w.heap.size w.heap.size c2 n cp A l w2 hm2 (by omega) (by omega) hn1 hb2.size hR2 (fun x hx => by have := Hnm.out x hx; omega)).mono ?_
  rintro e w3 ⟨v3, l3, c3, rfl, oy3, hnm3, hc3, hm3, hg3⟩
  have Hnm3 := Lib.hid hnm3
  have ox3 := ox2.kept hg3 (.inr (hm2.ne ox2 (by decide)))
  have hb3 := hb2.trans (grown_below hg3 hb2.size (Nat.le_refl _))
  obtain ⟨A3, cp3, rfl, _, _⟩ := own_form oy3
  clear hR2 hm2 hg3 hnm3 ox2
  have hE3 : E3 w w.heap.size c3 w1.heap.size w2.heap.size w3.heap.size (.slice A n cp) (.slice A3 n cp3) (.slice (some ⟨w3.heap.size, 0, none⟩) 0 0) n n 0 l l3 [] (w3.alloc (.cells #[] 40)) :=
    ⟨hm3.alloc _, ox3.alloc _, oy3.alloc _, World.ownsRow_lit w3 #[] 0 (Nat.le_refl _) (by simp [maxLen]) rfl, hb3.alloc hb3.size _⟩
  have hR3 : Reads (w3.alloc (.cells #[] 40)) w3.heap.size 6 A n (flat6 l) := Reads.alloc (own_PR6 ox3) (Nat.le_refl _) _
  have own0 := hE3.oz
  have hne3 : ∀ v : Value, v.ownBlock ≠ some w3.heap.size ∨ True := fun _ => .inr trivial
  have hxlt := ox3.lt
  have hylt := oy3.lt
  have hw3 := hm3.lt
  clear hne3 hm3
  have HE3 := Lib.hid hE3
  clear hE3
  go_wp2_with (at_builtin
               go_must (
               refine wpList_append_any _ rfl (.tmp 23) (.tmp 24) 28 rfl w3.heap.size 40 i0 z0' 6 56 Tryd.underlying28 hi0 hz0 hz1 hz2 hzs (by omega) _ 0 [] rfl own0 w3.heap.size A n cp (flat6 l) rfl hR3 (one_flat6 l) (by simp only [maxLen]; omega) (by omega) (by simp) ?_
               intro v4 w4 own4 hgr4 hpl4))
  have hE4 := HE3.out.grow (bz' := w3.heap.size) (z' := v4) (nz' := n) (lz' := l) hgr4 (fun b e => by
    have e1 : w3.heap.size = b := Option.some.inj e
    subst e1
    exact ⟨hb3.size, by omega, fun h => by have := hxlt _ h; omega, fun h => by have := hylt _ h; omega⟩) (by simpa using own4)
  have hz4 : v4.ownBlock ≠ some w.heap.size := hE4.mkr.ne hE4.oz (by decide)
  have HE4 := Lib.hid hE4
  have hmk4 := hE4.mkr
  have hgb4 := hE4.bel.size
  have hs34 : w3.heap.size ≤ w4.heap.size := by have := hgr4.size; simp at this; omega
  clear hE4 own0 hR3 HE3 own4 hgr4 hpl4 hz4
  refine (next_c w.heap.size w.heap.size c3 20 w4 hmk4 (by omega) (by omega) (by omega)).mono ?_
  rintro e w5 ⟨q, hq0, hq1, rfl, hm5, hg5⟩
  have hE5 := HE4.out.next hm5 hg5 (Nat.le_refl _)
  have HE5 := Lib.hid hE5
  have own5 := hE5.oz
  have hsz5 := hE5.bel.size
  have hge5 := hg5.size
  have hbz : w3.heap.size ≤ w5.heap.size := by omega
  clear hE5 HE4 hm5 hg5 hmk4
  go_wp2_with (at_builtin
               go_must (
               refine wpList_push sl6 rfl (.tmp 25) (.tmp 29) rfl w3.heap.size v4 n (flat6 l) rfl own5 1 1 rfl rfl rfl (by simp only [maxLen]; omega) (by omega) hbz ?_
               intro v6 w6 own6 hgr6))
  have hz5 : ∀ b, v4.ownBlock = some b → w.heap.size ≤ b ∧ b ≠ w.heap.size ∧ (Value.slice A n cp).ownBlock ≠ some b ∧ (Value.slice A3 n cp3).ownBlock ≠ some b := by
    intro b e
    have h1 := own_ge own5 b e
    have h2 := hb3.size
    exact ⟨by omega, by omega, fun h => by have := hxlt _ h; omega, fun h => by have := hylt _ h; omega⟩
  have hfz : flat6 l ++ [.int .i64 1, .string ⟨#[122, 122]⟩, .int .i64 q, .int .i64 60, .int .i64 0, .int .i64 1] = flat6 (l ++ [⟨1, ⟨#[122, 122]⟩, q, 60, 0, 1⟩]) := by rw [flat6_snoc]; rfl
  obtain ⟨lz, hlz⟩ : ∃ lz, l ++ [⟨1, ⟨#[122, 122]⟩, q, 60, 0, 1⟩] = lz := ⟨_, rfl⟩
  have Hnz : Hid (∀ x ∈ lz, x.nm.size ≤ maxLen) := Lib.hid (by
    intro x hx
    rw [← hlz, List.mem_append, List.mem_singleton] at hx
    rcases hx with hx | rfl
    · have := Hnm.out x hx; unfold maxLen; omega
    · simp [ByteArray.size, maxLen])
  have Hnx : Hid (∀ x ∈ l, x.nm.size ≤ maxLen) := Lib.hid (fun x hx => by have := Hnm.out x hx; unfold maxLen; omega)
  have Hny : Hid (∀ x ∈ l3, x.nm.size ≤ maxLen) := Lib.hid (fun x hx => by have := Hnm3.out x hx; unfold maxLen; omega)
  rw [hlz] at hfz
  have own6' : w6.ownsRow w3.heap.size 40 6 v6 (n + 1) (flat6 lz) := by rw [← hfz]; exact own6
  have HE6 := Lib.hid (HE5.out.grow hgr6.grown hz5 own6')
  obtain ⟨A6, cp6, rfl, _, _⟩ := own_form own6'
  obtain ⟨m1, hm1⟩ : ∃ m1, n + 1 = m1 := ⟨_, rfl⟩
  rw [hm1] at HE6
  have hm1' : m1 ≤ 97 := by omega
  rw [hm1]
  clear own6 own6' hfz hlz hz5 HE5 own5 hgr6 hm1 hxlt hylt ox3 oy3 hi0 hz0 hz1 hz2 hzs
  go_wp2_with fail
  go_loopw [13] (fun p wr => ∃ t : Int, 0 ≤ t ∧ t ≤ 4 ∧ p = .int .i64 t ∧ ∃ c : Nat, c ≤ 160 + 2 * t.toNat ∧ Hid (E3 w w.heap.size c w1.heap.size w2.heap.size w3.heap.size (.slice A n cp) (.slice A3 n cp3) (.slice A6 m1 cp6) n n m1 l l3 lz wr)) (fun p _ => (4 - intOf p).toNat)
  case atStart => exact ⟨0, by omega, by omega, rfl, c3 + 1, by omega, HE6⟩
  case round =>
    obtain ⟨t, ht0, ht4, rfl, c, hc, HE⟩ := hrel
    by_cases hlt : t < 4
    · go_wp2_with fail
      refine (next_c w.heap.size w.heap.size c ((n : Int) + 2) _ HE.out.mkr (by omega) (by omega) (by omega)).mono ?_
      rintro e wa ⟨u, hu0, hu1, rfl, hma, hga⟩
      have HEa := Lib.hid (HE.out.next hma hga (Nat.le_refl _))
      clear HE hma hga
      go_wp2_with fail
      refine (next_c w.heap.size w.heap.size (c + 1) 24 wa HEa.out.mkr (by omega) (by omega) (by omega)).mono ?_
      rintro e wb ⟨nd, hn0, hn1', rfl, hmb, hgb⟩
      have HEb := Lib.hid (HEa.out.next hmb hgb (Nat.le_refl _))
      clear HEa hmb hgb
      go_wp2_with fail
      refine (exact_c A n cp l (u - 1) nd wb (by unfold maxLen; omega) (own_PR6 HEb.out.ox) Hnx.out (ht.below HEb.out.bel) (by omega) (by omega)).mono ?_
      rintro e wc ⟨rfl, hbc⟩
      have HEc := Lib.hid (HEb.out.below hbc)
      clear HEb hbc
      go_wp2_with fail
      refine (exact_c A3 n cp3 l3 (u - 1) nd wc (by unfold maxLen; omega) (own_PR6 HEc.out.oy) Hny.out (ht.below HEc.out.bel) (by omega) (by omega)).mono ?_
      rintro e wd ⟨rfl, hbd⟩
      have HEd := Lib.hid (HEc.out.below hbd)
      clear HEc hbd
      go_wp2_with fail
      refine (exact_c A6 m1 cp6 lz (u - 1) nd wd (by unfold maxLen; omega) (own_PR6 HEd.out.oz) Hnz.out (ht.below HEd.out.bel) (by omega) (by omega)).mono ?_
      rintro e we ⟨rfl, hbe⟩
      have HEe := Lib.hid (HEd.out.below hbe)
      clear HEd hbe
      go_wp2_with fail
      go_roundw
      case rel => exact ⟨t + 1, by omega, by omega, by go_num, c + 1 + 1, by omega, HEe⟩
      case measure => simp [intOf]; omega
    · have hbr := HE.out.bel
      by_cases h120 : 120 < len1
      · have d1 : decide ((120 : Int) < (len1 : Int)) = true := decide_eq_true (by omega)
        go_wp2_with fail
        go_ret
        exact ⟨rfl, hbr⟩
      · have d1 : decide ((120 : Int) < (len1 : Int)) = false := decide_eq_false (by omega)
        go_wp2_with fail
        refine (exact_c a1 len1 cap1 l1 a2 a3 _ hlm (hl1.below hbr) Hln.out (ht.below hbr) hi2.1 hi2.2).mono ?_
        rintro e wf ⟨rfl, hbf⟩
        have hbf' := below_step hbr hbf
        go_wp2_with fail
        refine (sane_c mx wf (keep_cell hbf' hmx)).mono ?_
        rintro e wg ⟨rfl, hbg⟩
        go_wp2_with fail
        go_ret
        exact ⟨rfl, below_step hbf' hbg⟩
end Go.Proofs.YtkkpkekkaoccbaaDoor
