/- humpgen's Maker: New, Next, From, Pick: some number in the range, the count one more; only the maker's block has turned. -/
import Derived.Test.YtlljanbhbnempaaMem
import Derived.Test.YtlljanbhbnempaaBits
namespace Go.Proofs.Ytlljanbhbnempaa
open Go.RowKit
/-- Block g is a maker; its list lies below B; c numbers were taken. -/
structure Mk (B : Nat) (w : World) (g c : Nat) : Prop where
  ge : B ≤ g
  blk : ∃ A n cp l, Blk w g 46 #[.slice A n cp, .int .i64 (c : Int)] ∧ Reads w B 1 A n ((l : List Int).map (Value.int .i64)) ∧ n ≤ maxLen
theorem Mk.grown {B : Nat} {w w' : World} {g c : Nat} {row : Option Nat} (h : Mk B w g c) (hg : w.grownBy w' row) (hr : row ≠ some g) (hB : ∀ b, row = some b → B ≤ b) : Mk B w' g c := by
  obtain ⟨A, n, cp, l, hb, hR, hn⟩ := h.blk
  refine ⟨h.ge, A, n, cp, l, hb.grown hg (fun e => hr e.symm), hR.keep (fun p hp => ?_), hn⟩
  exact World.cell?_of_block (hg.block p.block (by have := hb.lt; have := h.ge; omega) (fun e => by have := hB _ e.symm; omega))
theorem Mk.alloc {B : Nat} {w : World} {g c : Nat} (h : Mk B w g c) (o : Obj) : Mk B (w.alloc o) g c := h.grown (row := none) (World.grownBy_alloc w o none) (by simp) (by simp)
theorem Mk.below {B : Nat} {w w' : World} {g c : Nat} (h : Mk B w g c) (hb : Below w.heap.size w w') : Mk B w' g c := by
  obtain ⟨A, n, cp, l, hk, hR, hn⟩ := h.blk
  exact ⟨h.ge, A, n, cp, l, hk.below hb hk.lt, hR.keep (fun p hp => hb.cell (by have := hk.lt; have := h.ge; omega)), hn⟩
theorem Mk.lt {B : Nat} {w : World} {g c : Nat} (h : Mk B w g c) : g < w.heap.size := by
  obtain ⟨A, n, cp, l, hk, _, _⟩ := h.blk
  exact hk.lt
/-- A row of another element type does not lie in the maker's block. -/
theorem Mk.ne {B B' e size n : Nat} {w : World} {g c : Nat} {v : Value} {xs : List Value} (h : Mk B w g c) (ho : w.ownsRow B' e size v n xs) (he : e ≠ 46) : v.ownBlock ≠ some g := by
  obtain ⟨A, n, cp, l, hk, _, _⟩ := h.blk
  exact own_blk_ne ho hk he
theorem Mk.stored {B : Nat} {w w' : World} {g c : Nat} (h : Mk B w g c) (k : Nat) (hw : w' = (w.setCell ⟨g, 1, none⟩ (.int .i64 ((c : Int) + 1))).drewN k) : Mk B w' g (c + 1) := by
  subst hw
  obtain ⟨A, n, cp, l, hb, hR, hn⟩ := h.blk
  refine ⟨h.ge, A, n, cp, l, ?_, hR.setCell (p := ⟨g, 1, none⟩) h.ge _, hn⟩
  have := hb.set_ 1 (.int .i64 ((c : Int) + 1))
  exact Blk.drewN (by simpa using this) k
theorem Mk.stored_grown {B : Nat} {w : World} {g c : Nat} (_h : Mk B w g c) {k : Nat} {u : Value} : w.grownBy ((w.setCell ⟨g, 1, none⟩ u).drewN k) (some g) :=
  ⟨rfl, rfl, rfl, by simp [World.setCell, World.drewN], fun i _ hne => Below.heap_setCell w ⟨g, 1, none⟩ u i (fun e => hne (by rw [e]))⟩
theorem modN (x m : Int) (hm : 0 < m) : -m < x.tmod m ∧ x.tmod m < m := tmod_bd x m hm
set_option maxHeartbeats 1000000 in
theorem next_c (B g c : Nat) (m : Int) (w : World) (h : Mk B w g c) (hc : c ≤ 4611686018427387904) (hm0 : 1 ≤ m) (hm1 : m ≤ 4611686018427387904) :
    Calls Try.prog 21 #[.pointer (some ⟨g, 0, none⟩), .int .i64 m] w fun e w' => ∃ x : Int, 0 ≤ x ∧ x < m ∧ e = .returned (.int .i64 x) ∧ Mk B w' g (c + 1) ∧ w.grownBy w' (some g) := by
  obtain ⟨A, n, cp, l, hb, hR, hn⟩ := h.blk
  have hge := h.ge
  have c0 : w.cell? ⟨g, 0, none⟩ = some (.slice A n cp) := hb.cell 0
  have c1 : w.cell? ⟨g, 1, none⟩ = some (.int .i64 (c : Int)) := hb.cell 1
  have z1 := hb.frozen 1
  unfold maxLen at hn
  have HHb := Lib.hid hb
  have HR := Lib.hid hR
  have Hh := Lib.hid h
  clear hb hR h
  by_cases hn0 : 0 < n
  · go_enter Try.func21, Try.ntmps21
    obtain ⟨q, hq⟩ : ∃ q, q = c % n := ⟨_, rfl⟩
    have hqn : q < n := by rw [hq]; exact Nat.mod_lt _ hn0
    have hqi : (c : Int) % (n : Int) = (q : Int) := by omega
    have hqw : IntKind.i64.wrap (q : Int) = (q : Int) := IntWalk.i64_in _ ⟨by omega, by omega⟩
    have hIR : IR .i64 w A n l := HR.out.more (by have := HHb.out.lt; omega)
    obtain ⟨ad, rfl, hba, hca⟩ := hIR.at_ hqn
    generalize l.getD q 0 = x at hca
    obtain ⟨d, hd⟩ : ∃ d, d = c / n := ⟨_, rfl⟩
    have hdi : (c : Int) / (n : Int) = (d : Int) := by rw [hd]; exact (Int.natCast_ediv c n).symm
    have hdc : d ≤ c := by rw [hd]; exact Nat.div_le_self _ _
    have hdw : IntKind.i64.wrap (d : Int) = (d : Int) := IntWalk.i64_in _ ⟨by omega, by omega⟩
    clear hq hd hIR
    obtain ⟨Y, hY⟩ : ∃ Y, IntKind.i64.wrap ((d : Int) * 7919) = Y := ⟨_, rfl⟩
    obtain ⟨X, hX⟩ : ∃ X, IntKind.i64.wrap (x + Y) = X := ⟨_, rfl⟩
    have hb1 := tmod_bd X m (by omega)
    go_wp2_with fail
    go_quiet (fail)
    go_wp2_with fail
    · have hneg : X.tmod m < 0 := by assumption
      go_ret
      exact ⟨X.tmod m + m, by omega, by omega, rfl, Hh.out.stored _ rfl, Hh.out.stored_grown⟩
    · have hpos : 0 ≤ X.tmod m := by assumption
      go_ret
      exact ⟨X.tmod m, by omega, by omega, rfl, Hh.out.stored _ rfl, Hh.out.stored_grown⟩
  · obtain rfl : n = 0 := by omega
    go_enter Try.func21, Try.ntmps21
    go_wp2_with fail
    go_ret
    exact ⟨0, by omega, by omega, rfl, Hh.out.stored 0 rfl, Hh.out.stored_grown (k := 0)⟩

/- New -/
theorem new_c (A : Option Addr) (n cp : Nat) (l : List Int) (w : World) (hn : n ≤ maxLen) (h : IR .i64 w A n l) :
    Calls Try.prog 4 #[.slice A n cp] w fun e w' => e = .returned (.pointer (some ⟨w.heap.size, 0, none⟩)) ∧ Mk w.heap.size w' w.heap.size 0 ∧ Below w.heap.size w w' ∧ w'.heap.size = w.heap.size + 1 := by
  go_enter Try.func4, Try.ntmps4
  go_wp2_with fail
  go_ret
  refine ⟨rfl, ⟨Nat.le_refl _, A, n, cp, l, ?_, ?_, hn⟩, ?_, ?_⟩
  · exact Blk.new w _ _
  · exact Reads.alloc h (Nat.le_refl _) _
  · exact (Below.refl _ _).alloc (Nat.le_refl _) _
  · simp
/-- Pick, from a literal list in block b. -/
theorem grown_then {a w w' : World} {g : Nat} {row : Option Nat} (h : a.grownBy w (some g)) (k : w.grownBy w' row) (hr : ∀ b, row = some b → b = g ∨ a.heap.size ≤ b) : a.grownBy w' (some g) :=
  ⟨k.os.trans h.os, k.tape.trans h.tape, k.output.trans h.output, Nat.le_trans h.size k.size, fun i hi hne => (k.block i (Nat.lt_of_lt_of_le hi h.size) (fun e => by
    rcases hr i e.symm with rfl | hge
    · exact hne rfl
    · omega)).trans (h.block i hi hne)⟩
theorem grown_below {B g : Nat} {a w : World} (h : a.grownBy w (some g)) (hB : B ≤ a.heap.size) (hg : B ≤ g) : Below B a w := (Below.refl _ _).grown h hB (fun k e => by cases e; exact hg)
set_option maxHeartbeats 1000000 in
theorem pick_c (B g c b n cp : Nat) (L : List Int) (w : World) (h : Mk B w g c) (hbg : b ≠ g) (hn1 : 1 ≤ n) (hn2 : n ≤ 1000000) (hc : c ≤ 4611686018427387904) (hR : IR .i64 w (some ⟨b, 0, none⟩) n L) :
    Calls Try.prog 11 #[.pointer (some ⟨g, 0, none⟩), .slice (some ⟨b, 0, none⟩) n cp] w fun e w' => ∃ x : Int, x ∈ L ∧ e = .returned (.int .i64 x) ∧ Mk B w' g (c + 1) ∧ w.grownBy w' (some g) := by
  have hl := hR.len
  go_enter Try.func11, Try.ntmps11
  go_wp2_with fail
  refine (next_c B g c n _ h hc (by omega) (by omega)).mono ?_
  rintro e w1 ⟨x, hx0, hx1, rfl, hm1, hg1⟩
  obtain ⟨i, rfl⟩ := Int.eq_ofNat_of_zero_le hx0
  have hin : i < n := by omega
  have hcell := hg1.cell (hR.atb hin) (by simp; exact fun e => hbg e)
  have hmem : L.getD i 0 ∈ L := by rw [List.getD_eq_getElem?_getD, List.getElem?_eq_getElem (by omega)]; exact List.getElem_mem _
  generalize L.getD i 0 = y at hcell hmem
  clear hR
  go_wp2_with fail
  go_ret
  exact ⟨y, hmem, rfl, hm1, hg1⟩
end Go.Proofs.Ytlljanbhbnempaa
