/- What the laws about plants share: the walk of the law's sane; a made plant. -/
import Derived.Test.YtkkpkekkaoccbaaDoorPlX1
import Derived.Test.YtkkpkekkaoccbaaDoorPlS0
import Derived.Test.YtkkpkekkaoccbaaDoorPlG3
import Derived.Test.YtkkpkekkaoccbaaDoorV2
import Derived.Laws.StructEq
namespace Go.Proofs.YtkkpkekkaoccbaaDoor
open Go.RowKit
theorem parse1_c (m : Int) (w : World) (hm : w.cell? ⟨0, 0, none⟩ = some (.int .i64 m)) :
    Calls Tryd.prog 13 #[.string ⟨#[116, 114, 97, 99, 107, 32, 116, 49, 32, 48, 32, 49, 32, 53, 48, 48, 10, 115, 119, 105, 116, 99, 104, 32, 119, 49, 32, 49, 32, 50, 32, 51]⟩] w fun e w' => ∃ A c, e = .returned (.tuple #[.slice A 2 c, .int .i64 0, .int .i64 0]) ∧ PR6 w' A 2 Pl.pl1 ∧ Below w.heap.size w w' := by
  refine (parse_c Pl.tx1 m w (by simp [Pl.tx1, ByteArray.size, maxLen]) hm).mono ?_
  rintro e w' ⟨A, n, c, rfl, hP, _, _, hb⟩
  rw [Pl.parse_tx1] at hP ⊢
  obtain rfl : n = 2 := hP.len.symm
  exact ⟨A, c, rfl, hP, hb⟩
theorem parse2_c (m : Int) (w : World) (hm : w.cell? ⟨0, 0, none⟩ = some (.int .i64 m)) :
    Calls Tryd.prog 13 #[.string ⟨#[116, 114, 97, 99, 107, 32, 116, 49, 32, 48, 32, 49, 32, 53, 48, 48, 10, 116, 114, 97, 99, 107, 32, 116, 32, 48, 32, 49]⟩] w fun e w' => ∃ A n c, e = .returned (.tuple #[.slice A n c, .int .i64 2, .int .i64 6]) ∧ Below w.heap.size w w' := by
  refine (parse_c Pl.tx2 m w (by simp [Pl.tx2, ByteArray.size, maxLen]) hm).mono ?_
  rintro e w' ⟨A, n, c, rfl, _, _, _, hb⟩
  rw [Pl.parse_tx2]
  exact ⟨A, n, c, rfl, hb⟩
theorem below_cell0 {w w' : World} {v : Value} (hb : Below w.heap.size w w') (h : w.cell? ⟨0, 0, none⟩ = some v) : w'.cell? ⟨0, 0, none⟩ = some v := by
  have := keep_cell hb h
  exact this
set_option maxRecDepth 100000 in
set_option maxHeartbeats 4000000 in
theorem sane_c (m : Int) (w : World) (hm : w.cell? ⟨0, 0, none⟩ = some (.int .i64 m)) :
    Calls Tryd.prog 16 #[] w fun e w' => e = .returned (.bool true) ∧ Below w.heap.size w w' := by
  have H1 := Lib.hid (parse1_c m w hm)
  go_enter Tryd.func16, Tryd.ntmps16
  go_wp2_with fail
  refine H1.out.mono ?_
  clear H1
  rintro e w1 ⟨A, c, rfl, hP, hb1⟩
  have hm1 := below_cell0 hb1 hm
  have H2 := Lib.hid (parse2_c m w1 hm1)
  clear hm
  go_wp2_with fail
  refine H2.out.mono ?_
  clear H2
  rintro e w2 ⟨A2, n2, c2, rfl, hb2⟩
  have hP2 := hP.below hb2
  have hb := below_step hb1 hb2
  clear hP hb1 hb2 hm1
  obtain ⟨ad, p, rfl, _, hp, d0, d1, d2, d3, d4, d5⟩ := hP2.at_ (i := 1) (by omega)
  obtain rfl := Option.some.inj ((show Pl.pl1[1]? = some ⟨2, ⟨#[119, 49]⟩, 1, 2, 3, 0⟩ from rfl).symm.trans hp)
  simp only [Addr.add] at d0 d1 d2 d3 d4 d5
  simp at d0 d1 d2 d3 d4 d5
  go_wp2_with fail
  refine (nb_c (some ad) 2 c Pl.pl1 0 1 w2 (by simp [maxLen]) hP2).mono ?_
  rw [Pl.nb_pl1]
  rintro e w3 ⟨rfl, hb3⟩
  have hP3 := hP2.below hb3
  have hb3' := below_step hb hb3
  clear hP2 hb hb3 hp d0 d1 d2 d3 d4 d5
  go_wp2_with fail
  refine (thru_c (some ad) 2 c Pl.pl1 1 1 w3 (by simp [maxLen]) hP3 (by omega) (by omega)).mono ?_
  unfold ThruR
  rw [Pl.thru_pl1]
  rintro e w4 ⟨A4, n4, c4, rfl, hI4, hn4, hnc4, hcm4, hb4⟩
  have hb4' := below_step hb3' hb4
  obtain rfl : n4 = 2 := hI4.len.symm
  clear hP3 hb3' hb4
  go_wp2_with fail
  refine (ints_eq A4 (some ⟨w4.heap.size, 0, none⟩) 2 2 c4 2 [2, 3] _ (by simp [maxLen]) (hI4.below ((Below.refl _ _).alloc (Nat.le_refl _) _)) (IR.new _ 2 rfl rfl (by decide))).mono ?_
  rintro e w5 ⟨rfl, hb5⟩
  have hb5' := (hb4'.alloc hb4'.size _).trans (hb5.mono (by have := hb4'.size; simp; omega))
  clear hb4' hb5 hI4
  go_wp2_with fail
  go_ret
  exact ⟨rfl, hb5'⟩
theorem IR.cc {k : IntKind} {w : World} {ad : Addr} {n : Nat} {l : List Int} (h : IR k w (some ad) n l) {i : Nat} (hi : i < n) : w.cell? (ad.add i) = some (.int k (l.getD i 0)) := by
  obtain ⟨ad', e, _, hc⟩ := h.at_ hi
  cases e
  exact hc
theorem getD_some {l : List Int} {i : Nat} (h : i < l.length) : l[i]? = some (l.getD i 0) := by
  rw [List.getD_eq_getElem?_getD, List.getElem?_eq_getElem h]
  rfl
def MadeR (B : Nat) (w : World) (g c N : Nat) (e : Ending) (w' : World) : Prop := ∃ A n cp l c', e = .returned (.slice A n cp) ∧ w'.ownsRow w.heap.size 40 6 (.slice A n cp) n (flat6 l) ∧ PR6 w' A n l ∧ 1 ≤ n ∧ n ≤ 96 ∧ n ≤ cp ∧ cp ≤ maxLen ∧ Hid (Pl.vErr l = 0) ∧ Hid (∀ x ∈ l, x.nm.size ≤ 12) ∧ c' ≤ c + 10 * N + 10 ∧ Mk B w' g c' ∧ w.grownBy w' (some g)
theorem made_c (B g c n : Nat) (w : World) (h : Mk B w g c) (hc : c ≤ 2305843009213693952) (hn : n ≤ 24) (hB : B ≤ w.heap.size) :
    Calls Tryd.prog 10 #[.pointer (some ⟨g, 0, none⟩), .int .i64 (n : Int)] w (MadeR B w g c n) := by
  refine (plant_c B g c n w h hc hn hB).mono ?_
  rintro e w' ⟨v, l, c', o, nx, rfl, own, h1, h2, hP, hc', hm, hg⟩
  obtain ⟨A, cp, rfl, h3, h4⟩ := own_form own
  exact ⟨A, l.length, cp, l, c', rfl, own, own_PR6 own, h1, (Pl.vErr_zero hP.ok).1, h3, h4, Lib.hid hP.ok, Lib.hid hP.names, hc', hm, hg⟩
theorem endsAt_some {l : List PE} {i : Nat} {x : PE} (h : l[i]? = some x) : Pl.endsAt l (i : Int) = Pl.ends x := by
  unfold Pl.endsAt
  rw [if_neg (by omega), Int.toNat_natCast, h]
end Go.Proofs.YtkkpkekkaoccbaaDoor
