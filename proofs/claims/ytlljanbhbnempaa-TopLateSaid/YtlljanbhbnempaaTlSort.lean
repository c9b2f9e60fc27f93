/- slices.SortFunc at twelve integers or fewer: the shelf's contract. -/
import Derived.Test.YtlljanbhbnempaaTlR
import Derived.Shelf.SlSortCmp.Small
import Derived.Shelf.SlicesG.Cmp
import Derived.Shelf.Small.Bits
import Derived.Shelf.Lay
import Derived.Ground.SlsfProg
import Derived.Ground.NamesProg
namespace Go.Proofs.Ytlljanbhbnempaa
open Go.Proofs Go.Shelf Go.RowKit Go.Lib Go.Sort
shelf_lay_g SlLaysF.n6 Slsf 6 at Try 22 as Try.sortInt
shelf_lay Lays.n125 Nm 125 at Try as Try.bitsLen
theorem sort_hlen (n : Nat) (W : World) (h : n ≤ 12) : Calls Try.prog 33 #[.int .u64 n] W fun e w' => (∃ l : Int, e = .returned (.int .i64 l)) ∧ w' = W :=
  (Any.bits_Len Try.bitsLen n W (by omega) (by omega)).mono fun _ _ ⟨he, hw⟩ => ⟨⟨_, he⟩, hw⟩
set_option maxRecDepth 100000 in
set_option maxHeartbeats 2000000 in
theorem solve1_c (jb : Nat) (A : Option Addr) (n c : Nat) (l : List IT) (W : World) (hb : ∀ x ∈ l, x.bl ≤ 31) (hjc : W.cell? ⟨jb, 0, none⟩ = some (.slice A n c)) (h : IR4 W A n l) (x y : Nat) (hx : x < n) (hy : y < n) :
    Calls Try.prog 23 #[.int .i64 x, .int .i64 y, .pointer (some ⟨jb, 0, none⟩)] W fun e w' => e = .returned (.int .i64 (((Tl.it l x).bl : Int) - (Tl.it l y).bl)) ∧ ∃ q, w' = W.drewN q := by
  obtain ⟨ad, ⟨pa, pb, pc, pd⟩, rfl, hba, hpx, c1, c2, c3, c4⟩ := h.at_ hx
  obtain ⟨ad', ⟨qa, qb, qc, qd⟩, hea, _, hqy, f1, f2, f3, f4⟩ := h.at_ hy
  obtain rfl := Option.some.inj hea
  have b1 := hb _ (itm_at hpx).2
  have b2 := hb _ (itm_at hqy).2
  rw [(itm_at hpx).1, (itm_at hqy).1]
  simp only at c1 c2 c3 c4 f1 f2 f3 f4 b1 b2 ⊢
  have hw1 : IntKind.i64.wrap ((pb : Int) - (qb : Int)) = (pb : Int) - (qb : Int) := IntWalk.i64_in _ ⟨by omega, by omega⟩
  clear hpx hqy hea h hb
  go_enter Try.func23, Try.ntmps23
  go_wp2_with fail
  go_quiet (fail)
  go_wp2_with fail
  go_ret
  exact ⟨rfl, _, rfl⟩
end Go.Proofs.Ytlljanbhbnempaa
