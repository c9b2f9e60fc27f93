/- The small train of the sanity check, plainly; the walk of planner.Schemes at it. -/
import Derived.Test.YtocohkgdkebmdaaGreatTlSo
import Derived.Test.YtocohkgdkebmdaaGreatTlMt
import Derived.Test.YtocohkgdkebmdaaGreatTlL
namespace Go.Proofs.YtocohkgdkebmdaaGreat
open Go.RowKit
namespace Tl
def l2 : List IT := [⟨0, 1, 0, 100⟩, ⟨0, 0, 0, 100⟩]
theorem l2_ok (k : Nat) (hk : k ≤ 12) : JobOk l2 k := by
  refine ⟨by decide, hk, ?_, ?_⟩
  · intro x hx
    simp only [l2, List.mem_cons, List.not_mem_nil, or_false] at hx
    rcases hx with rfl | rfl <;> simp
  · intro x y hxy hy
    have hy2 : y < 2 := hy
    obtain rfl : x = 0 := by omega
    obtain rfl : y = 1 := by omega
    simp [it, l2]
theorem l2_ord {o : List Nat} (h : Ord l2 o) : o = [1, 0] := by
  have hl : o.length = 2 := by have := h.perm.length_eq; simpa [l2] using this
  obtain ⟨a, b, rfl⟩ : ∃ a b, o = [a, b] := by
    match o, hl with
    | [a, b], _ => exact ⟨a, b, rfl⟩
  have ha : a < 2 := by have := (h.perm.mem_iff (a := a)).1 (by simp); simpa [l2] using this
  have hb : b < 2 := by have := (h.perm.mem_iff (a := b)).1 (by simp); simpa [l2] using this
  have hnd : [a, b].Nodup := h.perm.nodup_iff.2 List.nodup_range
  have hne : a ≠ b := by simpa using hnd
  have hbl := h.blk
  have hab : (it l2 a).bl ≤ (it l2 b).bl := by simpa using hbl
  rcases (show (a = 0 ∧ b = 1) ∨ (a = 1 ∧ b = 0) by omega) with ⟨rfl, rfl⟩ | ⟨rfl, rfl⟩
  · exfalso
    simp [it, l2] at hab
  · rfl
theorem l2_solve0 : solve l2 0 [1, 0] = none := by kernel_rfl
theorem l2_solve1 : solve l2 1 [1, 0] = some ([1, 0], [1, 0]) := by kernel_rfl
theorem l2_solve2 : solve l2 2 [1, 0] = some ([1, 0], [1, 0]) := by kernel_rfl
theorem l2_solve12 : solve l2 12 [1, 0] = some ([1, 0], [1, 0]) := by kernel_rfl
theorem l2_steps : stepsOf [1, 0] = 1 := by kernel_rfl
theorem l2_mv : (run l2 [1, 0] 1).mv = 3 := by kernel_rfl
theorem l2_pu : (run l2 [1, 0] 1).pu = 2 := by kernel_rfl
theorem l2_tn : (run l2 [1, 0] 1).tn = [[1, 0]] := by kernel_rfl
theorem l2_nTn : nTn l2 = 1 := by kernel_rfl
theorem l2_loads : loads l2 [1, 0] 1 = [100, 200] := by kernel_rfl
theorem l2_some {k : Nat} (h : k = 1 ∨ k = 2 ∨ k = 12) : solve l2 k [1, 0] = some ([1, 0], [1, 0]) := by
  rcases h with rfl | rfl | rfl
  · exact l2_solve1
  · exact l2_solve2
  · exact l2_solve12
end Tl
attribute [local irreducible] Tl.run Tl.stepsOf Tl.solve Tl.l2
theorem scheme0_c (A : Option Addr) (c : Nat) (w : World) (h : IR4 w A 2 Tl.l2) :
    Calls Tryz.prog 53 #[.slice A 2 c, .int .i64 0] w fun e w' => e = .returned (.tuple #[schV 0 0 0 0, planV 0 none 0 0, .bool false]) ∧ Below w.heap.size w w' := by
  refine (scheme_c A 2 c 0 Tl.l2 w (Tl.l2_ok 0 (by omega)) (by omega) h).mono ?_
  rintro e w' ⟨o, ho, hb, h1 | ⟨b, K, g, h1, h2⟩⟩
  · exact ⟨h1.2, hb⟩
  · rw [Tl.l2_ord ho, Tl.l2_solve0] at h1
    cases h1
theorem scheme1_c (A : Option Addr) (c k : Nat) (w : World) (h : IR4 w A 2 Tl.l2) (hk : k = 1 ∨ k = 2 ∨ k = 12) :
    Calls Tryz.prog 53 #[.slice A 2 c, .int .i64 k] w fun e w' => ∃ g, e = .returned (.tuple #[.agg #[.int .i64 k, .int .i64 1, .int .i64 3, .int .i64 2], .agg #[.int .i64 1, .slice (some ⟨g, 0, none⟩) 2 2], .bool true]) ∧ Below w.heap.size w w' := by
  refine (scheme_c A 2 c k Tl.l2 w (Tl.l2_ok k (by omega)) (by omega) h).mono ?_
  rintro e w' ⟨o, ho, hb, h1 | ⟨b, K, g, h1, h2⟩⟩
  · rw [Tl.l2_ord ho, Tl.l2_some hk] at h1
    cases h1.1
  · rw [Tl.l2_ord ho, Tl.l2_some hk] at h1
    cases h1
    rw [Tl.l2_steps, Tl.l2_mv, Tl.l2_pu] at h2
    exact ⟨g, h2, hb⟩
/-- The loop of Schemes. -/
def ScA (w : World) (v p : Value) (wr : World) : Prop :=
  ∃ i : Nat, i ≤ 4 ∧ p = .int .i64 i ∧ wr.ownsRow w.heap.size 99 4 v (([1, 2, 12].take (i - 1)).length) (flatK ([1, 2, 12].take (i - 1))) ∧ Below w.heap.size w wr
set_option maxRecDepth 100000 in
set_option maxHeartbeats 4000000 in
theorem schemes_c (A : Option Addr) (c : Nat) (w : World) (h : IR4 w A 2 Tl.l2) :
    Calls Tryz.prog 39 #[.slice A 2 c] w fun e w' => ∃ g cap, e = .returned (.tuple #[.slice (some ⟨g, 0, none⟩) 3 cap, .int .i64 0]) ∧ Sch3 w' w.heap.size g cap ∧ Below w.heap.size w w' := by
  have HV := Lib.hid (jvalid_c A 2 c 0 Tl.l2 w (Tl.l2_ok 0 (by omega)) h)
  unfold jobV at HV
  have ix0 : ∀ W, (Instr.index 114 (.agg #[.int .i64 0, .int .i64 1, .int .i64 2, .int .i64 12]) (.int .i64 0)).run Tryz.prog W = .ok (.int .i64 0) W := fun W => by kernel_rfl
  have ix1 : ∀ W, (Instr.index 114 (.agg #[.int .i64 0, .int .i64 1, .int .i64 2, .int .i64 12]) (.int .i64 1)).run Tryz.prog W = .ok (.int .i64 1) W := fun W => by kernel_rfl
  have ix2 : ∀ W, (Instr.index 114 (.agg #[.int .i64 0, .int .i64 1, .int .i64 2, .int .i64 12]) (.int .i64 2)).run Tryz.prog W = .ok (.int .i64 2) W := fun W => by kernel_rfl
  have ix3 : ∀ W, (Instr.index 114 (.agg #[.int .i64 0, .int .i64 1, .int .i64 2, .int .i64 12]) (.int .i64 3)).run Tryz.prog W = .ok (.int .i64 12) W := fun W => by kernel_rfl
  go_enter Tryz.func39, Tryz.ntmps39
  go_wp2_with fail
  refine HV.out.mono ?_
  rintro e w1 ⟨rfl, hb1⟩
  go_wp2_with fail
  go_loopw [5, 18] (fun v p wr => ScA w v p wr) (fun _ p _ => 4 - (intOf p).toNat)
  case atStart => exact (show ScA _ _ _ _ from ⟨0, by omega, rfl, World.ownsRow_nil _ _ _ _, hb1⟩)
  case round =>
    clear hb1 HV
    obtain ⟨i, hi, rfl, own, hbr⟩ := hrel
    rcases (show i = 0 ∨ i = 1 ∨ i = 2 ∨ i = 3 ∨ i = 4 by omega) with rfl | rfl | rfl | rfl | rfl
    · have HS := Lib.hid (scheme0_c A c wr (h.below hbr))
      unfold schV planV at HS
      go_wp2_with fail
      refine HS.out.mono ?_
      rintro e w2 ⟨rfl, hb2⟩
      have own2 := own_below own hb2
      have own3 := (own2.alloc (.cells #[.int .i64 0, .int .i64 0, .int .i64 0, .int .i64 0] 99)).alloc (.cells #[.int .i64 0, .slice none 0 0] 59)
      have hb3 := ((below_step hbr hb2).alloc (below_step hbr hb2).size (.cells #[.int .i64 0, .int .i64 0, .int .i64 0, .int .i64 0] 99)).alloc (by simp; have := (below_step hbr hb2).size; omega) (.cells #[.int .i64 0, .slice none 0 0] 59)
      clear own own2 HS
      go_wp2_with fail
      go_roundw
      case rel => exact (show ScA _ _ _ _ from ⟨1, by omega, by go_num, own3, hb3⟩)
      case measure => simp [intOf]
    · have HS := Lib.hid (scheme1_c A c 1 wr (h.below hbr) (.inl rfl))
      go_wp2_with fail
      refine HS.out.mono ?_
      rintro e w2 ⟨g, rfl, hb2⟩
      have own2 := own_below own hb2
      have own3 := (own2.alloc (.cells #[.int .i64 1, .int .i64 1, .int .i64 3, .int .i64 2] 99)).alloc (.cells #[.int .i64 1, .slice (some ⟨g, 0, none⟩) 2 2] 59)
      have hb3 := ((below_step hbr hb2).alloc (below_step hbr hb2).size (.cells #[.int .i64 1, .int .i64 1, .int .i64 3, .int .i64 2] 99)).alloc (by simp; have := (below_step hbr hb2).size; omega) (.cells #[.int .i64 1, .slice (some ⟨g, 0, none⟩) 2 2] 59)
      have hsz := hb3.size
      clear own own2 HS
      go_wp2_with (at_builtin; refine wpList_pushb sl_scheme rfl (.tmp 29) (.tmp 31) rfl w.heap.size _ 0 (flatK []) rfl own3 1 1 _ (by simp) rfl rfl rfl (by simp only [maxLen]; omega) (by omega) hsz ?_; intro v6 w6 own6 hgr6)
      have hb6 := hb3.trans (hgr6.below (own_ge own3) hsz)
      clear own3 hgr6
      go_wp2_with fail
      go_roundw
      case rel => exact (show ScA _ _ _ _ from ⟨2, by omega, by go_num, own6, hb6⟩)
      case measure => simp [intOf]
    · have HS := Lib.hid (scheme1_c A c 2 wr (h.below hbr) (.inr (.inl rfl)))
      go_wp2_with fail
      refine HS.out.mono ?_
      rintro e w2 ⟨g, rfl, hb2⟩
      have own2 := own_below own hb2
      have own3 := (own2.alloc (.cells #[.int .i64 2, .int .i64 1, .int .i64 3, .int .i64 2] 99)).alloc (.cells #[.int .i64 1, .slice (some ⟨g, 0, none⟩) 2 2] 59)
      have hb3 := ((below_step hbr hb2).alloc (below_step hbr hb2).size (.cells #[.int .i64 2, .int .i64 1, .int .i64 3, .int .i64 2] 99)).alloc (by simp; have := (below_step hbr hb2).size; omega) (.cells #[.int .i64 1, .slice (some ⟨g, 0, none⟩) 2 2] 59)
      have hsz := hb3.size
      clear own own2 HS
      go_wp2_with (at_builtin; refine wpList_pushb sl_scheme rfl (.tmp 29) (.tmp 31) rfl w.heap.size _ 1 (flatK [1]) rfl own3 1 1 _ (by simp) rfl rfl rfl (by simp only [maxLen]; omega) (by omega) hsz ?_; intro v6 w6 own6 hgr6)
      have hb6 := hb3.trans (hgr6.below (own_ge own3) hsz)
      clear own3 hgr6
      go_wp2_with fail
      go_roundw
      case rel => exact (show ScA _ _ _ _ from ⟨3, by omega, by go_num, own6, hb6⟩)
      case measure => simp [intOf]
    · have HS := Lib.hid (scheme1_c A c 12 wr (h.below hbr) (.inr (.inr rfl)))
      go_wp2_with fail
      refine HS.out.mono ?_
      rintro e w2 ⟨g, rfl, hb2⟩
      have own2 := own_below own hb2
      have own3 := (own2.alloc (.cells #[.int .i64 12, .int .i64 1, .int .i64 3, .int .i64 2] 99)).alloc (.cells #[.int .i64 1, .slice (some ⟨g, 0, none⟩) 2 2] 59)
      have hb3 := ((below_step hbr hb2).alloc (below_step hbr hb2).size (.cells #[.int .i64 12, .int .i64 1, .int .i64 3, .int .i64 2] 99)).alloc (by simp; have := (below_step hbr hb2).size; omega) (.cells #[.int .i64 1, .slice (some ⟨g, 0, none⟩) 2 2] 59)
      have hsz := hb3.size
      clear own own2 HS
      go_wp2_with (at_builtin; refine wpList_pushb sl_scheme rfl (.tmp 29) (.tmp 31) rfl w.heap.size _ 2 (flatK [1, 2]) rfl own3 1 1 _ (by simp) rfl rfl rfl (by simp only [maxLen]; omega) (by omega) hsz ?_; intro v6 w6 own6 hgr6)
      have hb6 := hb3.trans (hgr6.below (own_ge own3) hsz)
      clear own3 hgr6
      go_wp2_with fail
      go_roundw
      case rel => exact (show ScA _ _ _ _ from ⟨4, by omega, by go_num, own6, hb6⟩)
      case measure => simp [intOf]
    · obtain ⟨g, cap, hv, _, _⟩ := own.form (show 0 < 3 by omega)
      subst hv
      have hS : Sch3 wr w.heap.size g cap := ⟨own⟩
      have HS := Lib.hid (sortS_c w.heap.size g cap wr hS)
      clear own
      go_wp2_with fail
      refine HS.out.mono ?_
      rintro e w5 ⟨rfl, hb5⟩
      have hS5 := hS.below hb5
      have hb6 := below_step hbr hb5
      clear hS HS hb5
      go_wp2_with fail
      go_ret2
      exact ⟨g, cap, rfl, hS5, hb6⟩
end Go.Proofs.YtocohkgdkebmdaaGreat
