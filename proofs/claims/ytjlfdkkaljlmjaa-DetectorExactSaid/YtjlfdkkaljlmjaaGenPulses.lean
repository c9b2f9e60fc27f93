/- (*Maker).Pulses: a valid list of at most n pulses, some. -/
import Derived.Test.YtjlfdkkaljlmjaaMaker
import Derived.Test.YtjlfdkkaljlmjaaV3
namespace Go.Proofs.Ytjlfdkkaljlmjaa
open Go.RowKit
theorem sl_pulse : SlT Try.prog 35 41 3 24 := slT_of (z := .agg #[.int .i64 0, .int .i64 0, .int .i64 0]) Try.underlying35 (by kernel_rfl) rfl (by omega)
/-- What a made list of pulses is. -/
structure Made (l : List V3) (t : Int) : Prop where
  ok : Det.vGo l none = 0
  low : ∀ q ∈ l, q.b ≤ t
  det : ∀ q ∈ l, q.a < 6
set_option maxHeartbeats 2000000 in
theorem pulses_c (B g c m : Nat) (w : World) (h : Mk B w g c) (hc : c ≤ 2305843009213693952) (hm : m ≤ 4096) :
    Calls Try.prog 21 #[.pointer (some ⟨g, 0, none⟩), .int .i64 (m : Int)] w fun e w' => ∃ v l c', e = .returned v ∧ w'.ownsRow w.heap.size 41 3 v (l : List V3).length (flat3 l) ∧ l.length ≤ m ∧ Made l 1000000000 ∧ c' ≤ c + 2 + 3 * m ∧ Mk B w' g c' ∧ w.grownBy w' (some g) := by
  have hgl := h.lt
  go_enter Try.func21, Try.ntmps21
  go_wp2_with fail
  refine (pick_c B g c w.heap.size 6 _ [0, 5, 1023, 1024, 1000000, 999997000] _ (h.alloc _) (by omega) (by omega) (by omega) (by omega) (IR.new _ 6 rfl rfl (by decide))).mono ?_
  rintro e w1 ⟨t, ht, rfl, hm1, hg1⟩
  have hgw1 := (World.grownBy_alloc w _ (some g)).trans hg1
  have ht2 : 0 ≤ t ∧ t ≤ 1000000000 := by simp at ht; omega
  clear hg1 ht
  go_wp2_with fail
  refine (next_c B g (c + 1) _ _ hm1 (by omega) (by omega) (by omega)).mono ?_
  rintro e w2 ⟨i0, hi0, hi1, rfl, hm2, hg2⟩
  have hgw2 := hgw1.trans hg2
  obtain ⟨i, rfl⟩ := Int.eq_ofNat_of_zero_le hi0
  clear hm1 hgw1 hg2
  go_wp2_with fail
  go_loopw [5, 6, 7] (fun out tt p wr => ∃ (l : List V3) (t : Int) (i c' : Nat), tt = .int .i64 t ∧ p = .int .i64 i ∧ 0 ≤ t ∧ t ≤ 1000000000 ∧ l.length + i ≤ m ∧ Made l t ∧ c' ≤ c + 2 + 3 * l.length ∧ Mk B wr g c' ∧
    wr.ownsRow w.heap.size 41 3 out l.length (flat3 l) ∧ w.grownBy wr (some g)) (fun _ _ p _ => (intOf p).toNat)
  case atStart => exact ⟨[], t, i, c + 1 + 1, rfl, rfl, ht2.1, ht2.2, by simp; omega, ⟨rfl, by simp, by simp⟩, by simp, hm2, World.ownsRow_nil _ _ _ _, hgw2⟩
  case round =>
    obtain ⟨l, t, i, c', rfl, rfl, ht0, ht1, hli, hmade, hcc, hmk, hown, hgw⟩ := hrel
    clear hm2 hgw2 ht2 hi0 hi1
    by_cases hi : 0 < i
    · have hlt := hmk.lt
      have hne := hmk.ne hown (by decide)
      go_wp2_with fail
      refine (pick_c B g c' wr.heap.size 7 _ [0, 1, 40, 200, 1023, 1024, 5000] _ (hmk.alloc _) (by omega) (by omega) (by omega) (by omega) (IR.new _ 7 rfl rfl (by decide))).mono ?_
      rintro e w3 ⟨x, hx, rfl, hm3, hg3⟩
      have hga := (World.grownBy_alloc wr _ (some g)).trans hg3
      have own3 := hown.kept hga (.inr hne)
      have hgw3 := hgw.trans hga
      have hx2 : 0 ≤ x ∧ x ≤ 5000 := by simp at hx; omega
      clear hx hg3 hga hown hgw hmk hne
      by_cases hmx : 1000000000 ≤ t + x
      · go_wp2_with fail
        refine (next_c B g (c' + 1) 6 _ hm3 (by omega) (by omega) (by omega)).mono ?_
        rintro e w4 ⟨d, hd0, hd1, rfl, hm4, hg4⟩
        have hne4 := hm3.ne own3 (by decide)
        have own4 := own3.kept hg4 (.inr hne4)
        have hgw4 := hgw3.trans hg4
        have hlt4 := hm4.lt
        have hne5 := hm4.ne own4 (by decide)
        clear own3 hgw3 hg4 hne4
        go_wp2_with fail
        refine (pick_c B g (c' + 1 + 1) w4.heap.size 4 _ [1, 1, 1, -1] _ (hm4.alloc _) (by omega) (by omega) (by omega) (by omega) (IR.new _ 4 rfl rfl (by decide))).mono ?_
        rintro e w5 ⟨r, hr, rfl, hm5, hg5⟩
        have hga := (World.grownBy_alloc w4 _ (some g)).trans hg5
        have own5 := own4.kept hga (.inr hne5)
        have hgw5 := hgw4.trans hga
        have hr2 : r = 1 ∨ r = -1 := by simp at hr; omega
        have hne6 := hm5.ne own5 (by decide)
        clear hg5 hga own4 hgw4 hm4 hr hne5
        go_wp2_with (at_builtin; refine wpList_push sl_pulse rfl (.tmp 25) (.tmp 33) rfl w.heap.size _ _ _ rfl own5 1 1 rfl rfl rfl (by simp only [maxLen]; omega) (by omega) hgw5.size ?_; intro v6 w6 own6 hgr6)
        have hm6 := hm5.grown hgr6.grown hne6 (fun b hb => Nat.le_trans (by have := hm5.ge; omega) (own_ge own5 b hb))
        have hgw6 := grown_then hgw5 hgr6.grown (fun b hb => .inr (own_ge own5 b hb))
        clear own5 hgr6 hgw5 hm5 hne6
        go_wp2_with fail
        go_roundw
        case rel =>
          refine ⟨l ++ [⟨d, 1000000000, r⟩], 1000000000, i - 1, _, rfl, vint (by omega), by omega, by omega, by simp; omega, ⟨Det.vGo_snoc _ ?_ l none hmade.ok (fun q hq => ?_) (by simp), fun q hq => ?_, fun q hq => ?_⟩, by simp; omega, hm6, ?_, hgw6⟩
          · simp only [Det.okP, Bool.and_eq_true, Bool.or_eq_true, decide_eq_true_eq]
            omega
          · have := hmade.low q hq
            simp only
            omega
          · rcases List.mem_append.1 hq with hq | hq
            · have := hmade.low q hq
              omega
            · simp at hq; subst hq; exact Int.le_refl _
          · rcases List.mem_append.1 hq with hq | hq
            · exact hmade.det q hq
            · simp at hq; subst hq; exact hd1
          · rw [flat3_snoc]
            simpa [cells3] using own6
        case measure => simp [intOf]; omega
      · go_wp2_with fail
        refine (next_c B g (c' + 1) 6 _ hm3 (by omega) (by omega) (by omega)).mono ?_
        rintro e w4 ⟨d, hd0, hd1, rfl, hm4, hg4⟩
        have hne4 := hm3.ne own3 (by decide)
        have own4 := own3.kept hg4 (.inr hne4)
        have hgw4 := hgw3.trans hg4
        have hlt4 := hm4.lt
        have hne5 := hm4.ne own4 (by decide)
        clear own3 hgw3 hg4 hne4
        go_wp2_with fail
        refine (pick_c B g (c' + 1 + 1) w4.heap.size 4 _ [1, 1, 1, -1] _ (hm4.alloc _) (by omega) (by omega) (by omega) (by omega) (IR.new _ 4 rfl rfl (by decide))).mono ?_
        rintro e w5 ⟨r, hr, rfl, hm5, hg5⟩
        have hga := (World.grownBy_alloc w4 _ (some g)).trans hg5
        have own5 := own4.kept hga (.inr hne5)
        have hgw5 := hgw4.trans hga
        have hr2 : r = 1 ∨ r = -1 := by simp at hr; omega
        have hne6 := hm5.ne own5 (by decide)
        clear hg5 hga own4 hgw4 hm4 hr hne5
        go_wp2_with (at_builtin; refine wpList_push sl_pulse rfl (.tmp 25) (.tmp 33) rfl w.heap.size _ _ _ rfl own5 1 1 rfl rfl rfl (by simp only [maxLen]; omega) (by omega) hgw5.size ?_; intro v6 w6 own6 hgr6)
        have hm6 := hm5.grown hgr6.grown hne6 (fun b hb => Nat.le_trans (by have := hm5.ge; omega) (own_ge own5 b hb))
        have hgw6 := grown_then hgw5 hgr6.grown (fun b hb => .inr (own_ge own5 b hb))
        clear own5 hgr6 hgw5 hm5 hne6
        go_wp2_with fail
        go_roundw
        case rel =>
          refine ⟨l ++ [⟨d, t + x, r⟩], t + x, i - 1, _, rfl, vint (by omega), by omega, by omega, by simp; omega, ⟨Det.vGo_snoc _ ?_ l none hmade.ok (fun q hq => ?_) (by simp), fun q hq => ?_, fun q hq => ?_⟩, by simp; omega, hm6, ?_, hgw6⟩
          · simp only [Det.okP, Bool.and_eq_true, Bool.or_eq_true, decide_eq_true_eq]
            omega
          · have := hmade.low q hq
            simp only
            omega
          · rcases List.mem_append.1 hq with hq | hq
            · have := hmade.low q hq
              omega
            · simp at hq; subst hq; exact Int.le_refl _
          · rcases List.mem_append.1 hq with hq | hq
            · exact hmade.det q hq
            · simp at hq; subst hq; exact hd1
          · rw [flat3_snoc]
            simpa [cells3] using own6
        case measure => simp [intOf]; omega
    · obtain rfl : i = 0 := by omega
      go_wp2_with fail
      go_ret
      exact ⟨_, l, c', rfl, hown, by omega, ⟨hmade.ok, fun q hq => Int.le_trans (hmade.low q hq) ht1, hmade.det⟩, by omega, hmk, hgw⟩
end Go.Proofs.Ytjlfdkkaljlmjaa
