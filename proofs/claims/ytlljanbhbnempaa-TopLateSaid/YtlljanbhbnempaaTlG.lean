/- The walks of humpgen's Items and Job. -/
import Derived.Test.YtlljanbhbnempaaMaker
import Derived.Test.YtlljanbhbnempaaTlI
namespace Go.Proofs.Ytlljanbhbnempaa
open Go.RowKit
theorem sl_item : SlT Try.prog 25 30 4 32 := slT_of (z := .agg #[.int .i64 0, .int .i64 0, .int .i64 0, .int .i64 0]) Try.underlying25 (by kernel_rfl) rfl (by omega)
/-- What made items are. -/
structure MadeI (l : List IT) (r : Nat) : Prop where
  its : ∀ x ∈ l, x.tr ≤ 2 ∧ x.bl ≤ 5 ∧ x.rd ≤ r ∧ 1 ≤ x.ln ∧ x.ln ≤ 400
  rds : l.Pairwise fun x y => x.rd ≤ y.rd
theorem MadeI.nil (r : Nat) : MadeI [] r := ⟨by simp, List.Pairwise.nil⟩
theorem MadeI.more {l : List IT} {r r' : Nat} (h : MadeI l r) (hr : r ≤ r') : MadeI l r' := ⟨fun x hx => by obtain ⟨a, b, c, d⟩ := h.its x hx; exact ⟨a, b, by omega, d⟩, h.rds⟩
theorem MadeI.snoc {l : List IT} {r : Nat} {p : IT} (h : MadeI l r) (h1 : p.tr ≤ 2) (h2 : p.bl ≤ 5) (h3 : p.rd = r) (h4 : 1 ≤ p.ln ∧ p.ln ≤ 400) : MadeI (l ++ [p]) r := by
  refine ⟨fun x hx => ?_, ?_⟩
  · rcases List.mem_append.1 hx with hx | hx
    · exact h.its x hx
    · rw [List.mem_singleton.1 hx]; exact ⟨h1, h2, by omega, h4⟩
  · rw [List.pairwise_append]
    refine ⟨h.rds, List.pairwise_singleton _ _, fun x hx y hy => ?_⟩
    rw [List.mem_singleton.1 hy, h3]
    exact (h.its x hx).2.2.1
/-- The loop of Items. -/
def ItA (B : Nat) (w : World) (g c m : Nat) (out rd p : Value) (wr : World) : Prop :=
  ∃ (l : List IT) (r i c' : Nat), rd = .int .i64 r ∧ p = .int .i64 i ∧ l.length + i ≤ m ∧ r ≤ 4 ∧ MadeI l r ∧ c' + 8 * i ≤ c + 4 + 8 * m ∧ Mk B wr g c' ∧ wr.ownsRow w.heap.size 30 4 out l.length (flat4 l) ∧ w.grownBy wr (some g)
/-- What Items leaves. -/
def ItR (B : Nat) (w : World) (g c m : Nat) (e : Ending) (w' : World) : Prop :=
  ∃ (v : Value) (l : List IT) (c' : Nat), e = .returned v ∧ w'.ownsRow w.heap.size 30 4 v l.length (flat4 l) ∧ l.length ≤ m ∧ MadeI l 4 ∧ c' ≤ c + 4 + 8 * m ∧ Mk B w' g c' ∧ w.grownBy w' (some g)
set_option maxRecDepth 100000 in
set_option maxHeartbeats 2000000 in
theorem items_c (B g c m : Nat) (w : World) (h : Mk B w g c) (hc : c ≤ 2305843009213693952) (hm : m ≤ 96) (hBw : B ≤ w.heap.size) :
    Calls Try.prog 10 #[.pointer (some ⟨g, 0, none⟩), .int .i64 (m : Int)] w (ItR B w g c m) := by
  have hgl := h.lt
  go_enter Try.func10, Try.ntmps10
  go_wp2_with fail
  refine (next_c B g c 4 _ h (by omega) (by omega) (by omega)).mono ?_
  rintro e w1 ⟨x1, hx10, hx11, rfl, hm1, hg1⟩
  go_wp2_with fail
  refine (next_c B g (c + 1) 3 _ hm1 (by omega) (by omega) (by omega)).mono ?_
  rintro e w2 ⟨x2, hx20, hx21, rfl, hm2, hg2⟩
  obtain ⟨t0, rfl⟩ := Int.eq_ofNat_of_zero_le hx20
  replace hg2 := hg1.trans hg2
  clear hg1 hm1
  go_wp2_with fail
  refine (next_c B g (c + 1 + 1) 6 _ hm2 (by omega) (by omega) (by omega)).mono ?_
  rintro e w3 ⟨x3, hx30, hx31, rfl, hm3, hg3⟩
  obtain ⟨b0, rfl⟩ := Int.eq_ofNat_of_zero_le hx30
  replace hg3 := hg2.trans hg3
  clear hg2 hm2
  go_wp2_with fail
  refine (next_c B g (c + 1 + 1 + 1) ((m : Int) + 1) _ hm3 (by omega) (by omega) (by omega)).mono ?_
  rintro e w4 ⟨x4, hx40, hx41, rfl, hm4, hg4⟩
  obtain ⟨i, rfl⟩ := Int.eq_ofNat_of_zero_le hx40
  replace hg4 := hg3.trans hg4
  clear hg3 hm3
  go_wp2_with fail
  obtain ⟨lt, hlt⟩ : ∃ lt, (x1 == 0) = lt := ⟨_, rfl⟩
  simp only [hlt]
  go_loopw [5, 9, 10] (fun out rd p wr => ItA B w g c m out rd p wr) (fun _ _ p _ => (intOf p).toNat)
  case atStart => exact (show ItA _ _ _ _ _ _ _ _ _ from ⟨[], 0, i, _, rfl, rfl, by simp; omega, by omega, MadeI.nil 0, by omega, hm4, World.ownsRow_nil _ _ _ _, hg4⟩)
  case round =>
    clear hm4 hg4 hx10 hx11 hx40 hx41 hlt
    obtain ⟨l, r, i, c', rfl, rfl, hli, hr4, hmade, hcc, hmk, hown, hgw⟩ := hrel
    by_cases hi : 0 < i
    · cases lt with
      | false =>
        obtain ⟨r5, rfl⟩ : ∃ r5, r5 = r := ⟨_, rfl⟩
        have hr5 := hr4
        have hrr := Nat.le_refl r5
        obtain ⟨c5, rfl⟩ : ∃ c5, c5 = c' := ⟨_, rfl⟩
        have hm5 := hmk
        have own5 := hown
        have hg5 := hgw
        clear hmk hown hgw
        go_wp2_with fail
        refine (next_c B g c5 ((1 : Int) + (t0 : Int)) _ hm5 (by omega) (by omega) (by omega)).mono ?_
        rintro e w6 ⟨y1, hy10, hy11, rfl, hm6, hg6⟩
        obtain ⟨tr, rfl⟩ := Int.eq_ofNat_of_zero_le hy10
        have own6 := own5.kept hg6 (.inr (hm5.ne own5 (by decide)))
        replace hg6 := hg5.trans hg6
        clear hg5 own5 hm5
        go_wp2_with fail
        refine (next_c B g (c5 + 1) ((1 : Int) + (b0 : Int)) _ hm6 (by omega) (by omega) (by omega)).mono ?_
        rintro e w7 ⟨y2, hy20, hy21, rfl, hm7, hg7⟩
        obtain ⟨bl, rfl⟩ := Int.eq_ofNat_of_zero_le hy20
        have own7 := own6.kept hg7 (.inr (hm6.ne own6 (by decide)))
        replace hg7 := hg6.trans hg7
        have hlt7 := hm7.lt
        clear hg6 own6 hm6
        go_wp2_with fail
        refine (pick_c B g (c5 + 1 + 1) w7.heap.size 4 _ [80, 142, 199, 262] _ (hm7.alloc _) (by omega) (by omega) (by omega) (by omega) (IR.new _ 4 rfl rfl (by decide))).mono ?_
        rintro e w8 ⟨ln, hln, rfl, hm8, hg8⟩
        have hga := (World.grownBy_alloc w7 _ (some g)).trans hg8
        have own8 := own7.kept hga (.inr (hm7.ne own7 (by decide)))
        replace hg8 := hg7.trans hga
        have hl4 : 1 ≤ ln ∧ ln ≤ 400 := by simp at hln; omega
        obtain ⟨ln, rfl⟩ := Int.eq_ofNat_of_zero_le (show 0 ≤ ln by omega)
        have hne8 := hm8.ne own8 (by decide)
        clear hg7 own7 hm7 hga hln
        go_wp2_with (at_builtin; refine wpList_push sl_item rfl (.tmp 39) (.tmp 51) rfl w.heap.size _ _ _ rfl own8 1 1 rfl rfl rfl (by simp only [maxLen]; omega) (by omega) hg8.size ?_; intro v9 w9 own9 hgr9)
        have hm9 := hm8.grown hgr9.grown hne8 (fun b hb => Nat.le_trans hBw (own_ge own8 b hb))
        have hg9 := grown_then hg8 hgr9.grown (fun b hb => .inr (own_ge own8 b hb))
        clear own8 hgr9 hg8 hm8 hne8
        go_wp2_with fail
        go_roundw
        case rel => exact (show ItA _ _ _ _ _ _ _ _ _ from ⟨l ++ [⟨tr, bl, r5, ln⟩], r5, i - 1, c5 + 1 + 1 + 1, vint (by omega), vint (by omega), by simp; omega, hr5, (hmade.more hrr).snoc (by show tr ≤ 2; omega) (by show bl ≤ 5; omega) rfl (by show 1 ≤ ln ∧ ln ≤ 400; omega), by omega, hm9, by rw [flat4_snoc]; simpa [cells4] using own9, hg9⟩)
        case measure => simp [intOf]; omega
      | true =>
        go_wp2_with fail
        refine (next_c B g c' 4 _ hmk (by omega) (by omega) (by omega)).mono ?_
        rintro e wz ⟨z1, hz10, hz11, rfl, hmz, hgz⟩
        have ownz := hown.kept hgz (.inr (hmk.ne hown (by decide)))
        replace hgz := hgw.trans hgz
        clear hgw hown hmk
        by_cases hz : z1 = 0
        · have hzb : (z1 == 0) = true := by simp [hz]
          go_wp2_with fail
          refine (next_c B g (c' + 1) 3 _ hmz (by omega) (by omega) (by omega)).mono ?_
          rintro e wy ⟨z2, hz20, hz21, rfl, hmy, hgy⟩
          obtain ⟨z2, rfl⟩ := Int.eq_ofNat_of_zero_le hz20
          have own5 := ownz.kept hgy (.inr (hmz.ne ownz (by decide)))
          have hg5 := hgz.trans hgy
          have hm5 := hmy
          obtain ⟨c5, hc5⟩ : ∃ c5, c5 = c' + 1 + 1 := ⟨_, rfl⟩
          rw [← hc5] at hm5
          clear hgz ownz hmz hgy hmy
          by_cases hcm : r + z2 ≤ 4
          · have hr5 : r + z2 ≤ 4 := hcm
            have hrr : r ≤ r + z2 := by omega
            have hmin : min ((r : Int) + (z2 : Int)) 4 = (r : Int) + (z2 : Int) := by omega
            go_wp2_with fail
            refine (next_c B g c5 ((1 : Int) + (t0 : Int)) _ hm5 (by omega) (by omega) (by omega)).mono ?_
            rintro e w6 ⟨y1, hy10, hy11, rfl, hm6, hg6⟩
            obtain ⟨tr, rfl⟩ := Int.eq_ofNat_of_zero_le hy10
            have own6 := own5.kept hg6 (.inr (hm5.ne own5 (by decide)))
            replace hg6 := hg5.trans hg6
            clear hg5 own5 hm5
            go_wp2_with fail
            refine (next_c B g (c5 + 1) ((1 : Int) + (b0 : Int)) _ hm6 (by omega) (by omega) (by omega)).mono ?_
            rintro e w7 ⟨y2, hy20, hy21, rfl, hm7, hg7⟩
            obtain ⟨bl, rfl⟩ := Int.eq_ofNat_of_zero_le hy20
            have own7 := own6.kept hg7 (.inr (hm6.ne own6 (by decide)))
            replace hg7 := hg6.trans hg7
            have hlt7 := hm7.lt
            clear hg6 own6 hm6
            go_wp2_with fail
            refine (pick_c B g (c5 + 1 + 1) w7.heap.size 4 _ [80, 142, 199, 262] _ (hm7.alloc _) (by omega) (by omega) (by omega) (by omega) (IR.new _ 4 rfl rfl (by decide))).mono ?_
            rintro e w8 ⟨ln, hln, rfl, hm8, hg8⟩
            have hga := (World.grownBy_alloc w7 _ (some g)).trans hg8
            have own8 := own7.kept hga (.inr (hm7.ne own7 (by decide)))
            replace hg8 := hg7.trans hga
            have hl4 : 1 ≤ ln ∧ ln ≤ 400 := by simp at hln; omega
            obtain ⟨ln, rfl⟩ := Int.eq_ofNat_of_zero_le (show 0 ≤ ln by omega)
            have hne8 := hm8.ne own8 (by decide)
            clear hg7 own7 hm7 hga hln
            go_wp2_with (at_builtin; refine wpList_push sl_item rfl (.tmp 39) (.tmp 51) rfl w.heap.size _ _ _ rfl own8 1 1 rfl rfl rfl (by simp only [maxLen]; omega) (by omega) hg8.size ?_; intro v9 w9 own9 hgr9)
            have hm9 := hm8.grown hgr9.grown hne8 (fun b hb => Nat.le_trans hBw (own_ge own8 b hb))
            have hg9 := grown_then hg8 hgr9.grown (fun b hb => .inr (own_ge own8 b hb))
            clear own8 hgr9 hg8 hm8 hne8
            go_wp2_with fail
            go_roundw
            case rel => exact (show ItA _ _ _ _ _ _ _ _ _ from ⟨l ++ [⟨tr, bl, (r + z2), ln⟩], (r + z2), i - 1, c5 + 1 + 1 + 1, vint (by omega), vint (by omega), by simp; omega, hr5, (hmade.more hrr).snoc (by show tr ≤ 2; omega) (by show bl ≤ 5; omega) rfl (by show 1 ≤ ln ∧ ln ≤ 400; omega), by omega, hm9, by rw [flat4_snoc]; simpa [cells4] using own9, hg9⟩)
            case measure => simp [intOf]; omega
          · have hr5 : 4 ≤ 4 := Nat.le_refl 4
            have hrr : r ≤ 4 := hr4
            have hmin : min ((r : Int) + (z2 : Int)) 4 = 4 := by omega
            go_wp2_with fail
            refine (next_c B g c5 ((1 : Int) + (t0 : Int)) _ hm5 (by omega) (by omega) (by omega)).mono ?_
            rintro e w6 ⟨y1, hy10, hy11, rfl, hm6, hg6⟩
            obtain ⟨tr, rfl⟩ := Int.eq_ofNat_of_zero_le hy10
            have own6 := own5.kept hg6 (.inr (hm5.ne own5 (by decide)))
            replace hg6 := hg5.trans hg6
            clear hg5 own5 hm5
            go_wp2_with fail
            refine (next_c B g (c5 + 1) ((1 : Int) + (b0 : Int)) _ hm6 (by omega) (by omega) (by omega)).mono ?_
            rintro e w7 ⟨y2, hy20, hy21, rfl, hm7, hg7⟩
            obtain ⟨bl, rfl⟩ := Int.eq_ofNat_of_zero_le hy20
            have own7 := own6.kept hg7 (.inr (hm6.ne own6 (by decide)))
            replace hg7 := hg6.trans hg7
            have hlt7 := hm7.lt
            clear hg6 own6 hm6
            go_wp2_with fail
            refine (pick_c B g (c5 + 1 + 1) w7.heap.size 4 _ [80, 142, 199, 262] _ (hm7.alloc _) (by omega) (by omega) (by omega) (by omega) (IR.new _ 4 rfl rfl (by decide))).mono ?_
            rintro e w8 ⟨ln, hln, rfl, hm8, hg8⟩
            have hga := (World.grownBy_alloc w7 _ (some g)).trans hg8
            have own8 := own7.kept hga (.inr (hm7.ne own7 (by decide)))
            replace hg8 := hg7.trans hga
            have hl4 : 1 ≤ ln ∧ ln ≤ 400 := by simp at hln; omega
            obtain ⟨ln, rfl⟩ := Int.eq_ofNat_of_zero_le (show 0 ≤ ln by omega)
            have hne8 := hm8.ne own8 (by decide)
            clear hg7 own7 hm7 hga hln
            go_wp2_with (at_builtin; refine wpList_push sl_item rfl (.tmp 39) (.tmp 51) rfl w.heap.size _ _ _ rfl own8 1 1 rfl rfl rfl (by simp only [maxLen]; omega) (by omega) hg8.size ?_; intro v9 w9 own9 hgr9)
            have hm9 := hm8.grown hgr9.grown hne8 (fun b hb => Nat.le_trans hBw (own_ge own8 b hb))
            have hg9 := grown_then hg8 hgr9.grown (fun b hb => .inr (own_ge own8 b hb))
            clear own8 hgr9 hg8 hm8 hne8
            go_wp2_with fail
            go_roundw
            case rel => exact (show ItA _ _ _ _ _ _ _ _ _ from ⟨l ++ [⟨tr, bl, 4, ln⟩], 4, i - 1, c5 + 1 + 1 + 1, vint (by omega), vint (by omega), by simp; omega, hr5, (hmade.more hrr).snoc (by show tr ≤ 2; omega) (by show bl ≤ 5; omega) rfl (by show 1 ≤ ln ∧ ln ≤ 400; omega), by omega, hm9, by rw [flat4_snoc]; simpa [cells4] using own9, hg9⟩)
            case measure => simp [intOf]; omega
        · have hzb : (z1 == 0) = false := by simp [hz]
          have own5 := ownz
          have hg5 := hgz
          have hm5 := hmz
          obtain ⟨c5, hc5⟩ : ∃ c5, c5 = c' + 1 := ⟨_, rfl⟩
          rw [← hc5] at hm5
          obtain ⟨r5, rfl⟩ : ∃ r5, r5 = r := ⟨_, rfl⟩
          have hr5 := hr4
          have hrr := Nat.le_refl r5
          clear hgz ownz hmz
          go_wp2_with fail
          refine (next_c B g c5 ((1 : Int) + (t0 : Int)) _ hm5 (by omega) (by omega) (by omega)).mono ?_
          rintro e w6 ⟨y1, hy10, hy11, rfl, hm6, hg6⟩
          obtain ⟨tr, rfl⟩ := Int.eq_ofNat_of_zero_le hy10
          have own6 := own5.kept hg6 (.inr (hm5.ne own5 (by decide)))
          replace hg6 := hg5.trans hg6
          clear hg5 own5 hm5
          go_wp2_with fail
          refine (next_c B g (c5 + 1) ((1 : Int) + (b0 : Int)) _ hm6 (by omega) (by omega) (by omega)).mono ?_
          rintro e w7 ⟨y2, hy20, hy21, rfl, hm7, hg7⟩
          obtain ⟨bl, rfl⟩ := Int.eq_ofNat_of_zero_le hy20
          have own7 := own6.kept hg7 (.inr (hm6.ne own6 (by decide)))
          replace hg7 := hg6.trans hg7
          have hlt7 := hm7.lt
          clear hg6 own6 hm6
          go_wp2_with fail
          refine (pick_c B g (c5 + 1 + 1) w7.heap.size 4 _ [80, 142, 199, 262] _ (hm7.alloc _) (by omega) (by omega) (by omega) (by omega) (IR.new _ 4 rfl rfl (by decide))).mono ?_
          rintro e w8 ⟨ln, hln, rfl, hm8, hg8⟩
          have hga := (World.grownBy_alloc w7 _ (some g)).trans hg8
          have own8 := own7.kept hga (.inr (hm7.ne own7 (by decide)))
          replace hg8 := hg7.trans hga
          have hl4 : 1 ≤ ln ∧ ln ≤ 400 := by simp at hln; omega
          obtain ⟨ln, rfl⟩ := Int.eq_ofNat_of_zero_le (show 0 ≤ ln by omega)
          have hne8 := hm8.ne own8 (by decide)
          clear hg7 own7 hm7 hga hln
          go_wp2_with (at_builtin; refine wpList_push sl_item rfl (.tmp 39) (.tmp 51) rfl w.heap.size _ _ _ rfl own8 1 1 rfl rfl rfl (by simp only [maxLen]; omega) (by omega) hg8.size ?_; intro v9 w9 own9 hgr9)
          have hm9 := hm8.grown hgr9.grown hne8 (fun b hb => Nat.le_trans hBw (own_ge own8 b hb))
          have hg9 := grown_then hg8 hgr9.grown (fun b hb => .inr (own_ge own8 b hb))
          clear own8 hgr9 hg8 hm8 hne8
          go_wp2_with fail
          go_roundw
          case rel => exact (show ItA _ _ _ _ _ _ _ _ _ from ⟨l ++ [⟨tr, bl, r5, ln⟩], r5, i - 1, c5 + 1 + 1 + 1, vint (by omega), vint (by omega), by simp; omega, hr5, (hmade.more hrr).snoc (by show tr ≤ 2; omega) (by show bl ≤ 5; omega) rfl (by show 1 ≤ ln ∧ ln ≤ 400; omega), by omega, hm9, by rw [flat4_snoc]; simpa [cells4] using own9, hg9⟩)
          case measure => simp [intOf]; omega
    · obtain rfl : i = 0 := by omega
      go_wp2_with fail
      go_ret
      exact ⟨_, l, c', rfl, hown, by omega, hmade.more hr4, by omega, hmk, hgw⟩
/-- What Job leaves. -/
def JbR (B : Nat) (w : World) (g c m : Nat) (e : Ending) (w' : World) : Prop :=
  ∃ (v : Value) (l : List IT) (c' k : Nat), e = .returned (.agg #[v, .int .i64 k]) ∧ k ≤ 12 ∧ w'.ownsRow w.heap.size 30 4 v l.length (flat4 l) ∧ l.length ≤ m ∧ MadeI l 4 ∧ c' ≤ c + 5 + 8 * m ∧ Mk B w' g c' ∧ w.grownBy w' (some g)
set_option maxRecDepth 100000 in
set_option maxHeartbeats 2000000 in
theorem job_c (B g c m : Nat) (w : World) (h : Mk B w g c) (hc : c ≤ 1152921504606846976) (hm : m ≤ 96) (hBw : B ≤ w.heap.size) :
    Calls Try.prog 5 #[.pointer (some ⟨g, 0, none⟩), .int .i64 (m : Int)] w (JbR B w g c m) := by
  have hgl := h.lt
  have hga := World.grownBy_alloc w (.cells #[.slice none 0 0, .int .i64 0] 27) (some g)
  have h1 := h.alloc (.cells #[.slice none 0 0, .int .i64 0] 27)
  have hX := Blk.new w 27 #[.slice none 0 0, .int .i64 0]
  have HI := Lib.hid (items_c B g c m _ h1 (by omega) hm (by simp; omega))
  go_enter Try.func5, Try.ntmps5
  go_wp2_with fail
  refine HI.out.mono ?_
  rintro e w1 ⟨v, l, c', rfl, own, hlm, hmade, hcc, hmk, hg1⟩
  have hX1 := hX.grown hg1 (by simp; omega)
  have hgw := hga.trans hg1
  obtain ⟨Av, cv, rfl, _, _⟩ := own_form own
  have hlt1 := hmk.lt
  go_wp2_with fail
  refine (pick_c B g c' w1.heap.size 7 _ [0, 1, 2, 3, 12, 12, 12] _ (hmk.alloc _) (by omega) (by omega) (by omega) (by omega) (IR.new _ 7 rfl rfl (by decide))).mono ?_
  rintro e w2 ⟨k, hk, rfl, hmk2, hg2⟩
  have hga2 := (World.grownBy_alloc w1 (.cells #[.int .i64 0, .int .i64 1, .int .i64 2, .int .i64 3, .int .i64 12, .int .i64 12, .int .i64 12] 3) (some g)).trans hg2
  have own2 := own.kept hga2 (.inr (hmk.ne own (by decide)))
  have hgw2 := hgw.trans hga2
  have hX2 := hX1.grown hga2 (by simp; omega)
  have hk12 : 0 ≤ k ∧ k ≤ 12 := by simp at hk; omega
  obtain ⟨k, rfl⟩ := Int.eq_ofNat_of_zero_le hk12.1
  have x0 := hX2.cell 0
  have x1 := hX2.cell 1
  have z0 := hX2.frozen 0
  have z1 := hX2.frozen 1
  simp at x0 x1
  have hX3 := hX2.set_ 0 (.slice Av l.length cv)
  have hX4 := hX3.set_ 1 (.int .i64 (k : Int))
  have own3 := own_set_other (j := 0) own2 (own_blk_ne own2 hX2 (by decide)) (.slice Av l.length cv)
  have own4 := own_set_other (j := 1) own3 (own_blk_ne own3 hX3 (by decide)) (.int .i64 (k : Int))
  have q0 := hX4.cell 0
  have q1 := hX4.cell 1
  simp at q0 q1
  have hne : w.heap.size ≠ g := by omega
  have hs1 : w2.grownBy (w2.setCell ⟨w.heap.size, 0, none⟩ (.slice Av l.length cv)) (some w.heap.size) := ⟨rfl, rfl, rfl, by simp [World.setCell], fun j _ hn => Below.heap_setCell w2 ⟨w.heap.size, 0, none⟩ _ j (fun e => hn (by rw [e]))⟩
  have hs2 : (w2.setCell ⟨w.heap.size, 0, none⟩ (.slice Av l.length cv)).grownBy ((w2.setCell ⟨w.heap.size, 0, none⟩ (.slice Av l.length cv)).setCell ⟨w.heap.size, 1, none⟩ (.int .i64 (k : Int))) (some w.heap.size) := ⟨rfl, rfl, rfl, by simp [World.setCell], fun j _ hn => Below.heap_setCell _ ⟨w.heap.size, 1, none⟩ _ j (fun e => hn (by rw [e]))⟩
  have hmk4 := (hmk2.grown hs1 (by simp; omega) (fun b e => by have := Option.some.inj e; omega)).grown hs2 (by simp; omega) (fun b e => by have := Option.some.inj e; omega)
  have hgw4 := grown_then (grown_then hgw2 hs1 (fun b e => .inr (by have := Option.some.inj e; omega))) hs2 (fun b e => .inr (by have := Option.some.inj e; omega))
  have hE : JbR B w g c m (.returned (.agg #[.slice Av l.length cv, .int .i64 k])) ((w2.setCell ⟨w.heap.size, 0, none⟩ (.slice Av l.length cv)).setCell ⟨w.heap.size, 1, none⟩ (.int .i64 (k : Int))) :=
    ⟨_, l, _, k, rfl, by omega, own_more own4 (by simp), hlm, hmade, by omega, hmk4, hgw4⟩
  clear own own2 own3 own4 hX hX1 hX2 hX3 hX4 hmk4 hgw4 hs1 hs2 hmade hga hga2 hg1 hg2 h1
  go_wp2_with fail
  exact bodyPost_ret (v := .agg #[.slice Av l.length cv, .int .i64 k]) (by simp [results, Try.results5, go_sem, q0, q1]) rfl hE
end Go.Proofs.Ytlljanbhbnempaa
