/- The walk of 'DetectorJoins'. -/
import Derived.Test.YtjlfdkkaljlmjaaDetectorOneBitW
import Derived.Deep.DeepMust
namespace Go.Proofs.Ytjlfdkkaljlmjaa
open Go.RowKit
theorem wpList_want {P : Program} {ops : Array Oper} {Q : Exit → Act → World → Prop} {a : Act} {w : World} {rest : List Oper} {o : Oper} (hw : Region.wanted o (yielded ops a.tmps) = true) (h : wpList P ops Q ({ o with guard := none } :: rest) a w) : wpList P ops Q (o :: rest) a w := by
  unfold wpList at h ⊢
  rw [if_pos hw]
  rw [if_pos (by rfl : Region.wanted { o with guard := none } (yielded ops a.tmps) = true)] at h
  exact h
theorem apart_new {w : World} {B e size n : Nat} {v : Value} {xs : List Value} (h : w.ownsRow B e size v n xs) (k c : Nat) : apart v (.slice (some ⟨w.heap.size, 0, none⟩) k c) := by
  refine .inr fun e => ?_
  have := own_lt h w.heap.size (by rw [e]; rfl)
  omega
set_option linter.unusedVariables false in
set_option maxRecDepth 100000 in
set_option maxHeartbeats 2000000 in
theorem walk_DetectorJoins (a0 : Option Addr) (len0 cap0 : Nat) (z0 : List Int) (w : World) (w0 : IsRow .i64 w a0 len0 cap0 z0) :
    Calls Try.prog 13 #[.slice a0 len0 cap0] w fun e w' => e = .returned (.bool true) ∧ Below w.heap.size w w' := by
  obtain ⟨r0, m0, _⟩ := w0.reads
  clear w0
  generalize z0.take len0 = l0 at r0
  go_enter Try.func13, Try.ntmps13
  go_wp2_with fail
  refine (new_c _ _ _ _ _ m0 r0).mono ?_
  rintro e w1 ⟨rfl, hm1, hb1, hz1⟩
  go_wp2_with fail
  refine (pulses_c w.heap.size w.heap.size 0 15 w1 hm1 (by omega) (by omega)).mono ?_
  rintro e w2 ⟨v2, l, c', rfl, own2, hl15, hmade, hc', hm2, hg2⟩
  have hb2 := hb1.trans (grown_below hg2 hb1.size (Nat.le_refl _))
  have hz2 : w.heap.size < w1.heap.size := by omega
  go_wp2_with fail
  refine (pulses_c w.heap.size w.heap.size c' 15 w2 hm2 (by omega) (by omega)).mono ?_
  rintro e w3 ⟨v3, m, c'', rfl, own3, hm15, hmade2, _, hm3, hg3⟩
  have hb3 := hb2.trans (grown_below hg3 hb2.size (Nat.le_refl _))
  have own2a := own2.kept hg3 (.inr (hm2.ne own2 (by decide)))
  obtain ⟨A2, c2, rfl, k2, k2'⟩ := own_form own2a
  obtain ⟨A3, c3, rfl, k3, k3'⟩ := own_form own3
  clear hm1 hz1 hm2 hg2 hm3 hg3 own2
  have Hok := Lib.hid hmade.ok
  have Hok2 := Lib.hid hmade2.ok
  have Hj := Lib.hid (Det.joined l m hmade.ok hmade2.ok (by omega) (by omega))
  have Hp2 := Lib.hid (Det.parse_two l m hmade.ok hmade2.ok)
  clear hmade hmade2
  obtain ⟨G1, a1, a2, _⟩ := Det.vals_len _ l (Nat.le_refl _)
  obtain ⟨G2, b1, b2, _⟩ := Det.vals_len _ m (Nat.le_refl _)
  obtain ⟨n, hn⟩ : ∃ n, l.length = n := ⟨_, rfl⟩
  obtain ⟨q, hq⟩ : ∃ q, m.length = q := ⟨_, rfl⟩
  rw [hn] at own2a hl15 k2 a1 a2 ⊢
  rw [hq] at own3 hm15 k3 b1 b2 ⊢
  have Hn := Lib.hid hn
  have Hq := Lib.hid hq
  clear hn hq
  go_wp2_with fail
  refine (encode_made _ n _ l _ k2 k2' (own_VR own2a) Hok.out (by omega)).mono ?_
  rintro e w4 ⟨v4, rfl, own4, hb4⟩
  obtain ⟨A4, c4, rfl, _, _⟩ := own_form own4
  have own2b := own_below own2a hb4
  have own3b := own_below own3 hb4
  have hb4a := below_step hb3 hb4
  obtain ⟨x, hx⟩ : ∃ x, (Det.vals l).length = x := ⟨_, rfl⟩
  rw [hx] at own4 a1 ⊢
  have a3 := Nat.le_of_eq a1
  have a4 := Nat.le_of_eq a1.symm
  clear a1
  clear own2a own3 hb4 hb3 hb2 hb1 hx
  go_wp2_with fail
  refine (encode_made _ q _ m _ k3 k3' (own_VR own3b) Hok2.out (by omega)).mono ?_
  rintro e w5 ⟨v5, rfl, own5, hb5⟩
  obtain ⟨A5, c5, rfl, _, _⟩ := own_form own5
  have own2c := own_below own2b hb5
  have own3c := own_below own3b hb5
  have own4c := own_below own4 hb5
  have hb5a := below_step hb4a hb5
  obtain ⟨y, hy⟩ : ∃ y, (Det.vals m).length = y := ⟨_, rfl⟩
  rw [hy] at own5 b1 ⊢
  have b3 := Nat.le_of_eq b1
  have b4 := Nat.le_of_eq b1.symm
  clear b1
  clear own2b own3b own4 hb5 hb4a hy
  have hle5 : w.heap.size ≤ w5.heap.size := hb5a.size
  go_wp2_with (first
    | (at_builtin
       have hguard := own4c
       clear hguard
       go_must (
       refine wpList_cat sl_u8 rfl (.tmp 30) (.tmp 31) rfl w.heap.size _ 0 [] rfl (World.ownsRow_lit w5 #[] 0 hle5 (by simp [maxLen]) rfl) _ A4 (2 * x) c4 _ rfl (Reads.of_own (own4c.alloc _)) (one_ints _ _) (by simp only [maxLen]; omega) (by omega) (by simp; omega) ?_
       intro v6 w6 own6 hgr6
       have own5b := hgr6.keep (own5.alloc _) (apart_new own5 _ _)
       have own2d := hgr6.keep (own2c.alloc _) (apart_new own2c _ _)
       have own3d := hgr6.keep (own3c.alloc _) (apart_new own3c _ _)
       have hap5 := hgr6.apart_l (own5.alloc _) (apart_new own5 _ _)
       have hap2 := hgr6.apart_l (own2c.alloc _) (apart_new own2c _ _)
       have hap3 := hgr6.apart_l (own3c.alloc _) (apart_new own3c _ _)
       have hb6 := (hb5a.alloc hle5 _).trans (hgr6.below (own_ge (World.ownsRow_lit (e := 5) (size := 1) w5 #[] 0 hle5 (by simp [maxLen]) rfl)) (by simp; omega))
       clear own5 own2c own3c own4c hgr6 hb5a))
    | (at_builtin
       have hguard := own5b
       clear hguard
       go_must (
       refine wpList_cat sl_u8 rfl (.tmp 32) (.tmp 33) rfl w.heap.size _ _ _ rfl own6 _ A5 (2 * y) c5 _ rfl (Reads.of_own own5b) (one_ints _ _) (by simp only [maxLen]; omega) (by omega) hb6.size ?_
       intro v7 w7 own7 hgr7
       have own2e := hgr7.keep own2d hap2
       have own3e := hgr7.keep own3d hap3
       have hb7 := hb6.trans (hgr7.below (own_ge own6) hb6.size)
       clear own5b own2d own3d hgr7 own6 hb6 hap5 hap2 hap3)))
  have hcat : w7.ownsRow w.heap.size 5 1 v7 (2 * x + 2 * y) ((Ham.encB (Det.vals l) ++ Ham.encB (Det.vals m)).map (Value.int .u8)) := by
    rw [List.map_append]
    simpa using own7
  clear own7
  have Hdc := Lib.hid (fun A c W (hI : IR .u8 W A (2 * x + 2 * y) (Ham.encB (Det.vals l) ++ Ham.encB (Det.vals m))) => decode_as A (2 * x + 2 * y) c _ (l ++ m) [] W (by simp only [maxLen]; omega) hI (fun v hv => by
    rcases List.mem_append.1 hv with hv | hv
    · exact Ham.encB_range _ v hv
    · exact Ham.encB_range _ v hv) (dec_of Hj.out.1 Hj.out.2 Hp2.out (by rw [List.length_append, Hn.out, Hq.out]; omega)) (n + q) 0 (by rw [List.length_append, Hn.out, Hq.out]) rfl)
  obtain ⟨N, hN⟩ : ∃ N, 2 * x + 2 * y = N := ⟨_, rfl⟩
  rw [hN] at hcat Hdc
  clear hN
  obtain ⟨A7, c7, rfl, _, _⟩ := own_form hcat
  refine (Hdc.out _ _ _ (own_IR hcat)).mono ?_
  rintro e w8 ⟨v8, u8, rfl, own8, own8', hb8⟩
  obtain ⟨A8, c8, rfl, k8, k8'⟩ := own_form own8
  obtain ⟨B8, d8, rfl, _, _⟩ := own_form own8'
  have own2f := own_below own2e hb8
  have own3f := own_below own3e hb8
  have hb8a := below_step hb7 hb8
  have hle8 : w.heap.size ≤ w8.heap.size := hb8a.size
  clear hcat own2e own3e hb8 hb7 own8' Hdc Hj Hp2
  go_wp2_with (first
    | (at_builtin
       have hguard := own2f
       clear hguard
       go_must (
       refine wpList_want rfl (wpList_cat sl_pulse rfl (.tmp 56) (.tmp 57) rfl w.heap.size _ 0 [] rfl (World.ownsRow_lit w8 #[] 0 hle8 (by simp [maxLen]) rfl) _ A2 n c2 _ rfl (Reads.of_own (own2f.alloc _)) (one_flat3 _) (by simp only [maxLen]; omega) (by omega) (by simp; omega) ?_)
       intro v6 w9 own9 hgr9
       have own8b := hgr9.keep (own8.alloc _) (apart_new own8 _ _)
       have own3g := hgr9.keep (own3f.alloc _) (apart_new own3f _ _)
       have hap8 := hgr9.apart_l (own8.alloc _) (apart_new own8 _ _)
       have hb9 := (hb8a.alloc hle8 _).trans (hgr9.below (own_ge (World.ownsRow_lit (e := 41) (size := 3) w8 #[] 0 hle8 (by simp [maxLen]) rfl)) (by simp; omega))
       clear own8 own2f own3f hgr9 hb8a))
    | (at_builtin
       have hguard := own3g
       clear hguard
       go_must (
       refine wpList_want rfl (wpList_cat sl_pulse rfl (.tmp 58) (.tmp 59) rfl w.heap.size _ _ _ rfl own9 _ A3 q c3 _ rfl (Reads.of_own own3g) (one_flat3 _) (by simp only [maxLen]; omega) (by omega) hb9.size ?_)
       intro v7 w10 own10 hgr10
       have own8c := hgr10.keep own8b hap8
       have hb10 := hb9.trans (hgr10.below (own_ge own9) hb9.size)
       clear own8b own3g hgr10 own9 hb9 hap8)))
  have hcat2 : w10.ownsRow w.heap.size 41 3 v7 (n + q) (flat3 (l ++ m)) := by
    rw [flat3_append]
    simpa using own10
  clear own10
  obtain ⟨M, hM⟩ : ∃ M, n + q = M := ⟨_, rfl⟩
  rw [hM] at hcat2 own8c k8 ⊢
  clear hM
  obtain ⟨A10, c10, rfl, _, _⟩ := own_form hcat2
  refine (gpulses_eq _ _ _ _ _ _ _ _ (Nat.le_trans k8 k8') (own_VR own8c) (own_VR hcat2)).mono ?_
  rintro e w11 ⟨rfl, hb11⟩
  have hb11a := below_step hb10 hb11
  clear hb11 hb10 hcat2 own8c
  go_wp2_with fail
  refine (sane04_c _).mono ?_
  rintro e w12 ⟨rfl, hb12⟩
  go_wp2_with fail
  go_ret
  exact ⟨rfl, below_step hb11a hb12⟩
end Go.Proofs.Ytjlfdkkaljlmjaa
