/- The walk of 'HammingLimits'. -/
import Derived.Test.YtblejpiddjfabaaHammingPacksW
namespace Go.Proofs.Ytblejpiddjfabaa
open Go.RowKit
theorem in3 (v : Int) : ∃ n : Nat, n < 3 ∧ ((v.tmod 3 + 3) % 3) = (n : Int) := by
  have := mod_bd (v.tmod 3 + 3) 3 (by omega)
  exact ⟨((v.tmod 3 + 3) % 3).toNat, by omega, by omega⟩
def half (n k : Nat) (m : Int) : List Int := List.replicate k m ++ List.replicate (n - k) 0
theorem half_len (n k : Nat) (m : Int) (h : k ≤ n) : (half n k m).length = n := by simp [half]; omega
theorem half_set (n k : Nat) (m : Int) (h : k < n) : (half n k m).set k m = half n (k + 1) m := by
  unfold half
  rw [List.set_append_right _ _ (by simp)]
  have e : n - k = (n - (k + 1)) + 1 := by omega
  rw [List.length_replicate, Nat.sub_self, e, List.replicate_succ, List.set_cons_zero, List.replicate_succ', List.append_assoc]
  rfl
theorem half_full (n : Nat) (m : Int) : half n n m = List.replicate n m := by simp [half]
theorem half_none (n : Nat) (m : Int) : half n 0 m = List.replicate n 0 := by simp [half]
theorem mk_int : Try.prog.underlying 31 = some (.slice 3) ∧ ∃ i, Try.prog.info? 3 = some i ∧ i.zero = some (.int .i64 0) ∧ i.size = 1 ∧ i.bytes = 8 := by
  obtain ⟨i, h1, h2, h3, h4⟩ := info_parts (show (Try.prog.info? 3).map (fun i => (i.zero, i.size, i.bytes)) = some (some (.int .i64 0), 1, 8) by kernel_rfl)
  exact ⟨Try.underlying31, i, h1, h2, h3, h4⟩
theorem mk_u8 : Try.prog.underlying 32 = some (.slice 5) ∧ ∃ i, Try.prog.info? 5 = some i ∧ i.zero = some (.int .u8 0) ∧ i.size = 1 ∧ i.bytes = 1 := by
  obtain ⟨i, h1, h2, h3, h4⟩ := info_parts (show (Try.prog.info? 5).map (fun i => (i.zero, i.size, i.bytes)) = some (some (.int .u8 0), 1, 1) by kernel_rfl)
  exact ⟨Try.underlying32, i, h1, h2, h3, h4⟩
theorem pack_big (A : Option Addr) (n c : Nat) (l : List Int) (w : World) (hn : n ≤ maxLen) (hb : 65536 < n) (h : IR .i64 w A n l) :
    Calls Try.prog 14 #[.slice A n c] w fun e w' => ∃ v, e = .returned (.tuple #[v, .int .i64 3]) ∧ w'.ownsRow w.heap.size 5 1 v 0 [] ∧ Below w.heap.size w w' := by
  have hl := h.len
  have he : Ham.packE l = 3 := by rw [Ham.packE, if_pos (by omega)]
  have hB : Ham.packB l = [] := by rw [Ham.packB, if_pos (by omega)]
  refine (pack_c A n c l w hn h).mono fun e w' ⟨v, h1, h2, h3⟩ => ⟨v, by rw [h1, he], ?_, h3⟩
  rwa [hB] at h2
theorem unpack_bad (A : Option Addr) (n c : Nat) (k : Int) (l : List Int) (w : World) (hn : n ≤ maxLen) (h : IR .u8 w A n l) (hr : ∀ x ∈ l, 0 ≤ x ∧ x < 256) (hk : Ham.unpE l = k) :
    Calls Try.prog 15 #[.slice A n c] w fun e w' => ∃ v u, e = .returned (.tuple #[v, u, .int .i64 k]) ∧ Below w.heap.size w w' :=
  (unpack_c A n c l w hn h hr).mono fun _ _ ⟨v, u, he, _, _, _, hb⟩ => ⟨v, u, by rw [he, hk], hb⟩
theorem zeros_range (n : Nat) : ∀ x ∈ List.replicate n (0 : Int), 0 ≤ x ∧ x < 256 := fun x hx => by
  have := List.eq_of_mem_replicate hx
  omega
theorem unpE_long (n : Nat) (h : 131072 < n) : Ham.unpE (List.replicate n 0) = 3 := by rw [Ham.unpE, List.length_replicate, if_pos h]
theorem unpE_odd (n : Nat) (h : n ≤ 131072) (h1 : n % 2 = 1) : Ham.unpE (List.replicate n 0) = 10 := by rw [Ham.unpE, List.length_replicate, if_neg (by omega), if_pos h1]
theorem map_zeros (k : IntKind) (n : Nat) : List.replicate n (Value.int k 0) = (List.replicate n (0 : Int)).map (Value.int k) := by rw [List.map_replicate]
set_option linter.unusedVariables false in
set_option maxHeartbeats 2000000 in
theorem walk_HammingLimits (a0 a1 : Int) (w : World) (w0 : (Lit.int .i64 a0).wf = true) (w1 : (Lit.int .i64 a1).wf = true) :
    Calls Try.prog 6 #[.int .i64 a0, .int .i64 a1] w fun e w' => e = .returned (.bool true) ∧ Below w.heap.size w w' := by
  obtain ⟨r, hr, hrx⟩ := in3 a0
  obtain ⟨m, hm, hmx⟩ := in2048 a1
  have t0 := tmod_bd a0 3 (by omega)
  have t1 := tmod_bd a1 2048 (by omega)
  obtain ⟨n, hn⟩ : ∃ n : Nat, n = 65535 + r := ⟨_, rfl⟩
  have hn1 : 65535 ≤ n := by omega
  have hn2 : n ≤ 65537 := by omega
  have hnx : (65535 : Int) + (r : Int) = (n : Int) := by omega
  clear hn
  go_enter Try.func6, Try.ntmps6
  go_wp2_with (at_make; refine wpList_mkn mk_int rfl rfl _ _ rfl w.heap.size _ _ _ _ n rfl rfl rfl rfl (by omega) (by simp only [maxLen]; omega) (Nat.le_refl _) ?_; intro w1 own1 hb1)
  rw [map_zeros, ← half_none n (m : Int)] at own1
  go_wp2_with fail
  go_loopw [6, 27] (fun _ p wr => ∃ k : Nat, k ≤ n ∧ p = .int .i64 k ∧ wr.ownsRow w.heap.size 3 1 (.slice (some ⟨w.heap.size, 0, none⟩) n n) n ((half n k m).map (Value.int .i64)) ∧ Below w.heap.size w wr) (fun _ p _ => n - (intOf p).toNat)
  case atStart => exact ⟨0, by omega, rfl, own1, hb1⟩
  case round =>
    obtain ⟨k, hk, rfl, own, hbr⟩ := hrel
    by_cases hlt : k < n
    · have hc := own_cell own hlt
      have hfz := own.frozenAt k
      have own' := own_set own (j := k) (m : Int)
      rw [half_set n k m hlt] at own'
      have hb' := Below.setCell hbr (p := ⟨w.heap.size, k, none⟩) (Nat.le_refl _) (.int .i64 (m : Int))
      generalize (half n k (m : Int)).getD k 0 = x at hc
      clear own hbr own1 hb1
      go_wp2_with fail
      go_roundw
      case rel => exact ⟨k + 1, by omega, by go_num, own', hb'⟩
      case measure => simp [intOf]; omega
    · obtain rfl : k = n := by omega
      rw [half_full] at own
      clear own1 hb1
      by_cases hbig : 65536 < k
      · go_wp2_with fail
        refine (pack_big _ k _ _ _ (by simp only [maxLen]; omega) hbig (own_IR own)).mono ?_
        rintro e w2 ⟨v2, rfl, own2, hb2⟩
        obtain ⟨A2, c2, rfl, _, _⟩ := own_form own2
        have hb2a := below_step hbr hb2
        clear hb2 hbr own own2
        obtain ⟨N, hN⟩ : ∃ N : Nat, Hid (N = 131073) := ⟨_, Lib.hid rfl⟩
        have hN1 : 131072 < N := by rw [hN.out]; omega
        have hN2 : N ≤ 131073 := by rw [hN.out]; omega
        have hN3 : ((131073 : Int) = (N : Int)) ∧ (1 * N ≤ 281474976710656) ∧ N ≤ maxLen := ⟨by rw [hN.out]; rfl, by rw [hN.out]; omega, by rw [hN.out]; simp only [maxLen]; omega⟩
        have HN := Lib.hid hN3
        clear hN3 hN
        go_wp2_with (at_make; refine wpList_mkn mk_u8 rfl rfl _ _ rfl w.heap.size _ _ _ _ N rfl rfl HN.out.1 HN.out.1 HN.out.2.1 HN.out.2.2 hb2a.size ?_; intro w3 own3 hb3)
        rw [map_zeros] at own3
        have hb3a := below_step hb2a hb3
        refine (unpack_bad _ N _ 3 _ _ HN.out.2.2 (own_IR own3) (zeros_range N) (unpE_long N hN1)).mono ?_
        rintro e w4 ⟨v4, u4, rfl, hb4⟩
        have hb4a := below_step hb3a hb4
        clear hb4 hb3a own3 hb3 hb2a HN hN1 hN2
        obtain ⟨M, hM⟩ : ∃ M : Nat, Hid (M = 131071) := ⟨_, Lib.hid rfl⟩
        have hM1 : M ≤ 131072 ∧ M % 2 = 1 := by rw [hM.out]; omega
        have hM3 : ((131071 : Int) = (M : Int)) ∧ (1 * M ≤ 281474976710656) ∧ M ≤ maxLen := ⟨by rw [hM.out]; rfl, by rw [hM.out]; omega, by rw [hM.out]; simp only [maxLen]; omega⟩
        have HM := Lib.hid hM3
        have HM1 := Lib.hid hM1
        clear hM3 hM hM1
        go_wp2_with (at_make; refine wpList_mkn mk_u8 rfl rfl _ _ rfl w.heap.size _ _ _ _ M rfl rfl HM.out.1 HM.out.1 HM.out.2.1 HM.out.2.2 hb4a.size ?_; intro w5 own5 hb5)
        rw [map_zeros] at own5
        have hb5a := below_step hb4a hb5
        refine (unpack_bad _ M _ 10 _ _ HM.out.2.2 (own_IR own5) (zeros_range M) (unpE_odd M HM1.out.1 HM1.out.2)).mono ?_
        rintro e w6 ⟨v6, u6, rfl, hb6⟩
        have hb6a := below_step hb5a hb6
        clear hb6 hb5a own5 hb5 hb4a HM HM1
        go_wp2_with fail
        refine (sane03_c _).mono ?_
        rintro e w7 ⟨rfl, hb7⟩
        go_wp2_with fail
        go_ret
        exact ⟨rfl, below_step hb6a hb7⟩
      · have hrange : ∀ v ∈ List.replicate k (m : Int), 0 ≤ v ∧ v < 2048 := fun v hv => by
          have := List.eq_of_mem_replicate hv
          omega
        have hll : (List.replicate k (m : Int)).length = k := List.length_replicate
        generalize List.replicate k (m : Int) = L at own hrange hll
        have Hr := Lib.hid hrange
        have Hll := Lib.hid hll
        clear hrange hll
        have hk2 : k ≤ 65536 := by omega
        have hne2 : (((2 * k : Nat) : Int) == 2 * (k : Int)) = true := by simp
        have hgt : decide (65536 < (k : Int)) = false := by simp; omega
        clear hbig
        go_wp2_with fail
        refine (pack_ok _ k _ L _ hk2 (own_IR own) Hr.out).mono ?_
        rintro e w2 ⟨v2, rfl, own2, hb2⟩
        obtain ⟨A2, c2, rfl, _, _⟩ := own_form own2
        have hb2a := below_step hbr hb2
        have ownL := own_below own hb2
        clear hb2 hbr own
        go_wp2_with fail
        refine (unpack_near _ k _ L _ _ hk2 Hll.out (own_IR own2) (Ham.Near.enc L) Hr.out).mono ?_
        rintro e w4 ⟨v4, u4, rfl, own4, own4', hb4⟩
        obtain ⟨A4, c4, rfl, k4, k4'⟩ := own_form own4
        obtain ⟨B4, d4, rfl, _, _⟩ := own_form own4'
        have ownM := own_below ownL hb4
        have hb4a := below_step hb2a hb4
        clear own2 ownL hb4 hb2a own4'
        go_wp2_with fail
        refine (ints_eq _ _ _ _ _ _ _ _ (Nat.le_trans k4 k4') (own_IR own4) (own_IR ownM)).mono ?_
        rintro e w5 ⟨rfl, hb5⟩
        have hb5a := below_step hb4a hb5
        clear hb5 hb4a
        go_wp2_with fail
        refine (sane03_c _).mono ?_
        rintro e w6 ⟨rfl, hb6⟩
        go_wp2_with fail
        go_ret
        exact ⟨rfl, below_step hb5a hb6⟩
end Go.Proofs.Ytblejpiddjfabaa
