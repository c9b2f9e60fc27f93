/- The walk of 'LayoutText'. -/
import Derived.Test.YtmjdjcpmkdninaaDoorLyY
namespace Go.Proofs.YtmjdjcpmkdninaaDoor
open Go.RowKit
theorem mk_u8 : Tryd.prog.underlying 34 = some (.slice 5) ∧ ∃ i, Tryd.prog.info? 5 = some i ∧ i.zero = some (.int .u8 0) ∧ i.size = 1 ∧ i.bytes = 1 := by
  obtain ⟨i, h1, h2, h3, h4⟩ := info_parts (show (Tryd.prog.info? 5).map (fun i => (i.zero, i.size, i.bytes)) = some (some (.int .u8 0), 1, 1) by kernel_rfl)
  exact ⟨Tryd.underlying34, i, h1, h2, h3, h4⟩
def fillX (N j : Nat) : List Int := List.replicate j 120 ++ List.replicate (N - j) 0
theorem fill_len {N j : Nat} (h : j ≤ N) : (fillX N j).length = N := by simp [fillX]; omega
theorem fill_step {N j : Nat} (h : j < N) : (fillX N j).set j 120 = fillX N (j + 1) := by
  unfold fillX
  obtain ⟨k, hk⟩ : ∃ k, N - j = k + 1 := ⟨N - j - 1, by omega⟩
  rw [List.set_append, if_neg (by simp), List.length_replicate, Nat.sub_self, hk, List.replicate_succ (n := k), List.set_cons_zero, List.replicate_succ' (n := j), List.append_assoc, show N - (j + 1) = k by omega]
  rfl
def TxI (w : World) (g N : Nat) (vi : Value) (wr : World) : Prop := ∃ j : Nat, j ≤ N ∧ vi = .int .i64 (j : Int) ∧ wr.ownsRow g 5 1 (.slice (some ⟨g, 0, none⟩) N N) N ((fillX N j).map (Value.int .u8)) ∧ Below w.heap.size w wr
set_option linter.unusedVariables false in
set_option maxRecDepth 100000 in
set_option maxHeartbeats 8000000 in
theorem walk_LayoutText (a0 : Int) (mx : Int) (w : World) (w0 : (Lit.int .i64 a0).wf = true) (hmx : w.cell? ⟨1, 0, none⟩ = some (.int .i64 mx)) (ht : Tab10 w) :
    Calls Tryd.prog 4 #[.int .i64 a0] w fun e w' => e = .returned (.bool true) ∧ Below w.heap.size w w' := by
  obtain ⟨r, hr, hrx⟩ := inMod a0 3 (by omega)
  have t0 := tmod_bd a0 3 (by omega)
  obtain ⟨M, hM⟩ : ∃ M : Nat, M = 16383 + r := ⟨_, rfl⟩
  have hM2 : M ≤ 16385 := by omega
  have hMx : (16383 : Int) + (r : Int) = (M : Int) := by omega
  obtain ⟨N, hN⟩ : ∃ N : Nat, N + 25 = M := ⟨M - 25, by omega⟩
  have hNx : (M : Int) - 25 = (N : Int) := by omega
  have HN := Lib.hid hN
  have hN1 : 1 ≤ N := by omega
  have hN2 : N ≤ 16360 := by omega
  have Hr := Lib.hid hM
  clear hM hN
  go_enter Tryd.func4, Tryd.ntmps4
  go_wp2_with (at_make; refine wpList_mkn mk_u8 rfl rfl _ _ rfl w.heap.size _ _ _ _ N rfl rfl rfl rfl (by omega) (by simp only [maxLen]; omega) (Nat.le_refl _) ?_; intro w1 own1 hb1)
  have own2 : w1.ownsRow w.heap.size 5 1 (.slice (some ⟨w.heap.size, 0, none⟩) N N) N ((fillX N 0).map (Value.int .u8)) := by
    simpa [fillX] using own1
  clear own1
  go_wp2_with fail
  go_loopw [21] (fun vi wr => TxI w w.heap.size N vi wr) (fun vi _ => N - (intOf vi).toNat)
  case atStart => exact (show TxI _ _ _ _ _ from ⟨0, by omega, rfl, own2, hb1⟩)
  case round =>
    obtain ⟨j, hj, rfl, own, hbr⟩ := hrel
    clear own2 hb1
    by_cases hlt : j < N
    · have hlti : (j : Int) < (N : Int) := by omega
      have hc := own_cell own hlt
      have hf := own.frozenAt j
      have own3 := own_set own (j := j) 120
      have Hst := Lib.hid (fill_step hlt)
      have hb3 := hbr.setCell (p := ⟨w.heap.size, j, none⟩) (Nat.le_refl _) (.int .u8 120)
      clear own
      go_wp2_with fail
      go_roundw
      case rel => exact (show TxI _ _ _ _ _ from ⟨j + 1, by omega, by go_num, by rw [← Hst.out]; exact own3, hb3⟩)
      case measure => simp [intOf]; omega
    · obtain rfl : j = N := by omega
      have hall : fillX j j = List.replicate j 120 := by simp [fillX]
      rw [hall] at own
      have hcv : (convert 34 9 (.slice (some ⟨w.heap.size, 0, none⟩) j j)).run Tryd.prog wr = .ok (.string (strOfNums (List.replicate j 120))) wr :=
        run_convert_bytes_arg _ 34 5 under_bytes under_u8 w.heap.size 0 j j (List.replicate j 120) (by simp) (fun i hi => by rw [Nat.zero_add]; exact own_cell own hi) 9 under_string
      have Hst : Hid (strOfNums (List.replicate j 120) = baOf (List.replicate j 120)) := Lib.hid (by
        refine Ly.nm_ext ?_
        rw [strOfNums_data]
        simp [baOf])
      obtain ⟨T, hT⟩ : ∃ T, strOfNums (List.replicate j 120) = T := ⟨_, rfl⟩
      rw [hT] at hcv Hst
      have hTs : T.size = j := by rw [Hst.out, Ly.baOf_size]; simp
      obtain ⟨U, hU⟩ : ∃ U, (⟨#[99, 114, 101, 115, 116, 32, 99, 10, 116, 114, 97, 99, 107, 32, 116, 32, 99, 32, 49, 32, 48, 32, 48, 10, 35]⟩ : ByteArray) ++ T = U := ⟨_, rfl⟩
      have hUs : U.size = M := by
        rw [← hU, ByteArray.size_append, hTs]
        have : (⟨#[99, 114, 101, 115, 116, 32, 99, 10, 116, 114, 97, 99, 107, 32, 116, 32, 99, 32, 49, 32, 48, 32, 48, 10, 35]⟩ : ByteArray).size = 25 := rfl
        have := HN.out
        omega
      have HU : Hid (U = baOf (Ly.ended [Ly.txC, Ly.txT] ++ 35 :: List.replicate j 120)) := Lib.hid (by
        rw [← hU, Hst.out]
        refine Ly.nm_ext ?_
        simp [baOf, Ly.ended, Ly.txC, Ly.txT])
      have HUs := Lib.hid hUs
      have hUm : U.size ≤ maxLen := by unfold maxLen; omega
      clear hT own hall hUs
      have hmr := keep_cell hbr hmx
      go_wp2_with fail
      refine (lparse_c U mx _ hUm hmr).mono ?_
      rintro e w4 ⟨A4, n4, c4, rfl, hR4, hn4, _, hb4⟩
      have hb4' := below_step hbr hb4
      by_cases hbig : 16384 < M
      · have d1 : decide (16384 < (M : Int)) = true := decide_eq_true (by omega)
        have d1' : decide (16384 < M) = true := decide_eq_true hbig
        have HP := Lib.hid (Ly.parse_long (s := U) (by rw [HUs.out]; exact hbig))
        rw [HP.out] at hR4 ⊢
        obtain rfl : n4 = 0 := by have := hR4.len; simpa using this.symm
        clear hR4 hbig
        go_wp2_with fail
        refine (lsane_c mx w4 (keep_cell hb4' hmx) (ht.below hb4')).mono ?_
        rintro e w5 ⟨rfl, hb5⟩
        go_wp2_with fail
        go_ret
        exact ⟨rfl, below_step hb4' hb5⟩
      · have d1 : decide (16384 < (M : Int)) = false := decide_eq_false (by omega)
        have d1' : decide (16384 < M) = false := decide_eq_false hbig
        have HP := Lib.hid (Ly.parse_comment (List.replicate j 120) (by rw [List.mem_replicate]; rintro ⟨_, h⟩; exact absurd h (by decide)) (by rw [List.mem_replicate]; rintro ⟨_, h⟩; exact absurd h (by decide)) (by
          have h1 := HUs.out
          rw [HU.out, Ly.baOf_size] at h1
          omega))
        rw [← HU.out] at HP
        rw [HP.out] at hR4 ⊢
        obtain rfl : n4 = 2 := by have := hR4.len; simpa using this.symm
        clear hR4 hbig
        go_wp2_with fail
        refine (lsane_c mx w4 (keep_cell hb4' hmx) (ht.below hb4')).mono ?_
        rintro e w5 ⟨rfl, hb5⟩
        go_wp2_with fail
        go_ret
        exact ⟨rfl, below_step hb4' hb5⟩
end Go.Proofs.YtmjdjcpmkdninaaDoor
