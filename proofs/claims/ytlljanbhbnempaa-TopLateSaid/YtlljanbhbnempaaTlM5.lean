/- The walks of rollin's Valid (at valid plans), run, Run, Pushes. -/
import Derived.Test.YtlljanbhbnempaaTlM4
import Derived.Test.YtlljanbhbnempaaTlSolve
namespace Go.Proofs.Ytlljanbhbnempaa
open Go.RowKit
namespace Tl
/-- A plan that fits a job. -/
structure PlanOk (l : List IT) (k S : Nat) (K : List Nat) : Prop where
  len : K.length = l.length
  st : S ≤ 12
  codes : ∀ x, x < l.length → (∃ q, kAt K x = q * 2 ^ (it l x).rd + mis (it l x).rd ∧ pop q ≤ k) ∧ kAt K x < 2 ^ S
theorem PlanOk.fit {l : List IT} {k S : Nat} {K : List Nat} (h : PlanOk l k S K) (hj : JobOk l k) : Fit l K S :=
  ⟨h.len, fun x b hx hb => by
    obtain ⟨⟨q, hq, _⟩, _⟩ := h.codes x hx
    rw [hq]
    exact mis_bit hb, fun x hx => (h.codes x hx).2, hj.mono⟩
theorem sol_plan {l : List IT} {w S : Nat} {K : List Nat} (hs : Sol l w K) (hS : S ≤ 12) (ht : ∀ x, x < l.length → kAt K x < 2 ^ S) : PlanOk l w S K :=
  ⟨hs.1, hS, fun x hx => by
    obtain ⟨_, _, q, hq, hp⟩ := next_spec (hs.2 x hx)
    exact ⟨⟨q, hq, hp⟩, ht x hx⟩⟩
/-- What holds ahead of the pushes of a time. -/
structure RunOk (l : List IT) (t : Nat) (m : MC) : Prop where
  tl : m.tn.length = nTn l
  bd : MBd m
  mv : m.mv ≤ 192 * t
  pu : m.pu ≤ t
  old : ∀ x ∈ oldAt m t, x < l.length
  oldl : (oldAt m t).length ≤ 96
theorem newAt_len (l : List IT) (t : Nat) : (newAt l t).length ≤ l.length := by
  unfold newAt
  exact Nat.le_trans (List.length_filter_le _ _) (by simp)
theorem atM_mv {l : List IT} {K : List Nat} {S : Nat} (m : MC) (t : Nat) : (atM l K S m t).mv = m.mv + ((oldAt m t).length + (newAt l t).length) := by
  have h := fold_mv (l := l) (K := K) (S := S) (t := t) (oldAt m t ++ newAt l t) (clr m t)
  rw [clr_mv, List.length_append] at h
  unfold atM
  simp only
  split <;> exact h
theorem atM_pu {l : List IT} {K : List Nat} {S : Nat} (m : MC) (t : Nat) : (atM l K S m t).pu ≤ m.pu + 1 := by
  have h := fold_pu (l := l) (K := K) (S := S) (t := t) (oldAt m t ++ newAt l t) (clr m t)
  rw [clr_pu] at h
  unfold atM
  simp only
  split
  · show _ + 1 ≤ _
    omega
  · omega
theorem atM_bd {l : List IT} {K : List Nat} {S : Nat} {m : MC} (t : Nat) (hb : MBd m) : MBd (atM l K S m t) := by
  have h := fold_bd (l := l) (K := K) (S := S) (t := t) (oldAt m t ++ newAt l t) (clr m t) (clr_bd t hb)
  unfold atM
  simp only
  split <;> exact h
theorem runOk_zero (l : List IT) (S : Nat) : RunOk l 0 (start l S) := by
  refine ⟨by simp [start], ⟨fun i => ?_, fun j => ?_⟩, Nat.le_refl _, Nat.le_refl _, fun x hx => absurd hx (by simp [oldAt]), by simp [oldAt]⟩
  · show ((List.replicate S []).getD i []).length ≤ 0
    rw [getD_rep]; exact Nat.le_refl _
  · show ((List.replicate (nTn l) []).getD j []).length ≤ 0
    rw [getD_rep]; exact Nat.le_refl _
theorem runOk_at {l : List IT} {K : List Nat} {S k : Nat} (hf : Fit l K S) (hj : JobOk l k) : ∀ t, t ≤ S → RunOk l t (runTo l K S t)
  | 0, _ => runOk_zero l S
  | t + 1, ht => by
    have ih := runOk_at hf hj t (by omega)
    have hi := inv_at hf t (by omega)
    have h1 := newAt_len l t
    have h2 := hj.len
    have hmv := atM_mv (l := l) (K := K) (S := S) (runTo l K S t) t
    have hold : oldAt (runTo l K S (t + 1)) (t + 1) = (runTo l K S (t + 1)).st.getD t [] := rfl
    have hst := hi.st t (by omega)
    refine ⟨hi.tl, atM_bd t ih.bd, ?_, ?_, fun x hx => ?_, ?_⟩
    · show (atM l K S (runTo l K S t) t).mv ≤ _
      rw [hmv]
      have := ih.mv
      have := ih.oldl
      omega
    · show (atM l K S (runTo l K S t) t).pu ≤ _
      have := atM_pu (l := l) (K := K) (S := S) (runTo l K S t) t
      have := ih.pu
      omega
    · rw [hold, hst] at hx
      have h3 := (List.mem_filter.1 hx).1
      simpa using (ord_perm K l.length t).mem_iff.1 h3
    · rw [hold, hst]
      refine Nat.le_trans (List.length_filter_le _ _) ?_
      have := (ord_perm K l.length t).length_eq
      rw [this]
      simpa using h2
end Tl
attribute [local irreducible] Tl.pop Tl.mis
set_option maxRecDepth 100000 in
set_option maxHeartbeats 1000000 in
theorem cis_same (q r k : Nat) (hk : q * 2 ^ r + Tl.mis r < 4096) (hr : r ≤ 12) (hw : k ≤ 12) (hp : Tl.pop q ≤ k) (w : World) :
    Calls Try.prog 29 #[.int .i64 (q * 2 ^ r + Tl.mis r : Nat), .int .i64 r, .int .i64 k] w fun e w' => e = .returned (.bool true) ∧ w' = w := by
  have e0 : decide ((0 : Int) ≤ (r : Int) ∧ (r : Int) ≤ 12) = true := by simp; omega
  have H := Lib.hid (form_c r k hw)
  rw [e0] at H
  have HM := Lib.hid (missed_c r hr)
  have hq : q < 65536 := by
    have : q * 1 ≤ q * 2 ^ r := Nat.mul_le_mul_left _ (Nat.two_pow_pos r)
    omega
  have HO := Lib.hid (cones_c q hq)
  obtain ⟨b1, b2⟩ := is_bits hk hr
  generalize q * 2 ^ r + Tl.mis r = c at hk b1 b2
  have e1 : decide ((0 : Int) ≤ (c : Int) ∧ (c : Int) ≤ 4095) = true := by simp; omega
  have HI := Lib.hid (cin_c c 0 4095)
  rw [e1] at HI
  clear e0 e1
  go_enter Try.func29, Try.ntmps29
  go_wp2_with (first
    | (go_at_call 34; with_reducible refine (H.out _).mono ?_; rintro e w1 ⟨rfl, rfl⟩)
    | (go_at_call 25; with_reducible refine (HI.out _).mono ?_; rintro e w1 ⟨rfl, rfl⟩)
    | (go_at_call 35; with_reducible refine (HM.out _).mono ?_; rintro e w1 ⟨rfl, rfl⟩)
    | (go_at_call 36; with_reducible refine (HO.out _).mono ?_; rintro e w1 ⟨rfl, rfl⟩))
  go_ret
  exact ⟨rfl, rfl⟩
theorem is_at {l : List IT} {k S : Nat} {K : List Nat} (hp : Tl.PlanOk l k S K) (hj : Tl.JobOk l k) {x : Nat} (hx : x < l.length) (w : World) :
    Calls Try.prog 29 #[.int .i64 (Tl.kAt K x : Nat), .int .i64 (Tl.it l x).rd, .int .i64 k] w fun e w' => e = .returned (.bool true) ∧ w' = w := by
  obtain ⟨⟨q, hq, hpop⟩, hlt⟩ := hp.codes x hx
  have h12 : 2 ^ S ≤ 2 ^ 12 := Nat.pow_le_pow_right (by decide) hp.st
  rw [hq] at hlt ⊢
  exact cis_same q _ k (by omega) (hj.its _ (Tl.it_mem hx)).2.2.1 hj.wt hpop w
set_option maxRecDepth 100000 in
set_option maxHeartbeats 2000000 in
theorem rvalid_c (A AK : Option Addr) (n c k S cK : Nat) (l : List IT) (K : List Nat) (w : World) (hj : Tl.JobOk l k) (hp : Tl.PlanOk l k S K) (h : IR4 w A n l) (hK : Reads w w.heap.size 1 AK n (ints64 K)) :
    Calls Try.prog 18 #[jobV A n c k, planV S AK n cK] w fun e w' => e = .returned (.int .i64 0) ∧ Below w.heap.size w w' := by
  have hl := h.len
  have hn := hj.len
  have hw12 := hj.wt
  have hS := hp.st
  unfold planV
  obtain ⟨W0, hW0⟩ : ∃ W0, (w.alloc (.cells #[.slice A n c, .int .i64 k] 27)).alloc (.cells #[.int .i64 S, .slice AK n cK] 32) = W0 := ⟨_, rfl⟩
  have hB1 : Blk W0 w.heap.size 27 #[.slice A n c, .int .i64 k] := by rw [← hW0]; exact (Blk.new w _ _).alloc _
  have hB2 : Blk W0 (w.heap.size + 1) 32 #[.int .i64 S, .slice AK n cK] := by
    rw [← hW0]
    have := Blk.new (w.alloc (.cells #[.slice A n c, .int .i64 k] 27)) 32 #[.int .i64 S, .slice AK n cK]
    simpa using this
  have hb0 : Below w.heap.size w W0 := by rw [← hW0]; exact ((Below.refl _ _).alloc (Nat.le_refl _) _).alloc (by simp) _
  have hs0 := hb0.size
  have h0 := h.below hb0
  have hK0 : Reads W0 W0.heap.size 1 AK n (ints64 K) := (hK.below hb0).more hs0
  have hsh : ∀ x, x < n → ((Tl.kAt K x : Nat) : Int) / 2 ^ S = 0 := fun x hx => by
    have h1 := (hp.codes x (by omega)).2
    have h4 : ((2 : Int) ^ S) = ((2 ^ S : Nat) : Int) := by push_cast; rfl
    rw [h4, ← Int.natCast_ediv, Nat.div_eq_of_lt h1]
    rfl
  have his : ∀ x, x < n → ∀ W, Calls Try.prog 29 #[.int .i64 (Tl.kAt K x : Nat), .int .i64 (Tl.it l x).rd, .int .i64 k] W fun e w' => e = .returned (.bool true) ∧ w' = W := fun x hx W => is_at hp hj (by omega) W
  have Hsh := Lib.hid hsh
  have His := Lib.hid his
  have HV := Lib.hid (jvalid_c A n c k l W0 hj h0)
  unfold jobV at HV ⊢
  obtain ⟨B, hB⟩ : ∃ B, w.heap.size = B := ⟨_, rfl⟩
  rw [hB] at hB1 hB2 hb0 hs0
  have j0 := hB1.cell 0
  have j1 := hB1.cell 1
  have p0 := hB2.cell 0
  have p1 := hB2.cell 1
  simp at j0 j1 p0 p1
  clear hsh his h hK
  go_enter Try.func18, Try.ntmps18
  go_wp2_with fail
  clear hW0
  refine HV.out.mono ?_
  rintro e w1 ⟨rfl, hb1⟩
  replace j0 := keep_cell hb1 j0
  replace j1 := keep_cell hb1 j1
  replace p0 := keep_cell hb1 p0
  replace p1 := keep_cell hb1 p1
  have h1 := h0.below hb1
  have hK1 := (hK0.below hb1).more hb1.size
  have hb2 : Below B w w1 := hb0.trans (hb1.mono hs0)
  have hs1 : B ≤ w1.heap.size := Nat.le_trans hs0 hb1.size
  clear hb0 hb1 h0 hK0 hB1 hB2 HV hs0
  have e1 : decide ((S : Int) < 0) = false := decide_eq_false (by omega)
  have e2 : decide ((12 : Int) < (S : Int)) = false := decide_eq_false (by omega)
  have e3 : decide (12 < S) = false := decide_eq_false (by omega)
  go_wp2_with fail
  go_loopw [4, 33] (fun r p wr => ∃ i : Nat, i ≤ n ∧ r = .int .i64 0 ∧ p = .int .i64 i ∧ Below w1.heap.size w1 wr) (fun _ p _ => n - (intOf p).toNat)
  case atStart => exact ⟨0, by omega, rfl, rfl, Below.refl _ _⟩
  case round =>
    obtain ⟨i, hi, rfl, rfl, hbr⟩ := hrel
    replace h1 := h1.below hbr
    replace hK1 := (hK1.below hbr).more hbr.size
    replace hb2 := hb2.trans (hbr.mono hs1)
    replace j0 := keep_cell hbr j0
    replace j1 := keep_cell hbr j1
    replace p0 := keep_cell hbr p0
    replace p1 := keep_cell hbr p1
    by_cases hlt : i < n
    · obtain ⟨ai, rfl, d1, d2, d3, d4⟩ := items_at h1 (Nat.le_refl _) hlt
      obtain ⟨ak, rfl, hab, ck⟩ := codes_at hK1 hlt
      have HI := Lib.hid (His.out i hlt)
      have hs := Hsh.out i hlt
      obtain ⟨q, hq⟩ : ∃ q, Tl.it l i = q := ⟨_, rfl⟩
      obtain ⟨kx, hkx⟩ : ∃ kx, Tl.kAt K i = kx := ⟨_, rfl⟩
      rw [hq] at d1 d2 d3 d4 HI
      rw [hkx] at ck hs HI
      clear hq hkx d1 d2 d4
      go_wp2_with fail
      go_quiet (first | (go_at_call 29; exact Calls.quiet_of_same (HI.out _)))
      go_wp2_with fail
      go_roundw
      case rel => exact ⟨i + 1, by omega, rfl, by go_num, below_drewN hbr _⟩
      case measure => simp [intOf]; omega
    · obtain rfl : i = n := by omega
      go_wp2_with fail
      go_ret
      exact ⟨rfl, by rw [hB]; exact hb2⟩
end Go.Proofs.Ytlljanbhbnempaa
