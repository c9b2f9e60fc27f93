/- The walk of wheel.Distances of valid wagons. -/
import Derived.Test.YtocohkgdkebmdaaGreatReg3
import Derived.Test.YtocohkgdkebmdaaGreatTlM2
import Derived.Test.YtocohkgdkebmdaaGreatFnG2
import Derived.Test.YtocohkgdkebmdaaGreatWG
import Derived.Test.YtocohkgdkebmdaaGreatAxRec
namespace Go.Proofs.YtocohkgdkebmdaaGreat
open Go.RowKit
namespace Ax
def front (W : List W2) (i : Nat) : Nat := ((W.take i).map (·.2)).sum
theorem start_succ (W : List W2) {i : Nat} (hi : i < W.length) : start W (i + 1) = start W i + (offs W[i]).length := by
  have h := (pat_in W hi).1
  have h2 := offs_len W[i]
  have h3 : (pat W[i]).length = (offs W[i]).length - 1 := diffs_len _
  omega
theorem start_le (W : List W2) : ∀ i, start W i ≤ (pos 0 W).length := by
  intro i
  have e : pos 0 W = pos 0 (W.take i) ++ pos (0 + ((W.take i).map (·.2)).sum) (W.drop i) := by rw [← pos_app, List.take_append_drop]
  rw [e, List.length_append]
  exact Nat.le_add_right _ _
theorem key (W : List W2) {i j : Nat} (hi : i < W.length) (hj : j < (offs W[i]).length) : (pos 0 W).getD (start W i + j) 0 = front W i + (offs W[i]).getD j 0 := by
  have e1 : W.take (i + 1) = W.take i ++ [W[i]] := by rw [List.take_add_one, List.getElem?_eq_getElem hi]; rfl
  have e2 := start_succ W hi
  have e3 : pos 0 W = pos 0 (W.take (i + 1)) ++ pos (0 + ((W.take (i + 1)).map (·.2)).sum) (W.drop (i + 1)) := by
    rw [← pos_app, List.take_append_drop]
  rw [e3, getD_app_l (show start W i + j < (pos 0 (W.take (i + 1))).length from by have : (pos 0 (W.take (i + 1))).length = start W (i + 1) := rfl; omega), e1, pos_app]
  have : (pos 0 (W.take i) ++ pos (0 + ((W.take i).map (·.2)).sum) [W[i]]).getD (start W i + j) 0 = (pos (0 + ((W.take i).map (·.2)).sum) [W[i]]).getD j 0 := getD_app_r
  rw [this, pos, pos, List.append_nil, List.getD_eq_getElem?_getD, List.getElem?_map, List.getD_eq_getElem?_getD, List.getElem?_eq_getElem hj]
  show 0 + ((W.take i).map (·.2)).sum + _ = front W i + _
  rw [Nat.zero_add]
  rfl
theorem front_succ (W : List W2) {i : Nat} (hi : i < W.length) : front W (i + 1) = front W i + W[i].2 := by
  have e1 : W.take (i + 1) = W.take i ++ [W[i]] := by rw [List.take_add_one, List.getElem?_eq_getElem hi]; rfl
  unfold front
  rw [e1, List.map_append, List.sum_append]
  simp
theorem front_le (W : List W2) (h : ∀ x ∈ W, Ok x) : ∀ i, i ≤ W.length → front W i ≤ 4000 * i
  | 0, _ => by simp [front]
  | i + 1, hi => by
    have h1 := front_le W h i (by omega)
    have h2 := (h W[i] (List.getElem_mem _)).2.1
    rw [front_succ W (by omega)]
    omega
theorem offs_le {x : W2} (h : Ok x) {j : Nat} (hj : j < (offs x).length) : (offs x).getD j 0 ≤ x.2 := by
  obtain ⟨h1, h2, h3⟩ := h
  have : ∀ o ∈ offs x, o ≤ x.2 := by
    intro o ho
    unfold offs at ho
    split at ho
    · simp at ho; omega
    · split at ho
      · simp at ho; omega
      · split at ho
        · simp at ho; omega
        · simp at ho; omega
  refine this _ ?_
  rw [List.getD_eq_getElem?_getD, List.getElem?_eq_getElem hj]
  exact List.getElem_mem _
/-- The last of the first k places. -/
def lastK (P : List Nat) (k : Nat) : Int := if k = 0 then -1 else ((P.getD (k - 1) 0 : Nat) : Int)
theorem lastK_pos {P : List Nat} {k : Nat} (h : 0 < k) : lastK P k = ((P.getD (k - 1) 0 : Nat) : Int) := by unfold lastK; rw [if_neg (by omega)]
theorem take_snoc' {P : List Nat} {k : Nat} (h : k < P.length) : P.take (k + 1) = P.take k ++ [P.getD k 0] := by
  rw [List.take_succ_eq_append_getElem h, List.getD_eq_getElem?_getD, List.getElem?_eq_getElem h]; rfl
theorem dk_zero {P : List Nat} : diffs (P.take 1) = diffs (P.take 0) := by
  cases P with
  | nil => rfl
  | cons a r => rfl
theorem dk_succ {P : List Nat} {k : Nat} (h : k < P.length) (h0 : 0 < k) : diffs (P.take (k + 1)) = diffs (P.take k) ++ [P.getD k 0 - P.getD (k - 1) 0] := by
  have hl : (P.take k).length = k := by rw [List.length_take]; omega
  rw [take_snoc' h, diffs_snoc _ _ (by omega), hl]
  congr 3
  rw [List.getD_eq_getElem?_getD, List.getElem?_take, if_pos (by omega), ← List.getD_eq_getElem?_getD]
theorem dk_len {P : List Nat} {k : Nat} (h : k ≤ P.length) : (diffs (P.take k)).length = k - 1 := by
  rw [diffs_len, List.length_take, Nat.min_eq_left h]
end Ax
/-- What is known of a valid wagon. -/
structure WagF (x : WG) : Prop where
  er : Fn.wErr x = 0
  s1 : x.nu.size ≤ maxLen
  s2 : x.de.size ≤ maxLen
  kn : 0 ≤ Fn.kindN x.nu ∧ Fn.kindN x.nu ≤ 3
theorem WagF.ok {x : WG} (h : WagF x) : Ax.Ok (Ax.w2 x) := Ax.w2_Ok h.er h.kn
theorem WagF.of {x : WG} (h : Fn.wErr x = 0) : WagF x := by
  obtain ⟨h1, h2, h3⟩ := Ax.w2_ok h
  refine ⟨h, by rw [(kErr_size h1).1]; decide, ?_, ?_⟩
  · have hx : x.ax = Fn.axK (Fn.kindN x.nu) := by
      by_cases e : x.ax = Fn.axK (Fn.kindN x.nu)
      · exact e
      · rw [Fn.wErr_ax h1 e] at h; exact absurd h (by decide)
    have hn : Pl.nameOk x.de = true := by
      by_cases e : Fn.leastK (Fn.kindN x.nu) ≤ x.len ∧ x.len ≤ 400 ∧ 50 ≤ x.ms ∧ x.ms ≤ 2000 ∧ 0 ≤ x.br ∧ x.br ≤ x.ms ∧ 0 ≤ x.gd ∧ x.gd ≤ 9
      · rw [Fn.wErr_end h1 hx e] at h
        cases hk : Pl.nameOk x.de with
        | true => rfl
        | false => rw [hk] at h; exact absurd h (by decide)
      · rw [Fn.wErr_rg h1 hx e] at h; exact absurd h (by decide)
    by_cases e : x.de.size < 1 ∨ 12 < x.de.size
    · rw [nameOk_size e] at hn; cases hn
    · have : (12 : Nat) ≤ maxLen := by decide
      omega
  · unfold Fn.kindN Fn.kindC
    split
    · decide
    · split
      · decide
      · split <;> decide
/-- The first loop of Distances. -/
def DiV (n : Nat) (w : World) (v2 v3 p : Value) (wr : World) : Prop := ∃ i : Nat, i ≤ n ∧ v2 = .slice none 0 0 ∧ v3 = .int .i64 0 ∧ p = .int .i64 i ∧ Below w.heap.size w wr
/-- The second loop. -/
def DiO (n : Nat) (W : List Ax.W2) (w : World) (v f l p : Value) (wr : World) : Prop :=
  ∃ i : Nat, i ≤ n ∧ p = .int .i64 i ∧ f = .int .i64 (Ax.front W i : Nat) ∧ l = .int .i64 (Ax.lastK (Ax.pos 0 W) (Ax.start W i)) ∧
    wr.ownsRow w.heap.size 3 1 v (Ax.diffs ((Ax.pos 0 W).take (Ax.start W i))).length (ints64 (Ax.diffs ((Ax.pos 0 W).take (Ax.start W i)))) ∧ Below w.heap.size w wr
/-- The loop over the axles of a wagon. -/
def DiI (i m : Nat) (W : List Ax.W2) (O : List Nat) (AO : Option Addr) (cO xb : Nat) (x : WG) (w : World) (v l p : Value) (wr : World) : Prop :=
  ∃ j : Nat, j ≤ m ∧ p = .int .i64 j ∧ l = .int .i64 (Ax.lastK (Ax.pos 0 W) (Ax.start W i + j)) ∧
    wr.ownsRow w.heap.size 3 1 v (Ax.diffs ((Ax.pos 0 W).take (Ax.start W i + j))).length (ints64 (Ax.diffs ((Ax.pos 0 W).take (Ax.start W i + j)))) ∧
    wr.ownsRow w.heap.size 3 1 (.slice AO m cO) m (ints64 O) ∧ apart (.slice AO m cO) v ∧ Blk wr xb 45 (WgC x) ∧ Below w.heap.size w wr
/-- What Distances leaves. -/
def DiR (W : List Ax.W2) (w : World) (e : Ending) (w' : World) : Prop :=
  ∃ v, e = .returned (.tuple #[v, .int .i64 0]) ∧ w'.ownsRow w.heap.size 3 1 v (Ax.diffs (Ax.pos 0 W)).length (ints64 (Ax.diffs (Ax.pos 0 W))) ∧ Below w.heap.size w w'
set_option maxRecDepth 100000 in
set_option maxHeartbeats 8000000 in
theorem dists_c (A : Option Addr) (n c : Nat) (l : List WG) (w : World) (hn : n ≤ 96) (h : WR w A n l) (hs : ∀ x ∈ l, WagF x) :
    Calls Tryz.prog 7 #[.slice A n c] w (DiR (l.map Ax.w2) w) := by
  have hl := h.len
  have Hh := Lib.hid h
  have Hs := Lib.hid hs
  have Hl := Lib.hid hl
  obtain ⟨W, hW⟩ : ∃ W, l.map Ax.w2 = W := ⟨_, rfl⟩
  have hWl : W.length = n := by rw [← hW, List.length_map, hl]
  have hWok : ∀ x ∈ W, Ax.Ok x := by
    intro x hx
    rw [← hW] at hx
    obtain ⟨y, hy, rfl⟩ := List.mem_map.1 hx
    exact (hs y hy).ok
  rw [hW]
  have HW := Lib.hid hW
  have HWl := Lib.hid hWl
  have HWok := Lib.hid hWok
  have HPl : Hid ((Ax.pos 0 W).length ≤ 576) := Lib.hid (by have := Ax.pos_len_le W 0; omega)
  have d1 : decide ((96 : Int) < (n : Int)) = false := decide_eq_false (by omega)
  have d1' : decide (96 < n) = false := decide_eq_false (by omega)
  clear h hs hl hW hWl hWok
  go_enter Tryz.func7, Tryz.ntmps7
  go_wp2_with fail
  go_loopw [2, 3, 19] (fun v2 v3 p wr => DiV n w v2 v3 p wr) (fun _ _ p _ => n - (intOf p).toNat)
  case atStart => exact (show DiV _ _ _ _ _ _ from ⟨0, Nat.zero_le _, rfl, rfl, rfl, Below.refl _ _⟩)
  case round =>
    obtain ⟨t, ht, rfl, rfl, rfl, hbr⟩ := hrel
    by_cases hlt : t < n
    · have hti : (t : Int) < (n : Int) := by omega
      obtain ⟨ad, x, rfl, _, hp, c0, c1, c2, c3, c4, c5, c6, c7⟩ := (Hh.out.below hbr).at_ hlt
      have hF := Hs.out x (List.mem_of_getElem? hp)
      clear hp
      have hb1 := hbr.alloc hbr.size (.cells #[.string x.nu, .int .i64 x.len, .int .i64 x.ax, .int .i64 x.ms, .int .i64 x.br, .int .i64 x.gd, .bool x.gt, .string x.de] 45)
      have HV := Lib.hid (fun W => wvalid_c x W hF.s1 hF.s2)
      rw [hF.er] at HV
      clear hF
      go_wp2_with fail
      refine (HV.out _).mono ?_
      rintro e w2 ⟨rfl, hb2⟩
      have hb2' := below_step hb1 hb2
      clear c0 c1 c2 c3 c4 c5 c6 c7 hb1 hb2 HV
      go_wp2_with fail
      go_roundw
      case rel => exact (show DiV _ _ _ _ _ _ from ⟨t + 1, by omega, rfl, rfl, by go_num, hb2'⟩)
      case measure => simp [intOf]; omega
    · obtain rfl : t = n := by omega
      clear hlt ht
      go_wp2_with fail
      go_loopw [7, 8, 9, 31] (fun v f q p wr => DiO t W w v f q p wr) (fun _ _ _ p _ => t - (intOf p).toNat)
      case atStart => exact (show DiO _ _ _ _ _ _ _ _ from ⟨0, Nat.zero_le _, rfl, by simp [Ax.front], by simp [Ax.lastK, Ax.start_zero], by rw [Ax.start_zero]; exact World.ownsRow_nil _ _ _ _, hbr⟩)
      case round =>
        clear hbr
        obtain ⟨i, hi, rfl, rfl, rfl, own, hbr⟩ := hrel
        by_cases hlt : i < t
        · have hti : (i : Int) < (t : Int) := by omega
          obtain ⟨ad, x, rfl, _, hp, c0, c1, c2, c3, c4, c5, c6, c7⟩ := (Hh.out.below hbr).at_ hlt
          have hF := Hs.out x (List.mem_of_getElem? hp)
          have hiW : i < W.length := by rw [HWl.out]; exact hlt
          have hWi : W[i] = Ax.w2 x := by
            have h1 : W[i]? = some (Ax.w2 x) := by rw [← HW.out, List.getElem?_map, hp]; rfl
            rw [List.getElem?_eq_getElem hiW] at h1
            exact Option.some.inj h1
          obtain ⟨m2, hm2⟩ : ∃ m : Nat, (m : Int) = 10 * x.len ∧ (Ax.w2 x).2 = m := ⟨(10 * x.len).toNat, by have h2 := hF.ok.1; have : (Ax.w2 x).2 = (10 * x.len).toNat := rfl; omega, rfl⟩
          obtain ⟨hm2a, hm2b⟩ := hm2
          have hok := hF.ok
          have hxm : (Ax.offs (Ax.w2 x)).length ≤ 6 := (Ax.offs_len _).2
          have hfl := Ax.front_le W HWok.out i (by omega)
          have hss := Ax.start_succ W hiW
          have hfs := Ax.front_succ W hiW
          have hkey : ∀ j, j < (Ax.offs (Ax.w2 x)).length → (Ax.pos 0 W).getD (Ax.start W i + j) 0 = Ax.front W i + (Ax.offs (Ax.w2 x)).getD j 0 := fun j hj => by
            have := Ax.key W hiW (j := j) (by rw [hWi]; exact hj)
            rw [hWi] at this
            exact this
          have hole : ∀ j, j < (Ax.offs (Ax.w2 x)).length → (Ax.offs (Ax.w2 x)).getD j 0 ≤ 4000 := fun j hj => Nat.le_trans (Ax.offs_le hok hj) hok.2.1
          rw [hWi] at hss hfs
          rw [hm2b] at hfs
          have h4 : m2 ≤ 4000 := by have := hok.2.1; omega
          have hsl := Ax.start_le W (i + 1)
          have HO := Lib.hid (fun W => offsets_c x W hF.er hF.s1 hF.kn)
          have hb1 := hbr.alloc hbr.size (.cells #[.string x.nu, .int .i64 x.len, .int .i64 x.ax, .int .i64 x.ms, .int .i64 x.br, .int .i64 x.gd, .bool x.gt, .string x.de] 45)
          have hX1 := Blk.new wr 45 #[.string x.nu, .int .i64 x.len, .int .i64 x.ax, .int .i64 x.ms, .int .i64 x.br, .int .i64 x.gd, .bool x.gt, .string x.de]
          have own1 := own.alloc (.cells #[.string x.nu, .int .i64 x.len, .int .i64 x.ax, .int .i64 x.ms, .int .i64 x.br, .int .i64 x.gd, .bool x.gt, .string x.de] 45)
          obtain ⟨O, hO⟩ : ∃ O, Ax.offs (Ax.w2 x) = O := ⟨_, rfl⟩
          rw [hO] at hxm hss hkey hole HO
          obtain ⟨m, hm⟩ : ∃ m, O.length = m := ⟨_, rfl⟩
          rw [hm] at hxm hss hkey hole
          have HK := Lib.hid hkey
          have HL := Lib.hid hole
          have Hfs := Lib.hid hfs
          have Hss := Lib.hid hss
          have Hm := Lib.hid hm
          have Hm2 := Lib.hid hm2a
          obtain ⟨fi, hfi⟩ : ∃ fi, Ax.front W i = fi := ⟨_, rfl⟩
          have Hfi := Lib.hid hfi
          rw [hfi] at hfl
          simp only [hfi]
          clear hp hF hWi hok hkey hole hss hfs hm2a hm2b hO hm hfi own
          go_wp2_with fail
          refine (HO.out _).mono ?_
          rintro e w2 ⟨vO, rfl, ownO, hb2⟩
          rw [Hm.out] at ownO
          obtain ⟨AO, cO, rfl, _, _⟩ := own_form ownO
          have hb2' := below_step hb1 hb2
          have hX2 := hX1.below hb2 (by simp)
          have own2 := own_below own1 hb2
          have hap := (apart_old own1 ownO (Nat.le_refl _)).symm
          have ownO2 := own_more ownO hb1.size
          clear c0 c1 c2 c3 c4 c5 c6 c7 hb1 hb2 HO own1 hX1 ownO
          obtain ⟨xb, hxb⟩ : ∃ xb, wr.heap.size = xb := ⟨_, rfl⟩
          rw [hxb] at hX2
          simp only [hxb]
          clear hxb
          go_wp2_with fail
          go_loopw [7, 9, 38] (fun v q p wr => DiI i m W O AO cO xb x w v q p wr) (fun _ _ p _ => m - (intOf p).toNat)
          case atStart => exact (show DiI _ _ _ _ _ _ _ _ _ _ _ _ _ from ⟨0, Nat.zero_le _, rfl, by rw [Nat.add_zero], by rw [Nat.add_zero]; exact own2, ownO2, hap, hX2, hb2'⟩)
          case round =>
            clear own2 ownO2 hap hX2 hb2'
            obtain ⟨j, hj, rfl, rfl, own, ownO, hap, hX, hbj⟩ := hrel
            by_cases hlj : j < m
            · obtain ⟨od, rfl, _, ck⟩ := codes_at (NR.of_own ownO) hlj
              have hk := HK.out j hlj
              have ho := HL.out j hlj
              unfold Tl.kAt at ck
              obtain ⟨o, hoE⟩ : ∃ o, O.getD j 0 = o := ⟨_, rfl⟩
              rw [hoE] at ck hk ho
              rw [Hfi.out] at hk
              obtain ⟨k, hkE⟩ : ∃ k, Ax.start W i + j = k := ⟨_, rfl⟩
              rw [hkE] at hk own
              have hkl : k < (Ax.pos 0 W).length := by have := Hss.out; omega
              have hk576 := HPl.out
              have hE1 : Ax.lastK (Ax.pos 0 W) (k + 1) = ((fi + o : Nat) : Int) := by rw [Ax.lastK_pos (by omega), Nat.add_sub_cancel, hk]
              have HE1 := Lib.hid hE1
              have hkj : Ax.start W i + (j + 1) = k + 1 := by omega
              have HKj := Lib.hid hkj
              by_cases hk0 : k = 0
              · subst hk0
                have hq : Ax.lastK (Ax.pos 0 W) (Ax.start W i + j) = -1 := by rw [hkE]; rfl
                simp only [hq]
                rw [← Ax.dk_zero] at own
                clear hE1 hkj hkE hq hoE
                go_wp2_with fail
                go_roundw
                case rel => exact (show DiI _ _ _ _ _ _ _ _ _ _ _ _ _ from ⟨j + 1, by omega, by go_num, by rw [HKj.out, HE1.out]; go_num, by rw [HKj.out]; exact own, ownO, hap, hX, hbj⟩)
                case measure => simp [intOf]; omega
              · have hstp := (Ax.pos_stp W 0 HWok.out).get (k - 1) (by omega)
                rw [show k - 1 + 1 = k by omega, hk] at hstp
                have hds := Ax.dk_succ hkl (by omega)
                rw [hk] at hds
                have hdl := Ax.dk_len (P := Ax.pos 0 W) (k := k) (by omega)
                have hq : Ax.lastK (Ax.pos 0 W) (Ax.start W i + j) = (((Ax.pos 0 W).getD (k - 1) 0 : Nat) : Int) := by rw [hkE, Ax.lastK_pos (by omega)]
                obtain ⟨z, hz⟩ : ∃ z, (Ax.pos 0 W).getD (k - 1) 0 = z := ⟨_, rfl⟩
                rw [hz] at hstp hds hq
                obtain ⟨hs1, hs2⟩ := hstp
                simp only [hq]
                have hds1 : (Ax.diffs ((Ax.pos 0 W).take (k + 1))).length = (Ax.diffs ((Ax.pos 0 W).take k)).length + 1 := by rw [hds]; simp
                obtain ⟨Dk, hDk⟩ : ∃ Dk, Ax.diffs ((Ax.pos 0 W).take k) = Dk := ⟨_, rfl⟩
                rw [hDk] at own hds hdl hds1
                obtain ⟨dl, hdlE⟩ : ∃ dl, Dk.length = dl := ⟨_, rfl⟩
                rw [hdlE] at own hdl hds1
                have HDs := Lib.hid hds
                have HDs1 := Lib.hid hds1
                have hdl2 : dl ≤ 576 := by omega
                clear hE1 hkj hkE hq hoE hk hz hds hdl hDk hdlE hds1
                go_wp2_with (at_builtin
                             go_must (
                             refine wpList_push sl_int rfl (.tmp 44) (.tmp 50) rfl w.heap.size _ _ _ rfl own 1 1 rfl rfl rfl (by simp only [maxLen]; omega) (by omega) hbj.size ?_
                             intro v6 w6 own6 hgr6
                             have ownO6 := hgr6.keep ownO hap
                             have hap6 := hgr6.apart_l ownO hap
                             have hX6 := hX.grown hgr6.grown (fun e => own_blk_ne own hX (by decide) e.symm)
                             have hb6 := hbj.trans (hgr6.below (own_ge own) hbj.size)))
                go_roundw
                case rel => exact (show DiI _ _ _ _ _ _ _ _ _ _ _ _ _ from ⟨j + 1, by omega, by go_num, by rw [HKj.out, HE1.out]; go_num, by
                  rw [HKj.out, HDs1.out, HDs.out]
                  have he : ints64 (Dk ++ [fi + o - z]) = ints64 Dk ++ #[Value.int .i64 ((fi : Int) + (o : Int) - (z : Int))].toList := by
                    simp [ints64]; omega
                  rw [he]
                  exact own6, ownO6, hap6, hX6, hb6⟩)
                case measure => simp [intOf]; omega
            · obtain rfl : j = m := by omega
              have c1 := hX.cell 1
              simp [WgC] at c1
              have h4' := h4
              have Hm2' : 10 * x.len = (m2 : Int) := Hm2.out.symm
              have hx1 : x.len ≤ 400 := by omega
              have hx0 : 0 ≤ x.len := by omega
              have hE : Hid (Ax.start W i + j = Ax.start W (i + 1)) := Lib.hid Hss.out.symm
              rw [hE.out] at own ⊢
              go_wp2_with fail
              go_roundw
              case rel => exact (show DiO _ _ _ _ _ _ _ _ from ⟨i + 1, by omega, by go_num, by rw [Hfs.out, Hfi.out]; go_num, rfl, own, hbj⟩)
              case measure => simp [intOf]; omega
        · obtain rfl : i = t := by omega
          have hst : Ax.start W i = (Ax.pos 0 W).length := by rw [← HWl.out]; exact Ax.start_end W
          have Hst := Lib.hid hst
          clear hst
          go_wp2_with fail
          go_ret2
          exact (show DiR _ _ _ _ from ⟨_, rfl, by rw [Hst.out, List.take_of_length_le (Nat.le_refl _)] at own; exact own, hbr⟩)
end Go.Proofs.YtocohkgdkebmdaaGreat
