/- The walk of 'DetectorExact'. -/
import Derived.Test.YtjlfdkkaljlmjaaDetR6
import Derived.Test.YtjlfdkkaljlmjaaDetR7
import Derived.Test.YtjlfdkkaljlmjaaDetFlip
import Derived.Test.YtjlfdkkaljlmjaaDetCut
import Derived.Deep.RegionLaw
import Derived.OpenShut
import Derived.Test.YtjlfdkkaljlmjaaV3Own
import Derived.Test.YtjlfdkkaljlmjaaReg2
import Derived.Deep.RegionWith
import Derived.Deep.DeepCutAuto
namespace Go.Proofs.Ytjlfdkkaljlmjaa
open Go.RowKit
theorem u8_range' {l : List Int} (h : ∀ n ∈ l, (Lit.int .u8 n).wf = true) : ∀ x ∈ l, 0 ≤ x ∧ x < 256 := fun x hx => by
  have := bounds_u8 (h x hx)
  omega
def dxS : List (Nat × Nat) := [(55, 7), (56, 8), (57, 9), (62, 14), (63, 15), (64, 16), (69, 21), (70, 22), (71, 23), (72, 24), (73, 25), (74, 27), (75, 28), (76, 30), (77, 31)]
def dxK (g j : Nat) (k : Nat) : RKind := match k with
  | 7 | 14 | 21 => .q (fun v => ∃ x : Int, v = .int .i64 x)
  | 8 => .sl 3 (fun _ => True)
  | 15 | 22 => .sl 4 (fun _ => True)
  | 9 | 16 | 23 => .q (fun v => ∃ x : Int, v = .int .i64 x)
  | 24 | 25 | 27 | 30 => .q (fun v => v = .pointer (some ⟨g, j * 3, none⟩))
  | 28 => .q (fun v => v = .pointer (some ⟨g, j * 3 + 1, none⟩))
  | 31 => .q (fun v => v = .pointer (some ⟨g, j * 3 + 2, none⟩))
  | _ => .q (fun _ => True)
def dxPure : List Nat := [0, 1, 2, 3, 4, 5, 6, 10, 11, 12, 13, 17, 18, 19, 20]
def dxCosts : List (Nat × Nat) := [(9, 1), (16, 1), (23, 1)]
def dxF (k : Nat) : Nat := if k ≤ 26 then k + 48 else if k ≤ 29 then k + 47 else k + 46
def dxInv (w : World) (N g n cap c : Nat) (W : World) : Prop := Mk w.heap.size W w.heap.size c ∧ (∃ l, W.ownsRow w.heap.size 41 3 (.slice (some ⟨g, 0, none⟩) n cap) n (flat3 l)) ∧ Below w.heap.size w W ∧ N ≤ W.heap.size
theorem dxInv.alloc {w W : World} {N g n cap c : Nat} (h : dxInv w N g n cap c W) (o : Obj) : dxInv w N g n cap c (W.alloc o) := by
  obtain ⟨h1, ⟨l, h2⟩, h3, h4⟩ := h
  exact ⟨h1.alloc _, ⟨l, h2.alloc _⟩, h3.alloc h3.size _, by simp; omega⟩
theorem dxInv.call {w W W' : World} {N g n cap c : Nat} (h : dxInv w N g n cap c W) (hm : Mk w.heap.size W' w.heap.size (c + 1)) (hg : W.grownBy W' (some w.heap.size)) : dxInv w N g n cap (c + 1) W' := by
  obtain ⟨h1, ⟨l, h2⟩, h3, h4⟩ := h
  exact ⟨hm, ⟨l, h2.kept hg (.inr (h1.ne h2 (by decide)))⟩, h3.trans (grown_below hg h3.size (Nat.le_refl _)), Nat.le_trans h4 hg.size⟩
theorem dxInv.set {w W : World} {N g n cap c : Nat} (h : dxInv w N g n cap c W) (j : Nat) (hj : j < n) (k : Nat) (hk : k < 3) (a : Int) : dxInv w N g n cap c (W.setCell ⟨g, j * 3 + k, none⟩ (.int .i64 a)) := by
  obtain ⟨h1, ⟨l, h2⟩, h3, h4⟩ := h
  have hgr := World.grownBy_set W g (j * 3 + k) (.int .i64 a)
  have hge := own_ge h2 g rfl
  have hne := h1.ne h2 (by decide)
  exact ⟨h1.grown hgr (fun e => hne (by rw [← e]; rfl)) (fun b e => by cases e; exact hge), own3_set1 h2 j hj k hk a, h3.trans ((Below.refl _ _).grown hgr h3.size (fun b e => by cases e; exact hge)), Nat.le_trans h4 hgr.size⟩
theorem dxPureT (N g j : Nat) : ∀ k, k ∈ dxPure → ∀ v W, RT N (dxK g j) k v W := by
  intro k hk v W
  simp only [dxPure, List.mem_cons, List.not_mem_nil, or_false] at hk
  rcases hk with rfl | rfl | rfl | rfl | rfl | rfl | rfl | rfl | rfl | rfl | rfl | rfl | rfl | rfl | rfl <;> exact trivial
def DxO (w : World) (v : Value) (wr : World) : Prop := ∃ i c : Nat, i ≤ 4 ∧ v = .int .i64 i ∧ c ≤ 300 * i ∧ Mk w.heap.size wr w.heap.size c ∧ Below w.heap.size w wr
/-- The list of pulses that is held: some, not too long. -/
def DxP (w : World) (c : Nat) (own : Bool) (v : Value) (wr : World) : Prop := ∃ (A : Option Addr) (n cp : Nat) (l : List V3) (c' : Nat), v = .slice A n cp ∧ n ≤ 60 ∧ n ≤ cp ∧ cp ≤ maxLen ∧ VR wr A n l ∧ (own = true → wr.ownsRow w.heap.size 41 3 v n (flat3 l)) ∧ c' ≤ c + 100 ∧ Mk w.heap.size wr w.heap.size c' ∧ Below w.heap.size w wr
set_option linter.unusedVariables false in
set_option maxRecDepth 100000 in
set_option maxHeartbeats 30000000 in
theorem walk_DetectorExact (a0 : Option Addr) (len0 cap0 : Nat) (z0 : List Int) (a1 : Option Addr) (len1 cap1 : Nat) (z1 : List V3) (a2 : Option Addr) (len2 cap2 : Nat) (z2 : List Int) (w : World)
    (w0 : IsRow .i64 w a0 len0 cap0 z0) (w1 : VR w a1 len1 z1 ∧ len1 ≤ maxLen ∧ len1 ≤ cap1 ∧ cap1 ≤ maxLen) (w2 : IsRow .u8 w a2 len2 cap2 z2) :
    Calls Try.prog 10 #[.slice a0 len0 cap0, .slice a1 len1 cap1, .slice a2 len2 cap2] w fun e w' => e = .returned (.bool true) ∧ Below w.heap.size w w' := by
  obtain ⟨r0, m0, _⟩ := w0.reads
  obtain ⟨r1, m1, m1', m1''⟩ := w1
  obtain ⟨r2, m2, q2⟩ := w2.reads
  clear w0 w2
  generalize z0.take len0 = l0 at r0
  generalize z2.take len2 = l2 at r2 q2
  go_enter Try.func10, Try.ntmps10
  go_wp2_with fail
  refine (new_c _ _ _ _ _ m0 r0).mono ?_
  rintro e w1 ⟨rfl, hm1, hb1, hz1⟩
  go_wp2_with fail
  go_loopw [8] (fun v wr => DxO w v wr) (fun v _ => 4 - (intOf v).toNat)
  case atStart => exact (show DxO _ _ _ from ⟨0, 0, by omega, rfl, by omega, hm1, hb1⟩)
  case round =>
    obtain ⟨i, c, hi, rfl, hc, hmk, hbr⟩ := hrel
    clear hm1 hb1 hz1
    by_cases hlt : i < 4
    · go_wp2_with fail
      refine (pulses_c w.heap.size w.heap.size c 20 wr hmk (by omega) (by omega)).mono ?_
      rintro e w2 ⟨v2, p, c2, rfl, own2, hp20, hmP, hc2, hm2, hg2⟩
      have hb2 := hbr.trans (grown_below hg2 hbr.size (Nat.le_refl _))
      have own2b := own_more own2 hbr.size
      clear own2 hmk hg2 hbr hmP
      obtain ⟨n, hn⟩ : ∃ n, p.length = n := ⟨_, rfl⟩
      rw [hn] at own2b hp20
      clear hn
      obtain ⟨A, cp, rfl, k1, k2⟩ := own_form own2b
      go_upto_region 6 with fail
      go_cut [33] (fun b wx => b = .bool (decide (i = 3 ∧ len1 ≤ 60)) ∧ wx = w2)
      case first =>
        by_cases h3 : i = 3
        · subst h3
          by_cases h60 : len1 ≤ 60
          · have hd : decide ((len1 : Int) ≤ 60) = true := by simp; omega
            go_wp2_with fail
            go_meet
            exact ⟨by simp [h60], rfl⟩
          · have hd : decide ((len1 : Int) ≤ 60) = false := by simp; omega
            go_wp2_with fail
            go_meet
            exact ⟨by simp [h60], rfl⟩
        · have hd : ((i : Int) == 3) = false := by simp; omega
          go_wp2_with fail
          go_meet
          exact ⟨by simp [h3], rfl⟩
      case rest =>
        obtain ⟨rfl, rfl⟩ := hcut
        go_upto_if 33 with fail
        go_cut [9] (fun v wx => DxP w c (decide (i ≠ 3)) v wx)
        case first =>
          by_cases h3 : i = 3 ∧ len1 ≤ 60
          · have hd : decide (i = 3 ∧ len1 ≤ 60) = true := by simpa using h3
            go_wp2_with fail
            go_meet
            exact (show DxP _ _ _ _ _ from ⟨a1, len1, cap1, z1, c2, rfl, h3.2, m1', m1'', r1.below hb2, fun h => by simp [h3.1] at h, by omega, hm2, hb2⟩)
          · have hd : decide (i = 3 ∧ len1 ≤ 60) = false := by simpa using h3
            go_wp2_with fail
            go_meet
            exact (show DxP _ _ _ _ _ from ⟨A, n, cp, p, c2, rfl, by omega, k1, k2, own_VR own2b, fun _ => own2b, by omega, hm2, hb2⟩)
        case rest =>
          obtain ⟨A, n, cp, p, c3, rfl, hn60, k1, k2, hVR, hown, hc3, hm3, hb3⟩ := hcut
          clear own2b hm2 hb2
          go_upto_region 8 with fail
          go_cut [41] (fun b wx => b = .bool (decide (i = 2 ∧ 0 < n)) ∧ wx = wc)
          case first =>
            by_cases h2 : i = 2
            · subst h2
              by_cases h0 : 0 < n
              · have hd : decide (0 < (n : Int)) = true := by simp; omega
                have hd' : decide (0 < n) = true := by simp; omega
                go_wp2_with fail
                go_meet
                exact ⟨by simp [h0], rfl⟩
              · have hd : decide (0 < (n : Int)) = false := by simp; omega
                have hd' : decide (0 < n) = false := by simp; omega
                go_wp2_with fail
                go_meet
                exact ⟨by simp [h0], rfl⟩
            · have hd : ((i : Int) == 2) = false := by simp; omega
              go_wp2_with fail
              go_meet
              exact ⟨by simp [h2], rfl⟩
          case rest =>
            obtain ⟨rfl, rfl⟩ := hcut
            obtain ⟨bb, hbb⟩ : ∃ b, decide (i = 2 ∧ 0 < n) = b := ⟨_, rfl⟩
            rw [hbb]
            have Hbb := Lib.hid hbb
            clear hbb
            go_upto_if 41 with fail
            go_cut [9] (fun v wx => DxP w (c + 110) false v wx)
            case first =>
              cases bb
              case true =>
                obtain ⟨hi2, hn0⟩ : i = 2 ∧ 0 < n := of_decide_eq_true Hbb.out
                have hown := hown (by simp; omega)
                clear hi2
                go_wp2_with fail
                refine (next_c w.heap.size w.heap.size c3 n wc hm3 (by omega) (by omega) (by omega)).mono ?_
                rintro e w4 ⟨j0, hj0, hj1, rfl, hm4, hg4⟩
                obtain ⟨j, rfl⟩ := Int.eq_ofNat_of_zero_le hj0
                obtain ⟨g, cp', hAe, hgw, hcap⟩ := hown.form hn0
                obtain ⟨rfl, _, rfl⟩ : A = some ⟨g, 0, none⟩ ∧ n = n ∧ cp = cp' := by simpa using hAe
                have own4 := hown.kept hg4 (.inr (hm3.ne hown (by decide)))
                have hb4 := hb3.trans (grown_below hg4 hb3.size (Nat.le_refl _))
                have hjn : j < n := by omega
                clear hVR hown hm3 hg4 hb3 hj0 hj1 hAe
                go_wp2_with fail
                -- REGION
                refine wp_region_any (by kernel_rfl) ?_
                change wpAny _ _ _ _ _ _ _ (World.drew _)
                refine wpAny_take (i := 0) (v := ?v0) rfl (by kernel_rfl) (by kernel_rfl) (by kernel_rfl) (fun _ _ _ h => h) (Or.inl ⟨by rfl, ?y0⟩) ?_
                case y0 => (intro w; go_simp; with_reducible rfl)
                refine wpAny_take (i := 1) (v := ?v1) rfl (by kernel_rfl) (by kernel_rfl) (by kernel_rfl) (fun _ _ _ h => h) (Or.inl ⟨by rfl, ?y1⟩) ?_
                case y1 => (intro w; go_simp; with_reducible rfl)
                refine wpAny_take (i := 2) (v := ?v2) rfl (by kernel_rfl) (by kernel_rfl) (by kernel_rfl) (fun _ _ _ h => h) (Or.inl ⟨by rfl, ?y2⟩) ?_
                case y2 => (intro w; go_simp; with_reducible rfl)
                refine wpAny_take (i := 3) (v := ?v3) rfl (by kernel_rfl) (by kernel_rfl) (by kernel_rfl) (fun _ _ _ h => h) (Or.inl ⟨by rfl, ?y3⟩) ?_
                case y3 => (intro w; go_simp; with_reducible rfl)
                refine wpAny_take (i := 4) (v := ?v4) rfl (by kernel_rfl) (by kernel_rfl) (by kernel_rfl) (fun _ _ _ h => h) (Or.inl ⟨by rfl, ?y4⟩) ?_
                case y4 => (intro w; go_simp; with_reducible rfl)
                refine wpAny_take (i := 5) (v := ?v5) rfl (by kernel_rfl) (by kernel_rfl) (by kernel_rfl) (fun _ _ _ h => h) (Or.inl ⟨by rfl, ?y5⟩) ?_
                case y5 => (intro w; go_simp; with_reducible rfl)
                refine wpAny_take (i := 6) (v := ?v6) rfl (by kernel_rfl) (by kernel_rfl) (by kernel_rfl) (fun _ _ _ h => h) (Or.inl ⟨by rfl, ?y6⟩) ?_
                case y6 => (intro w; go_simp; with_reducible rfl)
                refine wpAny_take (i := 10) (v := ?v10) rfl (by kernel_rfl) (by kernel_rfl) (by kernel_rfl) (fun _ _ _ h => h) (Or.inl ⟨by rfl, ?y10⟩) ?_
                case y10 => (intro w; go_simp; with_reducible rfl)
                refine wpAny_take (i := 11) (v := ?v11) rfl (by kernel_rfl) (by kernel_rfl) (by kernel_rfl) (fun _ _ _ h => h) (Or.inl ⟨by rfl, ?y11⟩) ?_
                case y11 => (intro w; go_simp; with_reducible rfl)
                refine wpAny_take (i := 12) (v := ?v12) rfl (by kernel_rfl) (by kernel_rfl) (by kernel_rfl) (fun _ _ _ h => h) (Or.inl ⟨by rfl, ?y12⟩) ?_
                case y12 => (intro w; go_simp; with_reducible rfl)
                refine wpAny_take (i := 13) (v := ?v13) rfl (by kernel_rfl) (by kernel_rfl) (by kernel_rfl) (fun _ _ _ h => h) (Or.inl ⟨by rfl, ?y13⟩) ?_
                case y13 => (intro w; go_simp; with_reducible rfl)
                refine wpAny_take (i := 17) (v := ?v17) rfl (by kernel_rfl) (by kernel_rfl) (by kernel_rfl) (fun _ _ _ h => h) (Or.inl ⟨by rfl, ?y17⟩) ?_
                case y17 => (intro w; go_simp; with_reducible rfl)
                refine wpAny_take (i := 18) (v := ?v18) rfl (by kernel_rfl) (by kernel_rfl) (by kernel_rfl) (fun _ _ _ h => h) (Or.inl ⟨by rfl, ?y18⟩) ?_
                case y18 => (intro w; go_simp; with_reducible rfl)
                refine wpAny_take (i := 19) (v := ?v19) rfl (by kernel_rfl) (by kernel_rfl) (by kernel_rfl) (fun _ _ _ h => h) (Or.inl ⟨by rfl, ?y19⟩) ?_
                case y19 => (intro w; go_simp; with_reducible rfl)
                refine wpAny_take (i := 20) (v := ?v20) rfl (by kernel_rfl) (by kernel_rfl) (by kernel_rfl) (fun _ _ _ h => h) (Or.inl ⟨by rfl, ?y20⟩) ?_
                case y20 => (intro w; go_simp; with_reducible rfl)
                refine with_act (φ := fun a => wpAny _ _ _ _ _ _ a _) ?_
                intro a0 ha0
                simp only [Act.put, List.setIfInBounds_toArray, List.set_cons_zero, List.set_cons_succ, List.getElem_toArray, List.getElem_cons_zero, List.getElem_cons_succ] at ha0
                refine wpAny_inv (by kernel_rfl) (fun L a W => RI (fun vs => putL a0 vs dxS) (RT (w4.heap.size) (dxK g j)) (RG dxPure dxCosts (c3 + 1 + 3) (dxInv w w4.heap.size g n cp)) L a W) ?_ ?_ _ _ _ _ (by kernel_rfl) (by decide +kernel) ?_
                · rintro i L a W hi ⟨vs, rfl, hG, hT⟩
                  obtain ⟨h0, hsz, hlt'⟩ := ready_at hi
                  have hsz' : i < 33 := hsz
                  have hnp : i ∉ dxPure := fun h => by rw [hG.pure i h] at h0; cases h0
                  have hcs : i = 7 ∨ i = 8 ∨ i = 9 ∨ i = 14 ∨ i = 15 ∨ i = 16 ∨ i = 21 ∨ i = 22 ∨ i = 23 ∨ i = 24 ∨ i = 25 ∨ i = 26 ∨ i = 27 ∨ i = 28 ∨ i = 29 ∨ i = 30 ∨ i = 31 ∨ i = 32 := by
                    simp only [dxPure, List.mem_cons, List.not_mem_nil, or_false, not_or] at hnp
                    omega
                  clear hnp hsz hsz'
                  rcases hcs with rfl | rfl | rfl | rfl | rfl | rfl | rfl | rfl | rfl | rfl | rfl | rfl | rfl | rfl | rfl | rfl | rfl | rfl
                  · obtain ⟨c', hc', hinv⟩ := hG.inv
                    obtain ⟨hmk, ⟨lx, hrow⟩, hbel, hN⟩ := hinv
                    obtain ⟨q, hq⟩ : ∃ q, lx[j]? = some q := ⟨_, List.getElem?_eq_getElem (by have := own3_len hrow; omega)⟩
                    have hc1 := (own3_at hrow hq).1
                    clear hc' hmk hrow hbel hN hq
                    obtain ⟨_, o, ho, _⟩ := mem_ready.1 hi
                    have ho2 := ho
                    simp only [List.getElem?_toArray, List.getElem?_cons_succ, List.getElem?_cons_zero, Option.some.injEq] at ho2
                    subst ho2
                    refine step_free ho ?_ ?_
                    · rfl
                    intro K' hK
                    clear ho
                    have HT := Lib.hid hT
                    have HG := Lib.hid hG
                    have H0 := Lib.hid h0
                    clear hT hG h0 hi
                    subst ha0
                    simp only [dxS, putL, Act.put, List.setIfInBounds_toArray, List.set_cons_zero, List.set_cons_succ]
                    go_simp
                    refine RI.next (v := .int .i64 q.a) hK HT (fun _ _ h => h) (HG.out.same 7 (fun _ h => h)) (show ∃ x : Int, Value.int .i64 q.a = .int .i64 x from ⟨_, rfl⟩) ?_
                    simp only [dxS, putL, Act.put, List.setIfInBounds_toArray, List.set_cons_zero, List.set_cons_succ]
                    rfl
                  · refine step_free rfl rfl (fun K' hK => ?_)
                    obtain ⟨c', hc', hinv⟩ := hG.inv
                    obtain ⟨hmk, ⟨lx, hrow⟩, hbel, hN⟩ := hinv
                    obtain ⟨x, e0⟩ : ∃ x : Int, vs 7 = .int .i64 x := hT 7 (ready_dep hi rfl 7 (by kernel_rfl))
                    clear hc' hmk hrow hbel
                    have HT := Lib.hid hT
                    have HG := Lib.hid hG
                    have H0 := Lib.hid h0
                    clear hT hG h0 hi
                    subst ha0
                    simp only [dxS, putL, Act.put, List.setIfInBounds_toArray, List.set_cons_zero, List.set_cons_succ, List.getElem_toArray, List.getElem_cons_zero, List.getElem_cons_succ]
                    rw [e0]
                    go_simp
                    refine RI.next (v := .slice (some ⟨W.heap.size, 0, none⟩) 3 3) hK HT (RT.st (fun _ _ _ h => h.alloc _)) (HG.out.same 8 (fun _ h => h.alloc _)) (show ∃ l, True ∧ SlN _ _ _ _ l from ⟨[x, -1, 32], trivial, W.heap.size, rfl, hN, IR.new [x, -1, 32] 3 rfl rfl (by decide)⟩) ?_
                    simp only [dxS, putL, Act.put, List.setIfInBounds_toArray, List.set_cons_zero, List.set_cons_succ]
                    rw [← e0]
                    rfl
                  · refine step_free rfl rfl (fun K' hK => ?_)
                    obtain ⟨lst, _, b, hv, hbN, hIR⟩ : ∃ l, True ∧ SlN W w4.heap.size 3 (vs 8) l := hT 8 (ready_dep hi rfl 8 (by kernel_rfl))
                    obtain ⟨c', hc', hinv⟩ := hG.inv
                    have hgw4 := hm4.lt
                    have Hpk := Lib.hid (pick_c w.heap.size w.heap.size c' b 3 3 lst W hinv.1 (by omega) (by omega) (by omega) (by omega) hIR)
                    have Hinv := Lib.hid hinv
                    have Hc := Lib.hid hc'
                    have Hl := Lib.hid hlt'
                    have Hv := Lib.hid hv
                    clear hIR hc' hinv hlt' hv
                    have HT := Lib.hid hT
                    have HG := Lib.hid hG
                    have H0 := Lib.hid h0
                    clear hT hG h0 hi
                    subst ha0
                    simp only [dxS, putL, Act.put, List.setIfInBounds_toArray, List.set_cons_zero, List.set_cons_succ, List.getElem_toArray, List.getElem_cons_zero, List.getElem_cons_succ]
                    rw [Hv.out]
                    go_simp
                    refine (Hpk.out).mono ?_
                    rintro e w5 ⟨u, _, rfl, hm5, hg5⟩
                    go_simp
                    refine RI.next (v := .int .i64 u) hK HT (RT.st (fun _ _ _ h => h.grown hg5 hgw4)) (HG.out.call 9 1 (by decide) H0.out Hl.out c' Hc.out (Hinv.out.call hm5 hg5)) (show ∃ x : Int, Value.int .i64 u = .int .i64 x from ⟨u, rfl⟩) ?_
                    simp only [dxS, putL, Act.put, List.setIfInBounds_toArray, List.set_cons_zero, List.set_cons_succ]
                    rw [← Hv.out]
                    rfl
                  · obtain ⟨c', hc', hinv⟩ := hG.inv
                    obtain ⟨hmk, ⟨lx, hrow⟩, hbel, hN⟩ := hinv
                    obtain ⟨q, hq⟩ : ∃ q, lx[j]? = some q := ⟨_, List.getElem?_eq_getElem (by have := own3_len hrow; omega)⟩
                    have hc1 := (own3_at hrow hq).2.1
                    clear hc' hmk hrow hbel hN hq
                    obtain ⟨_, o, ho, _⟩ := mem_ready.1 hi
                    have ho2 := ho
                    simp only [List.getElem?_toArray, List.getElem?_cons_succ, List.getElem?_cons_zero, Option.some.injEq] at ho2
                    subst ho2
                    refine step_free ho ?_ ?_
                    · rfl
                    intro K' hK
                    clear ho
                    have HT := Lib.hid hT
                    have HG := Lib.hid hG
                    have H0 := Lib.hid h0
                    clear hT hG h0 hi
                    subst ha0
                    simp only [dxS, putL, Act.put, List.setIfInBounds_toArray, List.set_cons_zero, List.set_cons_succ]
                    go_simp
                    refine RI.next (v := .int .i64 q.b) hK HT (fun _ _ h => h) (HG.out.same 14 (fun _ h => h)) (show ∃ x : Int, Value.int .i64 q.b = .int .i64 x from ⟨_, rfl⟩) ?_
                    simp only [dxS, putL, Act.put, List.setIfInBounds_toArray, List.set_cons_zero, List.set_cons_succ]
                    rfl
                  · refine step_free rfl rfl (fun K' hK => ?_)
                    obtain ⟨c', hc', hinv⟩ := hG.inv
                    obtain ⟨hmk, ⟨lx, hrow⟩, hbel, hN⟩ := hinv
                    obtain ⟨x, e0⟩ : ∃ x : Int, vs 14 = .int .i64 x := hT 14 (ready_dep hi rfl 14 (by kernel_rfl))
                    clear hc' hmk hrow hbel
                    have HT := Lib.hid hT
                    have HG := Lib.hid hG
                    have H0 := Lib.hid h0
                    clear hT hG h0 hi
                    subst ha0
                    simp only [dxS, putL, Act.put, List.setIfInBounds_toArray, List.set_cons_zero, List.set_cons_succ, List.getElem_toArray, List.getElem_cons_zero, List.getElem_cons_succ]
                    rw [e0]
                    go_simp
                    refine RI.next (v := .slice (some ⟨W.heap.size, 0, none⟩) 4 4) hK HT (RT.st (fun _ _ _ h => h.alloc _)) (HG.out.same 15 (fun _ h => h.alloc _)) (show ∃ l, True ∧ SlN _ _ _ _ l from ⟨[x, -1, 0, 1000000001], trivial, W.heap.size, rfl, hN, IR.new [x, -1, 0, 1000000001] 4 rfl rfl (by decide)⟩) ?_
                    simp only [dxS, putL, Act.put, List.setIfInBounds_toArray, List.set_cons_zero, List.set_cons_succ]
                    rw [← e0]
                    rfl
                  · refine step_free rfl rfl (fun K' hK => ?_)
                    obtain ⟨lst, _, b, hv, hbN, hIR⟩ : ∃ l, True ∧ SlN W w4.heap.size 4 (vs 15) l := hT 15 (ready_dep hi rfl 15 (by kernel_rfl))
                    obtain ⟨c', hc', hinv⟩ := hG.inv
                    have hgw4 := hm4.lt
                    have Hpk := Lib.hid (pick_c w.heap.size w.heap.size c' b 4 4 lst W hinv.1 (by omega) (by omega) (by omega) (by omega) hIR)
                    have Hinv := Lib.hid hinv
                    have Hc := Lib.hid hc'
                    have Hl := Lib.hid hlt'
                    have Hv := Lib.hid hv
                    clear hIR hc' hinv hlt' hv
                    have HT := Lib.hid hT
                    have HG := Lib.hid hG
                    have H0 := Lib.hid h0
                    clear hT hG h0 hi
                    subst ha0
                    simp only [dxS, putL, Act.put, List.setIfInBounds_toArray, List.set_cons_zero, List.set_cons_succ, List.getElem_toArray, List.getElem_cons_zero, List.getElem_cons_succ]
                    rw [Hv.out]
                    go_simp
                    refine (Hpk.out).mono ?_
                    rintro e w5 ⟨u, _, rfl, hm5, hg5⟩
                    go_simp
                    refine RI.next (v := .int .i64 u) hK HT (RT.st (fun _ _ _ h => h.grown hg5 hgw4)) (HG.out.call 16 1 (by decide) H0.out Hl.out c' Hc.out (Hinv.out.call hm5 hg5)) (show ∃ x : Int, Value.int .i64 u = .int .i64 x from ⟨u, rfl⟩) ?_
                    simp only [dxS, putL, Act.put, List.setIfInBounds_toArray, List.set_cons_zero, List.set_cons_succ]
                    rw [← Hv.out]
                    rfl
                  · obtain ⟨c', hc', hinv⟩ := hG.inv
                    obtain ⟨hmk, ⟨lx, hrow⟩, hbel, hN⟩ := hinv
                    obtain ⟨q, hq⟩ : ∃ q, lx[j]? = some q := ⟨_, List.getElem?_eq_getElem (by have := own3_len hrow; omega)⟩
                    have hc1 := (own3_at hrow hq).2.2
                    clear hc' hmk hrow hbel hN hq
                    obtain ⟨_, o, ho, _⟩ := mem_ready.1 hi
                    have ho2 := ho
                    simp only [List.getElem?_toArray, List.getElem?_cons_succ, List.getElem?_cons_zero, Option.some.injEq] at ho2
                    subst ho2
                    refine step_free ho ?_ ?_
                    · rfl
                    intro K' hK
                    clear ho
                    have HT := Lib.hid hT
                    have HG := Lib.hid hG
                    have H0 := Lib.hid h0
                    clear hT hG h0 hi
                    subst ha0
                    simp only [dxS, putL, Act.put, List.setIfInBounds_toArray, List.set_cons_zero, List.set_cons_succ]
                    go_simp
                    refine RI.next (v := .int .i64 q.c) hK HT (fun _ _ h => h) (HG.out.same 21 (fun _ h => h)) (show ∃ x : Int, Value.int .i64 q.c = .int .i64 x from ⟨_, rfl⟩) ?_
                    simp only [dxS, putL, Act.put, List.setIfInBounds_toArray, List.set_cons_zero, List.set_cons_succ]
                    rfl
                  · refine step_free rfl rfl (fun K' hK => ?_)
                    obtain ⟨c', hc', hinv⟩ := hG.inv
                    obtain ⟨hmk, ⟨lx, hrow⟩, hbel, hN⟩ := hinv
                    obtain ⟨x, e0⟩ : ∃ x : Int, vs 21 = .int .i64 x := hT 21 (ready_dep hi rfl 21 (by kernel_rfl))
                    clear hc' hmk hrow hbel
                    have HT := Lib.hid hT
                    have HG := Lib.hid hG
                    have H0 := Lib.hid h0
                    clear hT hG h0 hi
                    subst ha0
                    simp only [dxS, putL, Act.put, List.setIfInBounds_toArray, List.set_cons_zero, List.set_cons_succ, List.getElem_toArray, List.getElem_cons_zero, List.getElem_cons_succ]
                    rw [e0]
                    go_simp
                    refine RI.next (v := .slice (some ⟨W.heap.size, 0, none⟩) 4 4) hK HT (RT.st (fun _ _ _ h => h.alloc _)) (HG.out.same 22 (fun _ h => h.alloc _)) (show ∃ l, True ∧ SlN _ _ _ _ l from ⟨[x, 0, 2, 1], trivial, W.heap.size, rfl, hN, IR.new [x, 0, 2, 1] 4 rfl rfl (by decide)⟩) ?_
                    simp only [dxS, putL, Act.put, List.setIfInBounds_toArray, List.set_cons_zero, List.set_cons_succ]
                    rw [← e0]
                    rfl
                  · refine step_free rfl rfl (fun K' hK => ?_)
                    obtain ⟨lst, _, b, hv, hbN, hIR⟩ : ∃ l, True ∧ SlN W w4.heap.size 4 (vs 22) l := hT 22 (ready_dep hi rfl 22 (by kernel_rfl))
                    obtain ⟨c', hc', hinv⟩ := hG.inv
                    have hgw4 := hm4.lt
                    have Hpk := Lib.hid (pick_c w.heap.size w.heap.size c' b 4 4 lst W hinv.1 (by omega) (by omega) (by omega) (by omega) hIR)
                    have Hinv := Lib.hid hinv
                    have Hc := Lib.hid hc'
                    have Hl := Lib.hid hlt'
                    have Hv := Lib.hid hv
                    clear hIR hc' hinv hlt' hv
                    have HT := Lib.hid hT
                    have HG := Lib.hid hG
                    have H0 := Lib.hid h0
                    clear hT hG h0 hi
                    subst ha0
                    simp only [dxS, putL, Act.put, List.setIfInBounds_toArray, List.set_cons_zero, List.set_cons_succ, List.getElem_toArray, List.getElem_cons_zero, List.getElem_cons_succ]
                    rw [Hv.out]
                    go_simp
                    refine (Hpk.out).mono ?_
                    rintro e w5 ⟨u, _, rfl, hm5, hg5⟩
                    go_simp
                    refine RI.next (v := .int .i64 u) hK HT (RT.st (fun _ _ _ h => h.grown hg5 hgw4)) (HG.out.call 23 1 (by decide) H0.out Hl.out c' Hc.out (Hinv.out.call hm5 hg5)) (show ∃ x : Int, Value.int .i64 u = .int .i64 x from ⟨u, rfl⟩) ?_
                    simp only [dxS, putL, Act.put, List.setIfInBounds_toArray, List.set_cons_zero, List.set_cons_succ]
                    rw [← Hv.out]
                    rfl
                  · refine step_free rfl rfl (fun K' hK => ?_)
                    have HT := Lib.hid hT
                    have HG := Lib.hid hG
                    have H0 := Lib.hid h0
                    clear hT hG h0 hi
                    subst ha0
                    simp only [dxS, putL, Act.put, List.setIfInBounds_toArray, List.set_cons_zero, List.set_cons_succ, List.getElem_toArray, List.getElem_cons_zero, List.getElem_cons_succ]
                    go_simp
                    refine RI.next (v := .pointer (some ⟨g, j * 3, none⟩)) hK HT (fun _ _ h => h) (HG.out.same 24 (fun _ h => h)) (show Value.pointer (some ⟨g, j * 3, none⟩) = .pointer (some ⟨g, j * 3, none⟩) from rfl) ?_
                    simp only [dxS, putL, Act.put, List.setIfInBounds_toArray, List.set_cons_zero, List.set_cons_succ]
                    rfl
                  · refine step_free rfl rfl (fun K' hK => ?_)
                    have e0 : vs 24 = .pointer (some ⟨g, j * 3, none⟩) := hT 24 (ready_dep hi rfl 24 (by kernel_rfl))
                    have HT := Lib.hid hT
                    have HG := Lib.hid hG
                    have H0 := Lib.hid h0
                    clear hT hG h0 hi
                    subst ha0
                    simp only [dxS, putL, Act.put, List.setIfInBounds_toArray, List.set_cons_zero, List.set_cons_succ, List.getElem_toArray, List.getElem_cons_zero, List.getElem_cons_succ]
                    rw [e0]
                    go_simp
                    refine RI.next (v := .pointer (some ⟨g, j * 3, none⟩)) hK HT (fun _ _ h => h) (HG.out.same 25 (fun _ h => h)) (show Value.pointer (some ⟨g, j * 3, none⟩) = .pointer (some ⟨g, j * 3, none⟩) from rfl) ?_
                    simp only [dxS, putL, Act.put, List.setIfInBounds_toArray, List.set_cons_zero, List.set_cons_succ]
                    rw [← e0]
                    rfl
                  · obtain ⟨c', hc', hinv⟩ := hG.inv
                    obtain ⟨hmk, ⟨lx, hrow⟩, hbel, hN⟩ := hinv
                    obtain ⟨x, e0⟩ : ∃ x : Int, vs 9 = .int .i64 x := hT 9 (ready_dep hi rfl 9 (by kernel_rfl))
                    have e1 : vs 25 = .pointer (some ⟨g, j * 3, none⟩) := hT 25 (ready_dep hi rfl 25 (by kernel_rfl))
                    obtain ⟨q, hq⟩ : ∃ q, lx[j]? = some q := ⟨_, List.getElem?_eq_getElem (by have := own3_len hrow; omega)⟩
                    have hc1 := (own3_at hrow hq).1
                    have hz1 := hrow.frozenAt (j * 3)
                    have hgN : g < w4.heap.size := own_lt own4 g rfl
                    clear hc' hmk hrow hbel hN hq
                    obtain ⟨_, o, ho, _⟩ := mem_ready.1 hi
                    have ho2 := ho
                    simp only [List.getElem?_toArray, List.getElem?_cons_succ, List.getElem?_cons_zero, Option.some.injEq] at ho2
                    subst ho2
                    refine step_free ho ?_ ?_
                    · rfl
                    intro K' hK
                    clear ho
                    have HT := Lib.hid hT
                    have HG := Lib.hid hG
                    have H0 := Lib.hid h0
                    clear hT hG h0 hi
                    subst ha0
                    simp only [dxS, putL, Act.put, List.setIfInBounds_toArray, List.set_cons_zero, List.set_cons_succ]
                    rw [e0, e1]
                    go_simp
                    refine RI.next (v := undef) hK HT (RT.st (fun _ _ _ h => h.set _ hgN)) (HG.out.same 26 (fun _ h => h.set j hjn 0 (by omega) x)) (show True from trivial) ?_
                    simp only [dxS, putL, Act.put, List.setIfInBounds_toArray, List.set_cons_zero, List.set_cons_succ]
                    rw [← e0, ← e1]
                    rfl
                  · refine step_free rfl rfl (fun K' hK => ?_)
                    have HT := Lib.hid hT
                    have HG := Lib.hid hG
                    have H0 := Lib.hid h0
                    clear hT hG h0 hi
                    subst ha0
                    simp only [dxS, putL, Act.put, List.setIfInBounds_toArray, List.set_cons_zero, List.set_cons_succ, List.getElem_toArray, List.getElem_cons_zero, List.getElem_cons_succ]
                    go_simp
                    refine RI.next (v := .pointer (some ⟨g, j * 3, none⟩)) hK HT (fun _ _ h => h) (HG.out.same 27 (fun _ h => h)) (show Value.pointer (some ⟨g, j * 3, none⟩) = .pointer (some ⟨g, j * 3, none⟩) from rfl) ?_
                    simp only [dxS, putL, Act.put, List.setIfInBounds_toArray, List.set_cons_zero, List.set_cons_succ]
                    rfl
                  · refine step_free rfl rfl (fun K' hK => ?_)
                    have e0 : vs 27 = .pointer (some ⟨g, j * 3, none⟩) := hT 27 (ready_dep hi rfl 27 (by kernel_rfl))
                    have HT := Lib.hid hT
                    have HG := Lib.hid hG
                    have H0 := Lib.hid h0
                    clear hT hG h0 hi
                    subst ha0
                    simp only [dxS, putL, Act.put, List.setIfInBounds_toArray, List.set_cons_zero, List.set_cons_succ, List.getElem_toArray, List.getElem_cons_zero, List.getElem_cons_succ]
                    rw [e0]
                    go_simp
                    refine RI.next (v := .pointer (some ⟨g, j * 3 + 1, none⟩)) hK HT (fun _ _ h => h) (HG.out.same 28 (fun _ h => h)) (show Value.pointer (some ⟨g, j * 3 + 1, none⟩) = .pointer (some ⟨g, j * 3 + 1, none⟩) from rfl) ?_
                    simp only [dxS, putL, Act.put, List.setIfInBounds_toArray, List.set_cons_zero, List.set_cons_succ]
                    rw [← e0]
                    rfl
                  · obtain ⟨c', hc', hinv⟩ := hG.inv
                    obtain ⟨hmk, ⟨lx, hrow⟩, hbel, hN⟩ := hinv
                    obtain ⟨x, e0⟩ : ∃ x : Int, vs 16 = .int .i64 x := hT 16 (ready_dep hi rfl 16 (by kernel_rfl))
                    have e1 : vs 28 = .pointer (some ⟨g, j * 3 + 1, none⟩) := hT 28 (ready_dep hi rfl 28 (by kernel_rfl))
                    obtain ⟨q, hq⟩ : ∃ q, lx[j]? = some q := ⟨_, List.getElem?_eq_getElem (by have := own3_len hrow; omega)⟩
                    have hc1 := (own3_at hrow hq).2.1
                    have hz1 := hrow.frozenAt (j * 3 + 1)
                    have hgN : g < w4.heap.size := own_lt own4 g rfl
                    clear hc' hmk hrow hbel hN hq
                    obtain ⟨_, o, ho, _⟩ := mem_ready.1 hi
                    have ho2 := ho
                    simp only [List.getElem?_toArray, List.getElem?_cons_succ, List.getElem?_cons_zero, Option.some.injEq] at ho2
                    subst ho2
                    refine step_free ho ?_ ?_
                    · rfl
                    intro K' hK
                    clear ho
                    have HT := Lib.hid hT
                    have HG := Lib.hid hG
                    have H0 := Lib.hid h0
                    clear hT hG h0 hi
                    subst ha0
                    simp only [dxS, putL, Act.put, List.setIfInBounds_toArray, List.set_cons_zero, List.set_cons_succ]
                    rw [e0, e1]
                    go_simp
                    refine RI.next (v := undef) hK HT (RT.st (fun _ _ _ h => h.set _ hgN)) (HG.out.same 29 (fun _ h => h.set j hjn 1 (by omega) x)) (show True from trivial) ?_
                    simp only [dxS, putL, Act.put, List.setIfInBounds_toArray, List.set_cons_zero, List.set_cons_succ]
                    rw [← e0, ← e1]
                    rfl
                  · refine step_free rfl rfl (fun K' hK => ?_)
                    have HT := Lib.hid hT
                    have HG := Lib.hid hG
                    have H0 := Lib.hid h0
                    clear hT hG h0 hi
                    subst ha0
                    simp only [dxS, putL, Act.put, List.setIfInBounds_toArray, List.set_cons_zero, List.set_cons_succ, List.getElem_toArray, List.getElem_cons_zero, List.getElem_cons_succ]
                    go_simp
                    refine RI.next (v := .pointer (some ⟨g, j * 3, none⟩)) hK HT (fun _ _ h => h) (HG.out.same 30 (fun _ h => h)) (show Value.pointer (some ⟨g, j * 3, none⟩) = .pointer (some ⟨g, j * 3, none⟩) from rfl) ?_
                    simp only [dxS, putL, Act.put, List.setIfInBounds_toArray, List.set_cons_zero, List.set_cons_succ]
                    rfl
                  · refine step_free rfl rfl (fun K' hK => ?_)
                    have e0 : vs 30 = .pointer (some ⟨g, j * 3, none⟩) := hT 30 (ready_dep hi rfl 30 (by kernel_rfl))
                    have HT := Lib.hid hT
                    have HG := Lib.hid hG
                    have H0 := Lib.hid h0
                    clear hT hG h0 hi
                    subst ha0
                    simp only [dxS, putL, Act.put, List.setIfInBounds_toArray, List.set_cons_zero, List.set_cons_succ, List.getElem_toArray, List.getElem_cons_zero, List.getElem_cons_succ]
                    rw [e0]
                    go_simp
                    refine RI.next (v := .pointer (some ⟨g, j * 3 + 2, none⟩)) hK HT (fun _ _ h => h) (HG.out.same 31 (fun _ h => h)) (show Value.pointer (some ⟨g, j * 3 + 2, none⟩) = .pointer (some ⟨g, j * 3 + 2, none⟩) from rfl) ?_
                    simp only [dxS, putL, Act.put, List.setIfInBounds_toArray, List.set_cons_zero, List.set_cons_succ]
                    rw [← e0]
                    rfl
                  · obtain ⟨c', hc', hinv⟩ := hG.inv
                    obtain ⟨hmk, ⟨lx, hrow⟩, hbel, hN⟩ := hinv
                    obtain ⟨x, e0⟩ : ∃ x : Int, vs 23 = .int .i64 x := hT 23 (ready_dep hi rfl 23 (by kernel_rfl))
                    have e1 : vs 31 = .pointer (some ⟨g, j * 3 + 2, none⟩) := hT 31 (ready_dep hi rfl 31 (by kernel_rfl))
                    obtain ⟨q, hq⟩ : ∃ q, lx[j]? = some q := ⟨_, List.getElem?_eq_getElem (by have := own3_len hrow; omega)⟩
                    have hc1 := (own3_at hrow hq).2.2
                    have hz1 := hrow.frozenAt (j * 3 + 2)
                    have hgN : g < w4.heap.size := own_lt own4 g rfl
                    clear hc' hmk hrow hbel hN hq
                    obtain ⟨_, o, ho, _⟩ := mem_ready.1 hi
                    have ho2 := ho
                    simp only [List.getElem?_toArray, List.getElem?_cons_succ, List.getElem?_cons_zero, Option.some.injEq] at ho2
                    subst ho2
                    refine step_free ho ?_ ?_
                    · rfl
                    intro K' hK
                    clear ho
                    have HT := Lib.hid hT
                    have HG := Lib.hid hG
                    have H0 := Lib.hid h0
                    clear hT hG h0 hi
                    subst ha0
                    simp only [dxS, putL, Act.put, List.setIfInBounds_toArray, List.set_cons_zero, List.set_cons_succ]
                    rw [e0, e1]
                    go_simp
                    refine RI.next (v := undef) hK HT (RT.st (fun _ _ _ h => h.set _ hgN)) (HG.out.same 32 (fun _ h => h.set j hjn 2 (by omega) x)) (show True from trivial) ?_
                    simp only [dxS, putL, Act.put, List.setIfInBounds_toArray, List.set_cons_zero, List.set_cons_succ]
                    rw [← e0, ← e1]
                    rfl
                · rintro L a W hall ⟨vs, rfl, hG, hT⟩
                  obtain ⟨cx, hcx, mkx, ⟨lx, ownx⟩, hbx, _⟩ := hG.fin
                  clear hG hT hall
                  subst ha0
                  simp only [dxS, putL, Act.put, List.setIfInBounds_toArray, List.set_cons_zero, List.set_cons_succ]
                  go_wp2_with fail
                  go_meet
                  exact (show DxP _ _ _ _ _ from ⟨_, n, cp, lx, cx, rfl, hn60, k1, k2, own_VR ownx, (fun h => by cases h), by omega, mkx, hbx⟩)
                · exact RI.init dxPure (fun k hk v => dxPureT _ g j k hk v _) (fun k => a0.tmps.getD (dxF k) undef) (putL_self a0 dxF dxS (by kernel_rfl)).symm (RG.init0 (by kernel_rfl) (c3 + 1) 3 (by kernel_rfl) (by omega) ⟨⟨hm4.ge, hm4.blk⟩, ⟨p, own4⟩, hb4.trans (below_drew' (Below.refl _ _)), Nat.le_refl _⟩) (by kernel_rfl)
                -- END
              case false =>
                go_wp2_with fail
                go_meet
                exact (show DxP _ _ _ _ _ from ⟨A, n, cp, p, c3, rfl, hn60, k1, k2, hVR, (fun h => by cases h), by omega, hm3, hb3⟩)
            case rest =>
              clear hVR hown hm3 hb3 Hbb
              obtain ⟨A, n, cp, p, c3, rfl, hn60, k1, k2, hVR, _, hc3, hm3, hb3⟩ := hcut
              have hpl := hVR.len
              obtain ⟨G, a1, a2, _⟩ := Det.vals_len _ p (Nat.le_refl _)
              have hL720 : (Det.encR p).length ≤ 720 := by
                unfold Det.encR
                split
                · rw [Ham.encB_len]; omega
                · simp
              have hLr : ∀ x ∈ Det.encR p, 0 ≤ x ∧ x < 256 := by
                unfold Det.encR
                split
                · exact Ham.encB_range _
                · simp
              have H1 := Lib.hid (fun W (hW : VR W A n p) => dencode_all A n cp p W k1 k2 hW)
              have H2 := Lib.hid (fun W (hW : VR W A n p) => rencode_all A n cp p W k1 k2 hW)
              have H3 := Lib.hid (fun W (hW : VR W A n p) => valid_c A n cp p W (by omega) hW)
              have H4 := Lib.hid (fun W (hW : VR W A n p) => rvalid4_c A n cp p W (by omega) hW)
              generalize Det.vErr p = E at H1 H2 H3 H4
              generalize Det.encR p = L at H1 H2 hL720 hLr
              obtain ⟨m, hm⟩ : ∃ m, L.length = m := ⟨_, rfl⟩
              rw [hm] at H1 H2 hL720
              clear hm a1 a2 hpl
              go_wp2_with fail
              refine (H1.out _ hVR).mono ?_
              rintro e w4 ⟨v4, rfl, own4, hb4⟩
              have hVR4 := hVR.below hb4
              have hm4 := hm3.below hb4
              have hb4a := below_step hb3 hb4
              obtain ⟨A4, c4, rfl, _, _⟩ := own_form own4
              clear hVR hm3 hb3
              go_wp2_with fail
              refine (H2.out _ hVR4).mono ?_
              rintro e w5 ⟨v5, rfl, own5, hb5⟩
              have hVR5 := hVR4.below hb5
              have own4b := own_below own4 hb5
              have own5b := own_more own5 hb4a.size
              have hm5 := hm4.below hb5
              have hb5a := below_step hb4a hb5
              clear hVR4 hm4 hb4a own4 own5 hb4 hb5
              go_wp2_with fail
              refine (H3.out _ hVR5).mono ?_
              rintro e w6 ⟨rfl, hb6⟩
              go_wp2_with fail
              refine (H4.out _ (hVR5.below hb6)).mono ?_
              rintro e w7 ⟨rfl, hb7⟩
              obtain ⟨A5, c5, rfl, d5, d5'⟩ := own_form own5b
              have own4c := own_below (own_below own4b hb6) hb7
              have own5c := own_below (own_below own5b hb6) hb7
              have hm7 := (hm5.below hb6).below hb7
              have hb7a := below_step (below_step hb5a hb6) hb7
              clear own4b own5b hm5 hb5a hb6 hb7 hVR5 H1 H2 H3 H4
              go_wp2_with fail
              refine (bytes_eq _ _ _ _ _ _ L _ (by simp only [maxLen]; omega) (own_IR own4c) (own_IR own5c)).mono ?_
              rintro e w8 ⟨rfl, hb8⟩
              have hJ8 : DxJ w (.slice A5 m c5) m L c3 w8 := ⟨hm7.below hb8, own_below own5c hb8, below_step hb7a hb8⟩
              clear own4c own5c hm7 hb7a hb8
              go_wp2_with fail
              have hc3' : c3 ≤ c + 210 := by omega
              clear hc3
              go_loopw [15] (fun v wr => DxL w (.slice A5 m c5) m L c3 v wr) (fun v _ => 3 - (intOf v).toNat)
              case atStart => exact (show DxL _ _ _ _ _ _ _ from ⟨0, c3, rfl, by omega, by omega, hJ8⟩)
              case round =>
                obtain ⟨j, c4, rfl, hj, hc4, hJ⟩ := hrel
                clear hJ8
                by_cases hj3 : j < 3
                · have hle := hJ.bel.size
                  go_wp2_with (first
                    | (at_builtin
                       go_must (
                       refine wpList_cat sl_u8 rfl (.tmp 108) (.tmp 109) rfl w.heap.size _ 0 [] rfl (World.ownsRow_lit wr #[] 0 hle (by simp [maxLen]) rfl) _ A5 m c5 _ rfl (Reads.of_own (hJ.own.alloc _)) (one_ints _ _) (by simp only [maxLen]; omega) (by omega) (by simp; omega) ?_
                       intro vz w9 own9 hgr9
                       have hJ9 : DxJ w (.slice A5 m c5) m L c4 w9 := ⟨(hJ.maker.alloc _).grown hgr9.grown (fun e => by have h1 := hJ.maker.lt; have h2 : wr.heap.size = w.heap.size := Option.some.inj e; omega) (fun b hb => by cases hb; exact hle), hgr9.keep (hJ.own.alloc _) (apart_new hJ.own _ _), (hJ.bel.alloc hle _).trans (hgr9.below (own_ge (World.ownsRow_lit (e := 5) (size := 1) wr #[] 0 hle (by simp [maxLen]) rfl)) (by simp; omega))⟩
                       have hap9 := hgr9.apart_l (hJ.own.alloc _) (apart_new hJ.own _ _)
                       clear hJ hgr9)))
                  have own9b : w9.ownsRow w.heap.size 5 1 vz m (L.map (Value.int .u8)) := by simpa using own9
                  clear own9
                  obtain ⟨Az, cz, rfl, z1, z2⟩ := own_form own9b
                  go_wp2_with fail
                  refine (next_c w.heap.size w.heap.size c4 4 w9 hJ9.maker (by omega) (by omega) (by omega)).mono ?_
                  rintro e w10 ⟨n0, hn0, hn1, rfl, hm10, hg10⟩
                  obtain ⟨n1, rfl⟩ := Int.eq_ofNat_of_zero_le hn0
                  have own10 := own9b.kept hg10 (.inr (hJ9.maker.ne own9b (by decide)))
                  have hJ10 := hJ9.call hm10 hg10
                  clear hJ9 own9b hm10 hg10 hn0
                  go_wp2_with fail
                  go_loopw [17] (fun v wr => DxN w (.slice A5 m c5) m L (c4 + 10) (.slice Az m cz) v wr) (fun v _ => (intOf v).toNat)
                  case atStart => exact (show DxN _ _ _ _ _ _ _ _ from ⟨n1, c4 + 1, L, rfl, by omega, by omega, hJ10, own10, hLr⟩)
                  case round =>
                    obtain ⟨k, c6, B, rfl, hk, hc6, hJ, own, hBr⟩ := hrel
                    clear hJ10 own10
                    by_cases hgo : 0 < k ∧ 1 < m
                    · obtain ⟨hk0, hm1⟩ := hgo
                      have hd1 : decide (0 < (k : Int)) = true := by simp; omega
                      have hd1' : decide (0 < k) = true := by simp; omega
                      have hd2 : decide (1 < (m : Int)) = true := by simp; omega
                      have hd2' : decide (1 < m) = true := by simp; omega
                      obtain ⟨gz, cz', hAe, hgz, _⟩ := own.form (by omega)
                      obtain ⟨rfl, _, rfl⟩ : Az = some ⟨gz, 0, none⟩ ∧ m = m ∧ cz = cz' := by simpa using hAe
                      clear hAe
                      go_wp2_with fail
                      refine (next_c w.heap.size w.heap.size c6 ((m : Int) / 2) wr hJ.maker (by omega) (by omega) (by omega)).mono ?_
                      rintro e w11 ⟨q0, hq0, hq1, rfl, hm11, hg11⟩
                      obtain ⟨q, rfl⟩ := Int.eq_ofNat_of_zero_le hq0
                      have own11 := own.kept hg11 (.inr (hJ.maker.ne own (by decide)))
                      have hJ11 := hJ.call hm11 hg11
                      clear hJ own hm11 hg11 hq0
                      go_wp2_with fail
                      refine (next_c w.heap.size w.heap.size (c6 + 1) 16 w11 hJ11.maker (by omega) (by omega) (by omega)).mono ?_
                      rintro e w12 ⟨r0, hr0, hr1, rfl, hm12, hg12⟩
                      obtain ⟨r, rfl⟩ := Int.eq_ofNat_of_zero_le hr0
                      have own12 := own11.kept hg12 (.inr (hJ11.maker.ne own11 (by decide)))
                      have hJ12 := hJ11.call hm12 hg12
                      clear hJ11 own11 hm12 hg12 hr0
                      go_wp2_with fail
                      refine (flip_c w.heap.size gz m cz q r B w12 (by simp only [maxLen]; omega) own12 hBr (by omega) (by omega)).mono ?_
                      rintro e w13 ⟨rfl, own13, hg13⟩
                      have hne := hJ12.maker.ne own12 (by decide)
                      have hJ13 := hJ12.grown hg13 (fun e => hne (by rw [← e]; rfl)) (fun b hb => by cases hb; exact hgz) hap9
                      clear hJ12 own12 hg13 hne
                      go_wp2_with fail
                      go_roundw
                      case rel => exact (show DxN _ _ _ _ _ _ _ _ from ⟨k - 1, _, _, vint (by omega), by omega, by omega, hJ13, own13, Ham.flipB_range _ _ _ hBr⟩)
                      case measure => simp [intOf]; omega
                    · have hex : decide (0 < (k : Int)) = false ∧ decide (0 < k) = false ∨ decide (0 < (k : Int)) = true ∧ decide (0 < k) = true ∧ decide (1 < (m : Int)) = false ∧ decide (1 < m) = false := by
                        simp only [decide_eq_false_iff_not, decide_eq_true_eq]
                        omega
                      have hc6' : c6 ≤ c4 + 10 := by omega
                      clear hgo hc6
                      have hc6 := hc6'
                      clear hc6'
                      rcases hex with ⟨x1, x2⟩ | ⟨x1, x2, x3, x4⟩
                      all_goals
                        by_cases hj2 : j = 2
                        · have e2 : ((j : Int) == 2) = true := by simp; omega
                          have e1 : ((j : Int) == 1) = false := by simp; omega
                          clear hj2
                          go_wp2_with fail
                          refine (spoilb_c w.heap.size w.heap.size w.heap.size c6 m _ B wr hJ.maker (by omega) own (by omega)).mono ?_
                          rintro e w13 ⟨A', n', cp', l', c7, rfl, hIR, hr', hn', hc7, hm7, hg7⟩
                          have hJ13 := hJ.call hm7 hg7
                          clear hJ own hm7 hg7
                          go_wp2_with fail
                          refine (reads_c A' n' cp' l' _ (by simp only [maxLen]; omega) hIR hr').mono ?_
                          rintro e w14 ⟨rfl, hb14⟩
                          have hJ14 := hJ13.below hb14
                          go_wp2_with fail
                          go_roundw
                          case rel => exact (show DxL _ _ _ _ _ _ _ from ⟨j + 1, c7, by go_num, by omega, by omega, hJ14⟩)
                          case measure => simp [intOf]; omega
                        · have e2 : ((j : Int) == 2) = false := by simp; omega
                          by_cases hj1 : j = 1
                          · have e1 : ((j : Int) == 1) = true := by simp; omega
                            clear hj1
                            by_cases hm2 : 2 ≤ m
                            · have g2 : decide (2 ≤ (m : Int)) = true := by simp; omega
                              have g2' : decide (2 ≤ m) = true := by simp; omega
                              go_wp2_with fail
                              refine (next_c w.heap.size w.heap.size c6 ((m : Int) / 2) wr hJ.maker (by omega) (by omega) (by omega)).mono ?_
                              rintro e w13 ⟨q0, hq0, hq1, rfl, hm13, hg13⟩
                              obtain ⟨q, rfl⟩ := Int.eq_ofNat_of_zero_le hq0
                              have own13 := own.kept hg13 (.inr (hJ.maker.ne own (by decide)))
                              have hJ13 := hJ.call hm13 hg13
                              obtain ⟨k1, hk1⟩ : ∃ k1, 2 * q = k1 := ⟨_, rfl⟩
                              have hk1i : 2 * (q : Int) = (k1 : Int) := by omega
                              have hk1n : k1 + 2 ≤ m := by omega
                              clear hJ own hm13 hg13 hq0
                              go_wp2_with fail
                              have hk2w : IntKind.i64.wrap ((k1 : Int) + 2) = ((k1 + 2 : Nat) : Int) := by rw [IntWalk.i64_in _ ⟨by omega, by omega⟩]; omega
                              have hk2i : (k1 : Int) + 2 = ((k1 + 2 : Nat) : Int) := by omega
                              obtain ⟨k2, hk2⟩ : ∃ k2, k1 + 2 = k2 := ⟨_, rfl⟩
                              rw [hk2] at hk2w hk2i
                              have hcut := Reads.cut (Reads.of_own (own_drew own13)) (k := k2) (by omega) z1
                              have htake := Reads.take (Reads.of_own (own_drew own13)) (g := k1) (by omega)
                              obtain ⟨A6, hA6⟩ : ∃ A6, (if cz = k2 then Az else Az.map (·.add (k2 * 1))) = A6 := ⟨_, rfl⟩
                              rw [hA6] at hcut
                              rw [Nat.mul_one, ← List.map_drop] at hcut
                              rw [Nat.mul_one, ← List.map_take] at htake
                              rw [Nat.mul_one] at hA6
                              have hJd := hJ13.drew
                              have hk2v : IntKind.i64.wrap (k2 : Int) = (k2 : Int) := IntWalk.i64_in _ ⟨by omega, by omega⟩
                              have k1c : (k1 : Int) ≤ (cz : Int) := by omega
                              have k1c' : k1 ≤ cz := by omega
                              have k2c : (k2 : Int) ≤ (m : Int) := by omega
                              have k2c' : k2 ≤ m := by omega
                              have mcz : (m : Int) ≤ (cz : Int) := by omega
                              have hrr : ∀ x ∈ B.take k1 ++ B.drop k2, 0 ≤ x ∧ x < 256 := by
                                intro x hx
                                rcases List.mem_append.1 hx with hx | hx
                                · exact hBr x (List.mem_of_mem_take hx)
                                · exact hBr x (List.mem_of_mem_drop hx)
                              have Hrr := Lib.hid hrr
                              clear hJ13 own13 hrr hk2
                              go_region_law (refine step_append_cut sl_u8 rfl (.tmp 152) (.tmp 156) rfl Az A6 k1 (m - k2) (cz - k2) _ _ (by simp [Act.eval, Act.put]) htake (by simp [Act.eval, Act.put]) hcut (one_ints _ _) (by simp only [maxLen]; omega) (by omega) ?_
                                             intro A' cap' w14 hR14 hg14
                                             have hJ14 := hJd.grown hg14 (by simp) (by simp) (by simp [Value.ownBlock]; cases A5 <;> simp)
                                             rw [← List.map_append] at hR14)
                              clear hcut htake hJd hA6
                              go_wp2_with fail
                              refine (reads_c A' (k1 + (m - k2)) cap' _ _ (by simp only [maxLen]; omega) hR14 Hrr.out).mono ?_
                              rintro e w15 ⟨rfl, hb15⟩
                              have hJ15 := hJ14.below hb15
                              go_wp2_with fail
                              go_roundw
                              case rel => exact (show DxL _ _ _ _ _ _ _ from ⟨j + 1, _, by go_num, by omega, by omega, hJ15⟩)
                              case measure => simp [intOf]; omega
                            · have g2 : decide (2 ≤ (m : Int)) = false := by simp; omega
                              have g2' : decide (2 ≤ m) = false := by simp; omega
                              go_wp2_with fail
                              refine (reads_c Az m cz B _ (by simp only [maxLen]; omega) (own_IR own) hBr).mono ?_
                              rintro e w14 ⟨rfl, hb14⟩
                              have hJ13 := hJ
                              obtain ⟨c7, hc7⟩ : ∃ c7, c6 = c7 := ⟨_, rfl⟩
                              rw [hc7] at hJ13 hc6
                              clear hc7
                              have hJ14 := hJ13.below hb14
                              go_wp2_with fail
                              go_roundw
                              case rel => exact (show DxL _ _ _ _ _ _ _ from ⟨j + 1, c7, by go_num, by omega, by omega, hJ14⟩)
                              case measure => simp [intOf]; omega
                          · have e1 : ((j : Int) == 1) = false := by simp; omega
                            go_wp2_with fail
                            refine (reads_c Az m cz B _ (by simp only [maxLen]; omega) (own_IR own) hBr).mono ?_
                            rintro e w14 ⟨rfl, hb14⟩
                            have hJ13 := hJ
                            obtain ⟨c7, hc7⟩ : ∃ c7, c6 = c7 := ⟨_, rfl⟩
                            rw [hc7] at hJ13 hc6
                            clear hc7
                            have hJ14 := hJ13.below hb14
                            go_wp2_with fail
                            go_roundw
                            case rel => exact (show DxL _ _ _ _ _ _ _ from ⟨j + 1, c7, by go_num, by omega, by omega, hJ14⟩)
                            case measure => simp [intOf]; omega
                · go_wp2_with fail
                  go_roundw
                  case rel => exact (show DxO _ _ _ from ⟨i + 1, c4, by omega, by go_num, by omega, hJ.maker, hJ.bel⟩)
                  case measure => simp [intOf]; omega
    · unfold maxLen at m2
      by_cases h200 : 200 < len2
      · have d1 : decide (200 < (len2 : Int)) = true := by simp; omega
        have d1' : decide (200 < len2) = true := by simp; omega
        go_wp2_with fail
        go_ret
        exact ⟨rfl, hbr⟩
      · have d1 : decide (200 < (len2 : Int)) = false := by simp; omega
        have d1' : decide (200 < len2) = false := by simp; omega
        go_wp2_with fail
        refine (reads_c _ _ _ l2 _ (by simp only [maxLen]; omega) (r2.below hbr) (u8_range' q2)).mono ?_
        rintro e w8 ⟨rfl, hb8⟩
        go_wp2_with fail
        refine (sane04_c _).mono ?_
        rintro e w9 ⟨rfl, hb9⟩
        go_wp2_with fail
        go_ret
        exact ⟨rfl, below_step (below_step hbr hb8) hb9⟩
end Go.Proofs.Ytjlfdkkaljlmjaa
