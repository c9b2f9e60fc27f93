/- The walk of plant's Valid. -/
import Derived.Test.YtkkpkekkaoccbaaDoorPlMap
namespace Go.Proofs.YtkkpkekkaoccbaaDoor
open Go.RowKit Go.Maps
theorem drop_cons6 {l : List PE} {k : Nat} {p : PE} (h : l[k]? = some p) : l.drop k = p :: l.drop (k + 1) := by
  obtain ⟨hk, rfl⟩ := List.getElem?_eq_some_iff.1 h
  exact List.drop_eq_getElem_cons hk
theorem take_snoc6 {l : List PE} {k : Nat} {p : PE} (h : l[k]? = some p) : l.take (k + 1) = l.take k ++ [p] := by
  rw [List.take_add_one, h]; rfl
theorem sound_parts {x : PE} (h : Pl.sound x = true) : Pl.ends x ≠ [] ∧ Pl.nameOk x.nm = true ∧ Pl.nodes (Pl.ends x) [] = true := by
  simp only [Pl.sound, Bool.and_eq_true, Bool.not_eq_true', List.isEmpty_eq_false_iff] at h
  exact ⟨h.1.1.1, h.1.1.2, h.1.2⟩
theorem nameOk_le {s : ByteArray} (h : Pl.nameOk s = true) : 1 ≤ s.size ∧ s.size ≤ 12 := by
  simp only [Pl.nameOk, Bool.and_eq_true, decide_eq_true_eq] at h
  exact h.1
theorem named_new (l : List PE) (x : PE) : Pl.named (l ++ [x]) x.nm = true := by rw [Pl.named_snoc]; simp
theorem named_old (l : List PE) (x : PE) (s : ByteArray) (h : s ≠ x.nm) : Pl.named (l ++ [x]) s = Pl.named l s := by rw [Pl.named_snoc]; simp [show ¬ x.nm = s from fun e => h e.symm]
theorem uses_le (l : List PE) (n : Int) : Pl.uses l n ≤ 3 * l.length := by
  refine Nat.le_trans List.count_le_length ?_
  induction l with
  | nil => simp
  | cons x r ih =>
    rw [List.flatMap_cons, List.length_append, List.length_cons]
    have := Pl.ends_len x
    omega
theorem vGo_bad1 {l : List PE} {t : Nat} {x : PE} (hp : l[t]? = some x) (h : Pl.sound x = false) : Pl.vGo (l.drop t) (l.take t) = 1 := by
  rw [drop_cons6 hp, Pl.vGo_cons, if_pos h]
theorem vGo_bad8 {l : List PE} {t : Nat} {x : PE} (hp : l[t]? = some x) (h : Pl.sound x = true) (h2 : Pl.named (l.take t) x.nm = true) : Pl.vGo (l.drop t) (l.take t) = 8 := by
  rw [drop_cons6 hp, Pl.vGo_cons, if_neg (by rw [h]; decide), if_pos h2]
theorem vGo_bad17 {l : List PE} {t : Nat} {x : PE} (hp : l[t]? = some x) (h : Pl.sound x = true) (h2 : Pl.named (l.take t) x.nm = false) {y : Int} (hy : y ∈ Pl.ends x) (hu : Pl.uses (l.take t) y = 2) : Pl.vGo (l.drop t) (l.take t) = 17 := by
  rw [drop_cons6 hp, Pl.vGo_cons, if_neg (by rw [h]; decide), if_neg (by rw [h2]; decide), if_pos (List.any_eq_true.2 ⟨y, hy, decide_eq_true hu⟩)]
theorem vGo_good {l : List PE} {t : Nat} {x : PE} (hp : l[t]? = some x) (h : Pl.sound x = true) (h2 : Pl.named (l.take t) x.nm = false) (hu : ∀ y ∈ Pl.ends x, Pl.uses (l.take t) y ≠ 2) : Pl.vGo (l.drop t) (l.take t) = Pl.vGo (l.drop (t + 1)) (l.take (t + 1)) := by
  rw [drop_cons6 hp, Pl.vGo_cons, if_neg (by rw [h]; decide), if_neg (by rw [h2]; decide), if_neg, take_snoc6 hp]
  rw [List.any_eq_true]
  rintro ⟨y, hy, hd⟩
  exact hu y hy (of_decide_eq_true hd)
theorem count_take_zero {E : List Int} (hE : E.Nodup) {j : Nat} {y : Int} (hy : E[j]? = some y) : (E.take j).count y = 0 := by
  refine List.count_eq_zero.2 fun hm => ?_
  obtain ⟨i, hi, he⟩ := List.getElem_of_mem hm
  have hij : i < j := by simp at hi; omega
  obtain ⟨hj, hj2⟩ := List.getElem?_eq_some_iff.1 hy
  rw [List.getElem_take] at he
  have := (List.getElem_inj (h₀ := by omega) (h₁ := hj) hE).1 (he.trans hj2.symm)
  omega
theorem count_new {E : List Int} {j : Nat} {y q : Int} {f : Int → Int} (hy : E[j]? = some y) (hq : f y + ((E.take j).count y : Int) = q) : f y + ((E.take (j + 1)).count y : Int) = q + 1 := by
  rw [List.take_add_one, hy]
  simp only [Option.toList_some, List.count_append, List.count_cons, List.count_nil, beq_self_eq_true, if_true]
  omega
theorem count_old {E : List Int} {j : Nat} {y v : Int} {f : Int → Int} (hy : E[j]? = some y) (h : v ≠ y) : f v + ((E.take (j + 1)).count v : Int) = f v + ((E.take j).count v : Int) := by
  rw [List.take_add_one, hy]
  simp [show ¬ y = v from fun e => h e.symm]
def VldR (w : World) (n : Nat) (l : List PE) (v : Value) (wr : World) : Prop := ∃ t m : Nat, t ≤ n ∧ v = .int .i64 t ∧ Pl.vErr l = Pl.vGo (l.drop t) (l.take t) ∧ MapB keyS 4 wr w.heap.size t (fun s => Pl.named (l.take t) s) ∧ m ≤ 3 * t ∧ MapI keyN 3 wr (w.heap.size + 1) m (fun v => (Pl.uses (l.take t) v : Int)) ∧ Below w.heap.size w wr ∧ w.heap.size + 2 ≤ wr.heap.size
def VldI (w : World) (l : List PE) (t m0 : Nat) (E : List Int) (m : Nat) (g : Nat) (v : Value) (wr : World) : Prop := ∃ j : Nat, j ≤ m ∧ v = .int .i64 j ∧ (∀ y ∈ E.take j, Pl.uses (l.take t) y ≠ 2) ∧ MapB keyS 4 wr w.heap.size (t + 1) (fun s => Pl.named (l.take (t + 1)) s) ∧ MapI keyN 3 wr (w.heap.size + 1) (m0 + j) (fun v => (Pl.uses (l.take t) v : Int) + ((E.take j).count v : Int)) ∧ Below w.heap.size w wr ∧ w.heap.size + 2 ≤ wr.heap.size ∧ (∀ i u, ((E.map (Value.int .i64)))[i]? = some u → wr.cell? ⟨g, i, none⟩ = some u)
set_option maxRecDepth 100000 in
set_option maxHeartbeats 4000000 in
theorem valid_c (A : Option Addr) (n c : Nat) (l : List PE) (w : World) (hn : n ≤ maxLen) (h : PR6 w A n l) (hs : ∀ x ∈ l, x.nm.size ≤ maxLen) :
    Calls Tryd.prog 17 #[.slice A n c] w fun e w' => e = .returned (.int .i64 (Pl.vErr l)) ∧ Below w.heap.size w w' := by
  have hl := h.len
  unfold maxLen at hn
  by_cases hbig : 96 < n
  · have Hr := Lib.hid (show Pl.vErr l = 3 by rw [Pl.vErr, if_pos (by omega)])
    go_enter Tryd.func17, Tryd.ntmps17
    go_wp2_with fail
    go_ret
    exact ⟨retv Hr.out.symm, Below.refl _ _⟩
  · have hr : Pl.vErr l = Pl.vGo l [] := by rw [Pl.vErr, if_neg (by omega)]
    have Hr := Lib.hid hr
    have Hh := Lib.hid h
    have hmk := @run_makeMap Tryd.prog
    clear hr h
    go_enter Tryd.func17, Tryd.ntmps17
    go_wp2_with fail
    go_loopw [16] (fun p wr => VldR w n l p wr) (fun p _ => n - (intOf p).toNat)
    case atStart => exact (show VldR _ _ _ _ _ from ⟨0, 0, by omega, rfl, Hr.out, (MapB.made w).alloc _, by omega, by simpa [Pl.uses] using (MapI.made (k := keyN) (E := 3) (w.alloc (.map #[] 0))), ((Below.refl _ _).alloc (Nat.le_refl _) _).alloc (by simp) _, by simp⟩)
    case round =>
      obtain ⟨t, m0, ht, rfl, hgo, hMB, hm0, hMI, hbr, hsz⟩ := hrel
      have Hgo := Lib.hid hgo
      clear hgo
      by_cases hlt : t < n
      · obtain ⟨ad, ⟨pk, nm, pa, pb, pc, pl⟩, hAe, hba, hp, c0, c1, c2, c3, c4, c5⟩ := (Hh.out.below hbr).at_ hlt
        subst hAe
        simp only at c0 c1 c2 c3 c4 c5
        have hnm := hs _ (List.mem_of_getElem? hp)
        simp only at hnm
        have hSx := fun W => sound_c pk pa pb pc pl nm W hnm
        have hEx := fun W => ends_c pk pa pb pc pl nm W
        obtain ⟨x, hx⟩ : ∃ x : PE, x = ⟨pk, nm, pa, pb, pc, pl⟩ := ⟨_, rfl⟩
        have hxn : x.nm = nm := by rw [hx]
        rw [← hx] at hSx hEx hp
        have HS := Lib.hid hSx
        have HE := Lib.hid hEx
        have Hp := Lib.hid hp
        have Hxn := Lib.hid hxn
        clear hp hSx hEx hx hxn
        go_wp2_with fail
        refine (HS.out _).mono ?_
        rintro e w1 ⟨rfl, hb1⟩
        have hB1 := (Blk.new wr 40 #[.int .i64 pk, .string nm, .int .i64 pa, .int .i64 pb, .int .i64 pc, .int .i64 pl]).below hb1 (by simp)
        have hMB1 := (hMB.alloc (.cells #[.int .i64 pk, .string nm, .int .i64 pa, .int .i64 pb, .int .i64 pc, .int .i64 pl] 40)).below hb1
        have hMI1 := (hMI.alloc (.cells #[.int .i64 pk, .string nm, .int .i64 pa, .int .i64 pb, .int .i64 pc, .int .i64 pl] 40)).below hb1
        have hbr1 := below_step (hbr.alloc hbr.size (.cells #[.int .i64 pk, .string nm, .int .i64 pa, .int .i64 pb, .int .i64 pc, .int .i64 pl] 40)) hb1
        have hsz1 : wr.heap.size + 1 ≤ w1.heap.size := by have := hb1.size; simpa using this
        clear hMB hMI hbr hb1 c0 c1 c2 c3 c4 c5
        by_cases hso : Pl.sound x = true
        · have x0 : w1.cell? ⟨wr.heap.size, 0, none⟩ = some (.int .i64 pk) := hB1.cell 0
          have x1 : w1.cell? ⟨wr.heap.size, 1, none⟩ = some (.string nm) := hB1.cell 1
          obtain ⟨s1, s2, s3⟩ := sound_parts hso
          have s4 := nameOk_le s2
          rw [Hxn.out] at s4
          have S1 := Lib.hid s1
          have S3 := Lib.hid ((Pl.nodes_iff _ _).1 s3)
          have Hso := Lib.hid hso
          have hok : (keyS).ok nm := hnm
          clear s1 s2 s3
          by_cases hbn : Pl.named (l.take t) nm = true
          · have HbX : Hid (Pl.named (l.take t) x.nm = true) := Lib.hid (by rw [Hxn.out]; exact hbn)
            have Hbn := Lib.hid hbn
            have Hf := Lib.hid (Hgo.out.trans (vGo_bad8 Hp.out hso HbX.out))
            clear hbn
            go_wp2_with (at_lookup; refine wpList_mapB_look msb_under bool_under' (zbool _) rfl (.tmp 23) (.tmp 25) rfl rfl hMB1 nm rfl hok ?_; simp only [Hbn.out])
            go_ret
            exact ⟨retv Hf.out.symm, hbr1⟩
          · have hbf : Pl.named (l.take t) nm = false := by simpa using hbn
            have HbX : Hid (Pl.named (l.take t) x.nm = false) := Lib.hid (by rw [Hxn.out]; exact hbf)
            have Hbn := Lib.hid hbf
            clear hbn hbf
            have hts : t < maxLen := by unfold maxLen; omega
            go_wp2_with (first
              | (at_lookup; refine wpList_mapB_look msb_under bool_under' (zbool _) rfl (.tmp 23) (.tmp 25) rfl rfl hMB1 nm rfl hok ?_; simp only [Hbn.out])
              | (at_mapUpdate
                 go_must (
                 refine wpList_mapB_put msb_under bool_under' rfl (.tmp 27) (.tmp 29) (.const (.bool true)) rfl rfl hMB1 hts nm true rfl rfl hok (fun s => Pl.named (l.take t ++ [x]) s) (by rw [← Hxn.out]; exact named_new _ _) (fun s' h => named_old _ _ _ (by rw [Hxn.out]; exact h)) ?_
                 intro w2 hMB2 hg2
                 have hMB2' : MapB keyS 4 w2 w.heap.size (t + 1) (fun s => Pl.named (l.take (t + 1)) s) := by
                   rw [take_snoc6 Hp.out]
                   exact hMB2
                 have hMI2 := hMI1.kept hg2 (by simp)
                 have hB2 := hB1.grown hg2 (by simp; omega)
                 have hbr2 : Below w.heap.size w w2 := hbr1.trans ((Below.refl _ _).grown hg2 hbr1.size (fun b hb => by cases hb; exact Nat.le_refl _))
                 have hsz2 := hg2.size
                 have y0 : w2.cell? ⟨wr.heap.size, 0, none⟩ = some (.int .i64 pk) := hB2.cell 0
                 have y1 : w2.cell? ⟨wr.heap.size, 1, none⟩ = some (.string nm) := hB2.cell 1
                 have y2 : w2.cell? ⟨wr.heap.size, 2, none⟩ = some (.int .i64 pa) := hB2.cell 2
                 have y3 : w2.cell? ⟨wr.heap.size, 3, none⟩ = some (.int .i64 pb) := hB2.cell 3
                 have y4 : w2.cell? ⟨wr.heap.size, 4, none⟩ = some (.int .i64 pc) := hB2.cell 4
                 have y5 : w2.cell? ⟨wr.heap.size, 5, none⟩ = some (.int .i64 pl) := hB2.cell 5
                 clear hMB1 hMI1 hB1 hMB2 x0 x1 hbr1 hg2)))
            refine (HE.out _).mono ?_
            rintro e w3 ⟨v3, rfl, own3, hnil, hb3⟩
            obtain ⟨E, hE⟩ : ∃ E, Pl.ends x = E := ⟨_, rfl⟩
            rw [hE] at own3
            have HEe := Lib.hid hE
            have S3' := S3.out
            rw [hE] at S3'
            obtain ⟨hEr, hEn⟩ := S3'
            have HEr := Lib.hid hEr
            have HEn := Lib.hid hEn
            have hE3 := Pl.ends_len x
            rw [hE] at hE3
            have hne : 0 < E.length := by
              rcases Nat.eq_zero_or_pos E.length with h | h
              · exact absurd (hE.trans (List.eq_nil_of_length_eq_zero h)) S1.out
              · exact h
            obtain ⟨m, hm⟩ : ∃ m, E.length = m := ⟨_, rfl⟩
            rw [hm] at own3 hE3 hne
            have Hm := Lib.hid hm
            obtain ⟨g, cap, rfl, hg3, hg3'⟩ := own3.form hne
            have hMB3 := hMB2'.below hb3
            have hMI3 := hMI2.below hb3
            have hbr3 := below_step hbr2 hb3
            have hrow : ∀ i u, ((E.map (Value.int .i64)))[i]? = some u → w3.cell? ⟨g, i, none⟩ = some u := fun i u hu => by
              have hi := (List.getElem?_eq_some_iff.1 hu).1
              rw [own3.cellAt i (by rw [List.length_map, hm] at hi; omega)]
              exact hu
            have hsz3 : w.heap.size + 2 ≤ w3.heap.size := by have := hb3.size; omega
            have hgm : w.heap.size + 2 ≤ g := by omega
            have hrow0 := Lib.hid hrow
            clear hE hnil hEr hEn hm own3 hMB2' hMI2 hB2 y0 y1 y2 y3 y4 y5 hbr2 hb3 S1 S3 hrow
            go_wp2_with fail
            go_loopw [33] (fun p wr => VldI w l t m0 E m g p wr) (fun p _ => m - (intOf p).toNat)
            case atStart => exact (show VldI _ _ _ _ _ _ _ _ _ from ⟨0, by omega, rfl, by simp, hMB3, by simpa using hMI3, hbr3, hsz3, hrow0.out⟩)
            case round =>
              obtain ⟨j, hj, rfl, hu, hMBi, hMIi, hbri, hszi, hrowi⟩ := hrel
              have Hu := Lib.hid hu
              clear hu
              by_cases hjm : j < m
              · obtain ⟨y, hy⟩ : ∃ y, E[j]? = some y := ⟨_, List.getElem?_eq_getElem (by rw [Hm.out]; exact hjm)⟩
                have hcy := hrowi j (.int .i64 y) (by rw [List.getElem?_map, hy]; rfl)
                have hyr := HEr.out y (List.mem_of_getElem? hy)
                have hyw : (keyN).ok y := WalkArith.wf_i64 (by omega)
                have Hrowi := Lib.hid hrowi
                obtain ⟨q, hq⟩ : ∃ q, Pl.uses (l.take t) y = q := ⟨_, rfl⟩
                have hq3 := uses_le (l.take t) y
                rw [hq, List.length_take] at hq3
                have hqq : (Pl.uses (l.take t) y : Int) + ((E.take j).count y : Int) = (q : Int) := by rw [hq, count_take_zero HEn.out hy]; simp
                have Hqq := Lib.hid hqq
                have Hy := Lib.hid hy
                have Hq := Lib.hid hq
                clear hy hq hqq hrowi
                by_cases hq2 : q = 2
                · have dq : ((q : Int) == 2) = true := by simp; omega
                  have Hf := Lib.hid (Hgo.out.trans (vGo_bad17 Hp.out Hso.out HbX.out (y := y) (by rw [HEe.out]; exact List.mem_of_getElem? Hy.out) (by rw [Hq.out, hq2])))
                  clear hq2
                  go_wp2_with (at_lookup; refine wpList_mapI_look mii_under int_under' (zint _) rfl (.tmp 37) (.tmp 38) rfl rfl hMIi y rfl hyw ?_; simp only [Hqq.out])
                  go_ret
                  exact ⟨retv Hf.out.symm, hbri⟩
                · have dq : ((q : Int) == 2) = false := by simp; omega
                  have hwf : (Lit.int .i64 ((q : Int) + 1)).wf = true := WalkArith.wf_i64 (by omega)
                  have hmj : m0 + j < maxLen := by unfold maxLen; omega
                  have Hc1 := Lib.hid (fun (f : Int → Int) (h : f y + ((E.take j).count y : Int) = q) => count_new Hy.out h)
                  go_wp2_with (first
                    | (at_lookup; refine wpList_mapI_look mii_under int_under' (zint _) rfl (.tmp 37) (.tmp 38) rfl rfl hMIi y rfl hyw ?_; simp only [Hqq.out])
                    | (at_lookup; refine wpList_mapI_look mii_under int_under' (zint _) rfl (.tmp 41) (.tmp 42) rfl rfl hMIi y rfl hyw ?_; simp only [Hqq.out])
                    | (at_mapUpdate
                       go_must (
                       refine wpList_mapI_put mii_under int_under' rfl (.tmp 41) (.tmp 42) (.tmp 44) rfl rfl hMIi hmj y ((q : Int) + 1) rfl rfl hyw hwf (fun v => (Pl.uses (l.take t) v : Int) + ((E.take (j + 1)).count v : Int)) (Hc1.out (fun v => (Pl.uses (l.take t) v : Int)) Hqq.out) (fun v h => count_old (f := fun v => (Pl.uses (l.take t) v : Int)) Hy.out h) ?_
                       intro w4 hMI4 hg4
                       have hMB4 := hMBi.kept hg4 (by simp)
                       have hbr4 : Below w.heap.size w w4 := hbri.trans ((Below.refl _ _).grown hg4 hbri.size (fun b hb => by cases hb; omega))
                       have hsz4 := hg4.size
                       have hrow4 : Hid (∀ i u, ((E.map (Value.int .i64)))[i]? = some u → w4.cell? ⟨g, i, none⟩ = some u) := Lib.hid (fun i u hu => hg4.cell (Hrowi.out i u hu) (by simp; omega))
                       clear hMIi hMBi hbri hg4 Hrowi)))
                  go_roundw
                  case rel =>
                    refine (show VldI _ _ _ _ _ _ _ _ _ from ⟨j + 1, by omega, by go_num, ?_, hMB4, hMI4, hbr4, by omega, hrow4.out⟩)
                    intro v hv
                    rw [List.take_add_one, Hy.out] at hv
                    rcases List.mem_append.1 hv with hv | hv
                    · exact Hu.out v hv
                    · simp at hv
                      subst hv
                      rw [Hq.out]; exact hq2
                  case measure => simp [intOf]; omega
              · obtain rfl : j = m := by omega
                have hEt : E.take j = E := List.take_of_length_le (by rw [Hm.out]; exact Nat.le_refl _)
                have Hf := Lib.hid (Hgo.out.trans (vGo_good Hp.out Hso.out HbX.out (by rw [HEe.out]; intro y hy; exact Hu.out y (by rw [hEt]; exact hy))))
                have HMI : Hid (MapI keyN 3 wr (w.heap.size + 1) (m0 + j) (fun v => (Pl.uses (l.take (t + 1)) v : Int))) := Lib.hid (by
                  have e : (fun v => (Pl.uses (l.take (t + 1)) v : Int)) = fun v => (Pl.uses (l.take t) v : Int) + ((E.take j).count v : Int) := by
                    funext v
                    rw [take_snoc6 Hp.out, Pl.uses_snoc, HEe.out, hEt]
                    omega
                  rw [e]; exact hMIi)
                clear hEt
                go_wp2_with fail
                go_roundw
                case rel => exact (show VldR _ _ _ _ _ from ⟨t + 1, m0 + j, by omega, by go_num, Hf.out, hMBi, by omega, HMI.out, hbri, hszi⟩)
                case measure => simp [intOf]; omega
        · have hsf : Pl.sound x = false := by simpa using hso
          have Hf := Lib.hid (Hgo.out.trans (vGo_bad1 Hp.out hsf))
          go_wp2_with fail
          go_ret
          exact ⟨retv Hf.out.symm, hbr1⟩
      · obtain rfl : t = n := by omega
        have Hf : Hid (Pl.vErr l = 0) := Lib.hid (by rw [Hgo.out, List.drop_of_length_le (by omega)]; rfl)
        go_wp2_with fail
        go_ret
        exact ⟨retv Hf.out.symm, hbr⟩
end Go.Proofs.YtkkpkekkaoccbaaDoor
