/- The walk of a layout's Valid. -/
import Derived.Test.YtmjdjcpmkdninaaDoorLyW3
namespace Go.Proofs.YtmjdjcpmkdninaaDoor
open Go.RowKit Go.Maps
theorem wantG {P : Program} {ops : Array Oper} {Q : Exit → Act → World → Prop} {a : Act} {w : World} {rest : List Oper} {o : Oper} (hw : Region.wanted o (yielded ops a.tmps) = true) (h : wpList P ops Q ({ o with guard := none } :: rest) a w) : wpList P ops Q (o :: rest) a w := by
  unfold wpList at h ⊢
  rw [if_pos hw]
  rw [if_pos (by rfl : Region.wanted { o with guard := none } (yielded ops a.tmps) = true)] at h
  exact h
theorem Blk.drop_alloc {w : World} {g : Nat} {t : TypeId} {cs : Array Value} (h : Blk w g t cs) (o : Obj) : Blk (w.alloc o) g t cs := h.below ((Below.refl _ _).alloc (Nat.le_refl _) o) h.lt
theorem mk_int : Tryd.prog.underlying 35 = some (.slice 3) ∧ ∃ i, Tryd.prog.info? 3 = some i ∧ i.zero = some (.int .i64 0) ∧ i.size = 1 ∧ i.bytes = 8 := by
  obtain ⟨i, h1, h2, h3, h4⟩ := info_parts (show (Tryd.prog.info? 3).map (fun i => (i.zero, i.size, i.bytes)) = some (some (.int .i64 0), 1, 8) by kernel_rfl)
  exact ⟨Tryd.underlying35, i, h1, h2, h3, h4⟩
set_option maxRecDepth 100000 in
set_option maxHeartbeats 8000000 in
theorem lvalid_c (A : Option Addr) (n c : Nat) (l : List LE) (w : World) (hn : n ≤ maxLen) (h : LR w A n l) (hs : ∀ x ∈ l, x.nm.size ≤ maxLen) (hi : ∀ x ∈ l, (Lit.int .i64 x.p).wf = true ∧ (Lit.int .i64 x.sd).wf = true) :
    Calls Tryd.prog 13 #[.slice A n c] w fun e w' => e = .returned (.int .i64 (Ly.vErr l)) ∧ Below w.heap.size w w' := by
  have hl := h.len
  unfold maxLen at hn
  by_cases hbig : 128 < n
  · have Hr := Lib.hid (show Ly.vErr l = 3 by rw [Ly.vErr, if_pos (by omega)])
    go_enter Tryd.func13, Tryd.ntmps13
    go_wp2_with fail
    go_ret
    exact ⟨retv Hr.out.symm, Below.refl _ _⟩
  by_cases hzero : n = 0
  · have Hr := Lib.hid (show Ly.vErr l = 13 by rw [Ly.vErr, if_neg (by omega), if_pos (List.eq_nil_of_length_eq_zero (by omega))])
    subst hzero
    go_enter Tryd.func13, Tryd.ntmps13
    go_wp2_with fail
    go_ret
    exact ⟨retv Hr.out.symm, Below.refl _ _⟩
  have hne : l ≠ [] := List.ne_nil_of_length_pos (by omega)
  have Hr := Lib.hid (show Ly.vErr l = if Ly.vGo l [] ≠ 0 then Ly.vGo l [] else if Ly.lacks l l 0 = true then 13 else if 32 < Ly.tracks l then 3 else 0 by rw [Ly.vErr, if_neg (by omega), if_neg hne])
  have dz : ((n : Int) == 0) = false := by simp; omega
  have hn1 : 1 ≤ n := by omega
  have Hh := Lib.hid h
  have Hi := Lib.hid hi
  have hmk := @run_makeMap Tryd.prog
  clear h hne hzero hi
  go_enter Tryd.func13, Tryd.ntmps13
  go_wp2_with (at_make; refine wpList_mkn mk_int rfl rfl _ _ rfl (w.heap.size + 2) _ _ _ _ n rfl rfl rfl rfl (by omega) (by simp only [maxLen]; omega) (by simp) ?_; intro w1 own1 hb1)
  have hsz1 : ((w.alloc (.map #[] 0)).alloc (.map #[] 0)).heap.size = w.heap.size + 2 := by simp
  rw [hsz1] at own1 hb1
  have hMB : MapB keyS 4 w1 w.heap.size 0 (fun s => Ly.named (l.take 0) s) := by
    have := ((MapB.made (k := keyS) (E := 4) w).alloc (.map #[] 0)).kept (below_grown (by rw [hsz1]; exact hb1) none) (by simp)
    simpa [Ly.named] using this
  have hMP : MapB keyP 4 w1 (w.heap.size + 1) 0 (fun q => Ly.taken (l.take 0) q.1 q.2) := by
    have := (MapB.made (k := keyP) (E := 4) (w.alloc (.map #[] 0))).kept (below_grown (by rw [hsz1]; exact hb1) none) (by simp)
    simpa [Ly.taken] using this
  have hown : w1.ownsRow (w.heap.size + 2) 3 1 (.slice (some ⟨w.heap.size + 2, 0, none⟩) n n) n ((Ly.kidsL l 0 n).map (Value.int .i64)) := by
    rw [Ly.kidsL_zero, List.map_replicate]
    simpa using own1
  have hbr0 : Below w.heap.size w w1 := (((Below.refl _ _).alloc (Nat.le_refl _) _).alloc (by simp) _).trans (hb1.mono (by omega))
  have hsz0 : w.heap.size + 3 ≤ w1.heap.size := by
    have := own_lt own1 (w.heap.size + 2) rfl
    omega
  clear own1 hb1
  go_wp2_with fail
  go_loopw [6, 28] (fun tr p wr => LVa w n l tr p wr) (fun _ p _ => n - (intOf p).toNat)
  case atStart => exact (show LVa _ _ _ _ _ _ from ⟨0, 0, by omega, rfl, rfl, Lib.hid rfl, hMB, by omega, hMP, hown, hbr0, hsz0⟩)
  case round =>
    obtain ⟨t, m0, ht, rfl, rfl, Hgo, hMBt, hm0, hMPt, hownt, hbr, hsz⟩ := hrel
    obtain ⟨T, hT⟩ : ∃ T, Ly.tracks (l.take t) = T := ⟨_, rfl⟩
    have hTt : T ≤ t := by rw [← hT]; exact Ly.tracks_le
    have HT := Lib.hid hT
    rw [hT]
    clear hT
    by_cases hlt : t < n
    · obtain ⟨ad, ⟨xk, nm, xp, xs, xl, xg, xc, xw⟩, hAe, hba, hp, c0, c1, c2, c3, c4, c5, c6, c7⟩ := (Hh.out.below hbr).at_ hlt
      subst hAe
      simp only at c0 c1 c2 c3 c4 c5 c6 c7
      have hnm := hs _ (List.mem_of_getElem? hp)
      have hwf := Hi.out _ (List.mem_of_getElem? hp)
      simp only at hnm hwf
      have hSx := fun W => lsound_c xk nm xp xs xl xg xc xw W hnm
      obtain ⟨x, hx⟩ : ∃ x : LE, x = ⟨xk, nm, xp, xs, xl, xg, xc, xw⟩ := ⟨_, rfl⟩
      have Hf : Hid (x.k = xk ∧ x.nm = nm ∧ x.p = xp ∧ x.sd = xs) := Lib.hid (by rw [hx]; exact ⟨rfl, rfl, rfl, rfl⟩)
      rw [← hx] at hSx hp
      have HS := Lib.hid hSx
      have Hp := Lib.hid hp
      have hll : t < l.length := by omega
      have Hst := Lib.hid (Hgo.out.trans (Ly.vGo_drop hp))
      clear hp hSx hx Hgo
      have htn : (t : Int) < (n : Int) := by omega
      go_wp2_with fail
      refine (HS.out _).mono ?_
      rintro e w2 ⟨rfl, hb2⟩
      have hB2 := (Blk.new wr 48 #[.int .i64 xk, .string nm, .int .i64 xp, .int .i64 xs, .int .i64 xl, .int .i64 xg, .int .i64 xc, .int .i64 xw]).below hb2 (by simp)
      have hMB2 := (hMBt.alloc (.cells #[.int .i64 xk, .string nm, .int .i64 xp, .int .i64 xs, .int .i64 xl, .int .i64 xg, .int .i64 xc, .int .i64 xw] 48)).below hb2
      have hMP2 := (hMPt.alloc (.cells #[.int .i64 xk, .string nm, .int .i64 xp, .int .i64 xs, .int .i64 xl, .int .i64 xg, .int .i64 xc, .int .i64 xw] 48)).below hb2
      have hown2 := own_below (hownt.alloc (.cells #[.int .i64 xk, .string nm, .int .i64 xp, .int .i64 xs, .int .i64 xl, .int .i64 xg, .int .i64 xc, .int .i64 xw] 48)) hb2
      have hbr2 := below_step (hbr.alloc hbr.size (.cells #[.int .i64 xk, .string nm, .int .i64 xp, .int .i64 xs, .int .i64 xl, .int .i64 xg, .int .i64 xc, .int .i64 xw] 48)) hb2
      have hsz2 : wr.heap.size + 1 ≤ w2.heap.size := by have := hb2.size; simpa using this
      clear hMBt hMPt hownt hb2 c0 c1 c2 c3 c4 c5 c6 c7
      have x0 : w2.cell? ⟨wr.heap.size, 0, none⟩ = some (.int .i64 xk) := hB2.cell 0
      have x1 : w2.cell? ⟨wr.heap.size, 1, none⟩ = some (.string nm) := hB2.cell 1
      have bad1 : ∀ (hb : Ly.sound x = false ∨ ¬ (x.k = 0 ↔ t = 0)), Ly.vErr l = 1 := fun hb => by
        have h1 := Ly.fit_1 hll hb
        have h2 := Hst.out
        rw [h1, if_pos (by decide)] at h2
        rw [Hr.out, h2, if_pos (by decide)]
      have Hb1 := Lib.hid bad1
      clear bad1
      by_cases hso : Ly.sound x = true
      case neg =>
        have hsf : Ly.sound x = false := by simpa using hso
        rw [hsf]
        have Hv := Lib.hid (Hb1.out (.inl hsf))
        go_wp2_with fail
        go_ret
        exact ⟨retv Hv.out.symm, hbr2⟩
      rw [hso]
      by_cases hk0 : (x.k = 0 ↔ t = 0)
      case neg =>
        have Hv := Lib.hid (Hb1.out (.inr hk0))
        have hcase : (xk == 0) = true ∧ t ≠ 0 ∨ (xk == 0) = false ∧ t = 0 := by
          rw [Hf.out.1] at hk0
          by_cases h1 : xk = 0
          · left
            exact ⟨by simpa using h1, fun e => hk0 ⟨fun _ => e, fun _ => h1⟩⟩
          · right
            refine ⟨by simpa using h1, ?_⟩
            rcases Nat.eq_zero_or_pos t with h2 | h2
            · exact h2
            · exact absurd ⟨fun e => absurd e h1, fun e => by omega⟩ hk0
        clear hk0
        rcases hcase with ⟨e1, e2⟩ | ⟨e1, e2⟩
        · have e3 : ((t : Int) == 0) = false := beq_eq_false_iff_ne.2 (by omega)
          have e4 : (t == 0) = false := beq_eq_false_iff_ne.2 e2
          go_wp2_with fail
          go_ret
          exact ⟨retv Hv.out.symm, hbr2⟩
        · subst e2
          go_wp2_with fail
          go_ret
          exact ⟨retv Hv.out.symm, hbr2⟩
      have Hk0 := Lib.hid hk0
      have Hso := Lib.hid hso
      have hcase : (xk == 0) = true ∧ t = 0 ∨ (xk == 0) = false ∧ t ≠ 0 := by
        rw [Hf.out.1] at hk0
        by_cases h1 : xk = 0
        · left
          exact ⟨by simpa using h1, hk0.1 h1⟩
        · right
          exact ⟨by simpa using h1, fun e => h1 (hk0.2 e)⟩
      clear hk0 hso Hb1
      have hok : (keyS).ok nm := hnm
      by_cases hnd : Ly.named (l.take t) nm = true
      case pos =>
        have Hnd := Lib.hid hnd
        have Hv : Hid (Ly.vErr l = 8) := Lib.hid (by
          have h1 := Ly.fit_8 hll Hso.out Hk0.out (by rw [Hf.out.2.1]; exact hnd)
          have h2 := Hst.out
          rw [h1, if_pos (by decide)] at h2
          rw [Hr.out, h2, if_pos (by decide)])
        clear hnd
        rcases hcase with ⟨e1, e2⟩ | ⟨e1, e2⟩
        · subst e2
          exact absurd Hnd.out (by simp [Ly.named])
        · have e3 : ((t : Int) == 0) = false := beq_eq_false_iff_ne.2 (by omega)
          have e4 : (t == 0) = false := beq_eq_false_iff_ne.2 e2
          go_wp2_with (at_lookup; refine wpList_mapB_look msb_under bool_under' (zbool _) rfl (.tmp 44) (.tmp 46) rfl rfl hMB2 nm rfl hok ?_; simp only [Hnd.out])
          go_ret
          exact ⟨retv Hv.out.symm, hbr2⟩
      have hnf : Ly.named (l.take t) nm = false := by simpa using hnd
      have Hnd := Lib.hid hnf
      have Hnx : Hid (Ly.named (l.take t) x.nm = false) := Lib.hid (by rw [Hf.out.2.1]; exact hnf)
      clear hnd hnf
      have hts : t < maxLen := by unfold maxLen; omega
      rcases hcase with ⟨e1, e2⟩ | ⟨e1, e2⟩
      · subst e2
        have Htr : Hid (Ly.tracks (l.take 1) = T) := Lib.hid (by
          have h1 := Ly.tracks_take Hp.out
          rw [HT.out, if_neg (by rw [Hk0.out.2 rfl]; decide)] at h1
          exact h1)
        have Hvg : Hid (Ly.vGo l [] = Ly.vGo (l.drop 1) (l.take 1)) := Lib.hid (by
          have h2 := Hst.out
          rw [Ly.fit_first hll Hso.out Hk0.out Hnx.out rfl, if_neg (by decide)] at h2
          exact h2)
        go_wp2_with (first
          | (at_lookup; refine wpList_mapB_look msb_under bool_under' (zbool _) rfl (.tmp 44) (.tmp 46) rfl rfl hMB2 nm rfl hok ?_; simp only [Hnd.out])
          | (at_mapUpdate
             have hguard := hMB2
             clear hguard
             go_must (
             refine wpList_mapB_put msb_under bool_under' rfl (.tmp 48) (.tmp 50) (.const (.bool true)) rfl rfl hMB2 hts nm true rfl rfl hok (fun s => Ly.named (l.take (0 + 1)) s) (by rw [← Hf.out.2.1]; exact Ly.named_new Hp.out) (fun s' h => Ly.named_old Hp.out (by rw [Hf.out.2.1]; exact h)) ?_
             intro w3 hMB3 hg3
             have hMP3 := hMP2.kept hg3 (by simp)
             have hown3 := hown2.kept hg3 (.inr (by simp [Value.ownBlock]))
             have hbr3 : Below w.heap.size w w3 := hbr2.trans ((Below.refl _ _).grown hg3 hbr2.size (fun b hb => by cases hb; exact Nat.le_refl _))
             have hsz3 := hg3.size
             have hB3 := hB2.grown hg3 (by simp; omega)
             clear hMB2 hMP2 hown2 hbr2 hg3 x0 x1 hB2)))
        go_roundw
        case rel =>
          refine (show LVa _ _ _ _ _ _ from ⟨1, m0, by omega, by go_num, ?_, ?_, hMB3, by omega, ?_, ?_, hbr3, by omega⟩)
          · rw [Htr.out]
          · exact Hvg
          · have e : (fun q : Int × Int => Ly.taken (l.take 1) q.1 q.2) = fun q => Ly.taken (l.take 0) q.1 q.2 := by funext q; exact Ly.taken_first _ _
            rw [e]; exact hMP3
          · rw [Ly.kidsL_first]; exact hown3
        case measure => simp [intOf]; omega
      · have ht1 : t ≠ 0 := e2
        have et3 : ((t : Int) == 0) = false := beq_eq_false_iff_ne.2 (by omega)
        have et4 : (t == 0) = false := beq_eq_false_iff_ne.2 e2
        have ht1' : 1 ≤ t := by omega
        have Hfit := Lib.hid (fun r (hr : r ≠ 0) (h1 : Ly.fitE (l.take t) x = r) => (show Ly.vErr l = r by
          have h2 := Hst.out
          rw [h1, if_pos hr] at h2
          rw [Hr.out, h2, if_pos hr]))
        by_cases hp0 : xp < 0
        · have d1 : decide (xp < 0) = true := decide_eq_true hp0
          have Hv := Lib.hid (Hfit.out 12 (by decide) (Ly.fit_12 hll Hso.out Hk0.out Hnx.out ht1 (.inl (by rw [Hf.out.2.2.1]; exact hp0))))
          go_wp2_with (first
            | (at_lookup; refine wpList_mapB_look msb_under bool_under' (zbool _) rfl (.tmp 44) (.tmp 46) rfl rfl hMB2 nm rfl hok ?_; simp only [Hnd.out])
            | (at_mapUpdate
               have hguard := hMB2
               clear hguard
               go_must (
               refine wpList_mapB_put msb_under bool_under' rfl (.tmp 48) (.tmp 50) (.const (.bool true)) rfl rfl hMB2 hts nm true rfl rfl hok (fun s => Ly.named (l.take (t + 1)) s) (by rw [← Hf.out.2.1]; exact Ly.named_new Hp.out) (fun s' h => Ly.named_old Hp.out (by rw [Hf.out.2.1]; exact h)) ?_
               intro w3 hMB3 hg3
               have hMP3 := hMP2.kept hg3 (by simp)
               have hown3 := hown2.kept hg3 (.inr (by simp [Value.ownBlock]))
               have hbr3 : Below w.heap.size w w3 := hbr2.trans ((Below.refl _ _).grown hg3 hbr2.size (fun b hb => by cases hb; exact Nat.le_refl _))
               have hsz3 := hg3.size
               have hB3 := hB2.grown hg3 (by simp; omega)
               have y0 : w3.cell? ⟨wr.heap.size, 0, none⟩ = some (.int .i64 xk) := hB3.cell 0
               have y2 : w3.cell? ⟨wr.heap.size, 2, none⟩ = some (.int .i64 xp) := hB3.cell 2
               have y3 : w3.cell? ⟨wr.heap.size, 3, none⟩ = some (.int .i64 xs) := hB3.cell 3
               clear hMB2 hMP2 hown2 hbr2 hg3 x0 x1 hB2)))
          go_ret
          exact ⟨retv Hv.out.symm, hbr3⟩
        have d1 : decide (xp < 0) = false := decide_eq_false hp0
        by_cases hp1 : (t : Int) ≤ xp
        · have d2 : decide ((t : Int) ≤ xp) = true := decide_eq_true hp1
          have Hv := Lib.hid (Hfit.out 12 (by decide) (Ly.fit_12 hll Hso.out Hk0.out Hnx.out ht1 (.inr (by rw [Hf.out.2.2.1]; exact hp1))))
          go_wp2_with (first
            | (at_lookup; refine wpList_mapB_look msb_under bool_under' (zbool _) rfl (.tmp 44) (.tmp 46) rfl rfl hMB2 nm rfl hok ?_; simp only [Hnd.out])
            | (at_mapUpdate
               have hguard := hMB2
               clear hguard
               go_must (
               refine wpList_mapB_put msb_under bool_under' rfl (.tmp 48) (.tmp 50) (.const (.bool true)) rfl rfl hMB2 hts nm true rfl rfl hok (fun s => Ly.named (l.take (t + 1)) s) (by rw [← Hf.out.2.1]; exact Ly.named_new Hp.out) (fun s' h => Ly.named_old Hp.out (by rw [Hf.out.2.1]; exact h)) ?_
               intro w3 hMB3 hg3
               have hMP3 := hMP2.kept hg3 (by simp)
               have hown3 := hown2.kept hg3 (.inr (by simp [Value.ownBlock]))
               have hbr3 : Below w.heap.size w w3 := hbr2.trans ((Below.refl _ _).grown hg3 hbr2.size (fun b hb => by cases hb; exact Nat.le_refl _))
               have hsz3 := hg3.size
               have hB3 := hB2.grown hg3 (by simp; omega)
               have y0 : w3.cell? ⟨wr.heap.size, 0, none⟩ = some (.int .i64 xk) := hB3.cell 0
               have y2 : w3.cell? ⟨wr.heap.size, 2, none⟩ = some (.int .i64 xp) := hB3.cell 2
               have y3 : w3.cell? ⟨wr.heap.size, 3, none⟩ = some (.int .i64 xs) := hB3.cell 3
               clear hMB2 hMP2 hown2 hbr2 hg3 x0 x1 hB2)))
          go_ret
          exact ⟨retv Hv.out.symm, hbr3⟩
        have d2 : decide ((t : Int) ≤ xp) = false := decide_eq_false hp1
        obtain ⟨p, rfl⟩ := Int.eq_ofNat_of_zero_le (show 0 ≤ xp by omega)
        have hpt : p < t := by omega
        have hpn : (p : Int) < (n : Int) := by omega
        obtain ⟨y, hy⟩ : ∃ y, l[p]? = some y := ⟨_, List.getElem?_eq_getElem (by omega)⟩
        have Hy := Lib.hid hy
        obtain ⟨kd, hkd⟩ : ∃ kd, y.k = kd := ⟨_, rfl⟩
        have Hyk := Lib.hid hkd
        have Hka : Hid (Ly.kAt (l.take t) x.p = kd) := Lib.hid (by rw [Hf.out.2.2.1, Ly.kAt_take hpt hy, hkd])
        have Hpr : Hid (0 ≤ x.p ∧ x.p < (t : Int)) := Lib.hid (by rw [Hf.out.2.2.1]; omega)
        have H17 := Lib.hid (fun h => Hfit.out 17 (by decide) (Ly.fit_17 hll Hso.out Hk0.out Hnx.out ht1 Hpr.out h))
        have Hok := Lib.hid (fun h => Ly.fit_ok hll Hso.out Hk0.out Hnx.out ht1 Hpr.out h)
        rw [Hka.out, Hf.out.2.2.2] at H17 Hok
        have hokp : (keyP).ok ((p : Int), xs) := hwf
        clear hy hkd hp0 hp1
        by_cases h4 : kd = 4
        · have e4 : (kd == 4) = true := by simpa using h4
          have Hv := Lib.hid (H17.out (.inl h4))
          clear h4
          go_wp2_with (first
            | (at_lookup; refine wpList_mapB_look msb_under bool_under' (zbool _) rfl (.tmp 44) (.tmp 46) rfl rfl hMB2 nm rfl hok ?_; simp only [Hnd.out])
            | (at_mapUpdate
               have hguard := hMB2
               clear hguard
               go_must (
               refine wpList_mapB_put msb_under bool_under' rfl (.tmp 48) (.tmp 50) (.const (.bool true)) rfl rfl hMB2 hts nm true rfl rfl hok (fun s => Ly.named (l.take (t + 1)) s) (by rw [← Hf.out.2.1]; exact Ly.named_new Hp.out) (fun s' h => Ly.named_old Hp.out (by rw [Hf.out.2.1]; exact h)) ?_
               intro w3 hMB3 hg3
               have hMP3 := hMP2.kept hg3 (by simp)
               have hown3 := hown2.kept hg3 (.inr (by simp [Value.ownBlock]))
               have hbr3 : Below w.heap.size w w3 := hbr2.trans ((Below.refl _ _).grown hg3 hbr2.size (fun b hb => by cases hb; exact Nat.le_refl _))
               have hsz3 := hg3.size
               have hB3 := hB2.grown hg3 (by simp; omega)
               have y0 : w3.cell? ⟨wr.heap.size, 0, none⟩ = some (.int .i64 xk) := hB3.cell 0
               have y2 : w3.cell? ⟨wr.heap.size, 2, none⟩ = some (.int .i64 (p : Int)) := hB3.cell 2
               have y3 : w3.cell? ⟨wr.heap.size, 3, none⟩ = some (.int .i64 xs) := hB3.cell 3
               have y0a := fun o : Obj => cell_alloc y0 o
               have y2a := fun o : Obj => cell_alloc y2 o
               have y3a := fun o : Obj => cell_alloc y3 o
               obtain ⟨ad', y', e', _, hy', k0, _⟩ := (Hh.out.below hbr3).at_ (show p < n by omega)
               obtain rfl := Option.some.inj e'
               obtain rfl := Option.some.inj (hy'.symm.trans Hy.out)
               rw [Hyk.out] at k0
               clear hy' e'
               clear hMB2 hMP2 hown2 hbr2 hg3 x0 x1 hB2)))
          go_ret
          exact ⟨retv Hv.out.symm, (hbr3.alloc hbr3.size _)⟩
        have e4 : (kd == 4) = false := by simpa using h4
        have hcombo : ((kd == 3) = true ∧ (xs != 0) = false ∧ kd = 3 ∧ xs = 0) ∨ ((kd == 3) = false ∧ (xs != 0) = true ∧ kd ≠ 3 ∧ xs ≠ 0) ∨ ((kd == 3) = true ∧ (xs != 0) = true ∧ kd = 3 ∧ xs ≠ 0) ∨ ((kd == 3) = false ∧ (xs != 0) = false ∧ kd ≠ 3 ∧ xs = 0) := by
          by_cases a : kd = 3 <;> by_cases b : xs = 0 <;> simp [a, b]
        rcases hcombo with ⟨f3, f0, a3, a0⟩ | ⟨f3, f0, a3, a0⟩ | ⟨f3, f0, a3, a0⟩ | ⟨f3, f0, a3, a0⟩
        · have Hv := Lib.hid (H17.out (.inr (.inl ⟨fun h => by omega, fun h => by omega⟩)))
          clear a3 a0 h4
          go_wp2_with (first
            | (at_lookup; refine wpList_mapB_look msb_under bool_under' (zbool _) rfl (.tmp 44) (.tmp 46) rfl rfl hMB2 nm rfl hok ?_; simp only [Hnd.out])
            | (at_mapUpdate
               have hguard := hMB2
               clear hguard
               go_must (
               refine wpList_mapB_put msb_under bool_under' rfl (.tmp 48) (.tmp 50) (.const (.bool true)) rfl rfl hMB2 hts nm true rfl rfl hok (fun s => Ly.named (l.take (t + 1)) s) (by rw [← Hf.out.2.1]; exact Ly.named_new Hp.out) (fun s' h => Ly.named_old Hp.out (by rw [Hf.out.2.1]; exact h)) ?_
               intro w3 hMB3 hg3
               have hMP3 := hMP2.kept hg3 (by simp)
               have hown3 := hown2.kept hg3 (.inr (by simp [Value.ownBlock]))
               have hbr3 : Below w.heap.size w w3 := hbr2.trans ((Below.refl _ _).grown hg3 hbr2.size (fun b hb => by cases hb; exact Nat.le_refl _))
               have hsz3 := hg3.size
               have hB3 := hB2.grown hg3 (by simp; omega)
               have y0 : w3.cell? ⟨wr.heap.size, 0, none⟩ = some (.int .i64 xk) := hB3.cell 0
               have y2 : w3.cell? ⟨wr.heap.size, 2, none⟩ = some (.int .i64 (p : Int)) := hB3.cell 2
               have y3 : w3.cell? ⟨wr.heap.size, 3, none⟩ = some (.int .i64 xs) := hB3.cell 3
               have y0a := fun o : Obj => cell_alloc y0 o
               have y2a := fun o : Obj => cell_alloc y2 o
               have y3a := fun o : Obj => cell_alloc y3 o
               obtain ⟨ad', y', e', _, hy', k0, _⟩ := (Hh.out.below hbr3).at_ (show p < n by omega)
               obtain rfl := Option.some.inj e'
               obtain rfl := Option.some.inj (hy'.symm.trans Hy.out)
               rw [Hyk.out] at k0
               clear hy' e'
               clear hMB2 hMP2 hown2 hbr2 hg3 x0 x1 hB2)))
          go_ret
          exact ⟨retv Hv.out.symm, (hbr3.alloc hbr3.size _)⟩
        · have Hv := Lib.hid (H17.out (.inr (.inl ⟨fun h => by omega, fun h => by omega⟩)))
          clear a3 a0 h4
          go_wp2_with (first
            | (at_lookup; refine wpList_mapB_look msb_under bool_under' (zbool _) rfl (.tmp 44) (.tmp 46) rfl rfl hMB2 nm rfl hok ?_; simp only [Hnd.out])
            | (at_mapUpdate
               have hguard := hMB2
               clear hguard
               go_must (
               refine wpList_mapB_put msb_under bool_under' rfl (.tmp 48) (.tmp 50) (.const (.bool true)) rfl rfl hMB2 hts nm true rfl rfl hok (fun s => Ly.named (l.take (t + 1)) s) (by rw [← Hf.out.2.1]; exact Ly.named_new Hp.out) (fun s' h => Ly.named_old Hp.out (by rw [Hf.out.2.1]; exact h)) ?_
               intro w3 hMB3 hg3
               have hMP3 := hMP2.kept hg3 (by simp)
               have hown3 := hown2.kept hg3 (.inr (by simp [Value.ownBlock]))
               have hbr3 : Below w.heap.size w w3 := hbr2.trans ((Below.refl _ _).grown hg3 hbr2.size (fun b hb => by cases hb; exact Nat.le_refl _))
               have hsz3 := hg3.size
               have hB3 := hB2.grown hg3 (by simp; omega)
               have y0 : w3.cell? ⟨wr.heap.size, 0, none⟩ = some (.int .i64 xk) := hB3.cell 0
               have y2 : w3.cell? ⟨wr.heap.size, 2, none⟩ = some (.int .i64 (p : Int)) := hB3.cell 2
               have y3 : w3.cell? ⟨wr.heap.size, 3, none⟩ = some (.int .i64 xs) := hB3.cell 3
               have y0a := fun o : Obj => cell_alloc y0 o
               have y2a := fun o : Obj => cell_alloc y2 o
               have y3a := fun o : Obj => cell_alloc y3 o
               obtain ⟨ad', y', e', _, hy', k0, _⟩ := (Hh.out.below hbr3).at_ (show p < n by omega)
               obtain rfl := Option.some.inj e'
               obtain rfl := Option.some.inj (hy'.symm.trans Hy.out)
               rw [Hyk.out] at k0
               clear hy' e'
               clear hMB2 hMP2 hown2 hbr2 hg3 x0 x1 hB2)))
          go_ret
          exact ⟨retv Hv.out.symm, (hbr3.alloc hbr3.size _)⟩
        · have hnb : ¬ (kd = 3 ↔ xs = 0) := fun h => by omega
          clear a3 a0
          by_cases htk : Ly.taken (l.take t) (p : Int) xs = true
          · have Htk := Lib.hid htk
            have Hv := Lib.hid (H17.out (.inr (.inr (by rw [Hf.out.2.2.1]; exact htk))))
            clear htk hnb h4
            go_wp2_with (first
              | (at_lookup; refine wpList_mapB_look msb_under bool_under' (zbool _) rfl (.tmp 44) (.tmp 46) rfl rfl hMB2 nm rfl hok ?_; simp only [Hnd.out])
              | (at_mapUpdate
                 have hguard := hMB2
                 clear hguard
                 go_must (
                 refine wpList_mapB_put msb_under bool_under' rfl (.tmp 48) (.tmp 50) (.const (.bool true)) rfl rfl hMB2 hts nm true rfl rfl hok (fun s => Ly.named (l.take (t + 1)) s) (by rw [← Hf.out.2.1]; exact Ly.named_new Hp.out) (fun s' h => Ly.named_old Hp.out (by rw [Hf.out.2.1]; exact h)) ?_
                 intro w3 hMB3 hg3
                 have hMP3 := hMP2.kept hg3 (by simp)
                 have hown3 := hown2.kept hg3 (.inr (by simp [Value.ownBlock]))
                 have hbr3 : Below w.heap.size w w3 := hbr2.trans ((Below.refl _ _).grown hg3 hbr2.size (fun b hb => by cases hb; exact Nat.le_refl _))
                 have hsz3 := hg3.size
                 have hB3 := hB2.grown hg3 (by simp; omega)
                 have y0 : w3.cell? ⟨wr.heap.size, 0, none⟩ = some (.int .i64 xk) := hB3.cell 0
                 have y2 : w3.cell? ⟨wr.heap.size, 2, none⟩ = some (.int .i64 (p : Int)) := hB3.cell 2
                 have y3 : w3.cell? ⟨wr.heap.size, 3, none⟩ = some (.int .i64 xs) := hB3.cell 3
                 have y0a := fun o : Obj => cell_alloc y0 o
                 have y2a := fun o : Obj => cell_alloc y2 o
                 have y3a := fun o : Obj => cell_alloc y3 o
                 obtain ⟨ad', y', e', _, hy', k0, _⟩ := (Hh.out.below hbr3).at_ (show p < n by omega)
                 obtain rfl := Option.some.inj e'
                 obtain rfl := Option.some.inj (hy'.symm.trans Hy.out)
                 rw [Hyk.out] at k0
                 clear hy' e'
                 clear hMB2 hMP2 hown2 hbr2 hg3 x0 x1 hB2))
              | (at_lookup
                 go_must (
                 refine wantG rfl (wpList_mapB_look mpb_under bool_under' (zbool _) rfl (.tmp 84) (.tmp 85) rfl rfl (hMP3.alloc _) ((p : Int), xs) rfl hokp ?_)
                 simp only [Htk.out])))
            go_ret
            exact ⟨retv Hv.out.symm, (hbr3.alloc hbr3.size _)⟩
          · have htf : Ly.taken (l.take t) (p : Int) xs = false := by simpa using htk
            have Htk := Lib.hid htf
            have Hgo' : Hid (Ly.vGo l [] = Ly.vGo (l.drop (t + 1)) (l.take (t + 1))) := Lib.hid (by
              have h2 := Hst.out
              rw [Hok.out (fun h => h.elim h4 (fun h => h.elim hnb (fun h => by rw [Hf.out.2.2.1, htf] at h; cases h))), if_neg (by decide)] at h2
              exact h2)
            have Hn1 : Hid (Ly.taken (l.take (t + 1)) (p : Int) xs = true) := Lib.hid (by rw [Ly.taken_take Hp.out ht1', Hf.out.2.2.1, Hf.out.2.2.2]; simp)
            have Hn2 : Hid (∀ q : Int × Int, q ≠ ((p : Int), xs) → Ly.taken (l.take (t + 1)) q.1 q.2 = Ly.taken (l.take t) q.1 q.2) := Lib.hid (fun q hq => by
              rw [Ly.taken_take Hp.out ht1', Hf.out.2.2.1, Hf.out.2.2.2]
              have : ¬ ((p : Int) = q.1 ∧ xs = q.2) := fun h => hq (Prod.ext h.1.symm h.2.symm)
              have h3 : (decide ((p : Int) = q.1) && decide (xs = q.2)) = false := by simpa using this
              rw [h3, Bool.or_false])
            obtain ⟨K, hK⟩ : ∃ K, Ly.kids (l.take t) p = K := ⟨_, rfl⟩
            have hKt : K ≤ t := by rw [← hK]; exact Ly.kids_le_len p
            have HK := Lib.hid hK
            have hm0s : m0 < maxLen := by unfold maxLen; omega
            clear htk htf hnb h4 hK
            have hx4 : ((xk == 4) = true ∧ Hid (Ly.tracks (l.take (t + 1)) = T + 1)) ∨ ((xk == 4) = false ∧ Hid (Ly.tracks (l.take (t + 1)) = T)) := by
              by_cases h : xk = 4
              · left
                exact ⟨by simpa using h, Lib.hid (by rw [Ly.tracks_take Hp.out, HT.out, if_pos (by rw [Hf.out.1]; exact h)])⟩
              · right
                exact ⟨by simpa using h, Lib.hid (by rw [Ly.tracks_take Hp.out, HT.out, if_neg (by rw [Hf.out.1]; exact h)]; rfl)⟩
            rcases hx4 with ⟨g4, HT'⟩ | ⟨g4, HT'⟩
            all_goals
              go_wp2_with (first
                | (at_lookup; refine wpList_mapB_look msb_under bool_under' (zbool _) rfl (.tmp 44) (.tmp 46) rfl rfl hMB2 nm rfl hok ?_; simp only [Hnd.out])
                | (at_mapUpdate
                   have hguard := hMB2
                   clear hguard
                   go_must (
                   refine wpList_mapB_put msb_under bool_under' rfl (.tmp 48) (.tmp 50) (.const (.bool true)) rfl rfl hMB2 hts nm true rfl rfl hok (fun s => Ly.named (l.take (t + 1)) s) (by rw [← Hf.out.2.1]; exact Ly.named_new Hp.out) (fun s' h => Ly.named_old Hp.out (by rw [Hf.out.2.1]; exact h)) ?_
                   intro w3 hMB3 hg3
                   have hMP3 := hMP2.kept hg3 (by simp)
                   have hown3 := hown2.kept hg3 (.inr (by simp [Value.ownBlock]))
                   have hbr3 : Below w.heap.size w w3 := hbr2.trans ((Below.refl _ _).grown hg3 hbr2.size (fun b hb => by cases hb; exact Nat.le_refl _))
                   have hsz3 := hg3.size
                   have hB3 := hB2.grown hg3 (by simp; omega)
                   have y0 : w3.cell? ⟨wr.heap.size, 0, none⟩ = some (.int .i64 xk) := hB3.cell 0
                   have y2 : w3.cell? ⟨wr.heap.size, 2, none⟩ = some (.int .i64 (p : Int)) := hB3.cell 2
                   have y3 : w3.cell? ⟨wr.heap.size, 3, none⟩ = some (.int .i64 xs) := hB3.cell 3
                   have y0a := fun o : Obj => cell_alloc y0 o
                   have y2a := fun o : Obj => cell_alloc y2 o
                   have y3a := fun o : Obj => cell_alloc y3 o
                   obtain ⟨ad', y', e', _, hy', k0, _⟩ := (Hh.out.below hbr3).at_ (show p < n by omega)
                   obtain rfl := Option.some.inj e'
                   obtain rfl := Option.some.inj (hy'.symm.trans Hy.out)
                   rw [Hyk.out] at k0
                   clear hy' e'
                   clear hMB2 hMP2 hown2 hbr2 hg3 x0 x1 hB2))
                | (at_lookup
                   go_must (
                   refine wantG rfl (wpList_mapB_look mpb_under bool_under' (zbool _) rfl (.tmp 84) (.tmp 85) rfl rfl (hMP3.alloc _) ((p : Int), xs) rfl hokp ?_)
                   simp only [Htk.out]))
                | (at_mapUpdate
                   go_must (
                   refine wpList_mapB_put mpb_under bool_under' rfl (.tmp 88) (.tmp 89) (.const (.bool true)) rfl rfl (hMP3.alloc _) hm0s ((p : Int), xs) true rfl rfl hokp (fun q => Ly.taken (l.take (t + 1)) q.1 q.2) (Hn1.out) (fun s' h => Hn2.out s' h) ?_
                   intro w4 hMP4 hg4
                   have hMB4 := (hMB3.alloc _).kept hg4 (by simp)
                   have hown4 := (hown3.alloc _).kept hg4 (.inr (by simp [Value.ownBlock]))
                   have hB4 := (hB3.drop_alloc _).grown hg4 (by simp; omega)
                   have hbr4 : Below w.heap.size w w4 := (hbr3.alloc hbr3.size _).trans ((Below.refl _ _).grown hg4 (by have := hbr3.size; simp; omega) (fun b hb => by cases hb; omega))
                   have hsz4 := hg4.size
                   have hszz : w3.heap.size + 1 ≤ w4.heap.size := by simpa using hsz4
                   have z0 : w4.cell? ⟨wr.heap.size, 0, none⟩ = some (.int .i64 xk) := hB4.cell 0
                   have z2 : w4.cell? ⟨wr.heap.size, 2, none⟩ = some (.int .i64 (p : Int)) := hB4.cell 2
                   have zk := own_cell hown4 (show p < n by omega)
                   rw [Ly.kidsL_get _ _ _ _ (show p < n by omega), HK.out] at zk
                   have zf := hown4.frozenAt p
                   clear hMP3 hMB3 hown3 hg4 y0 y2 y3 y0a y2a y3a k0 hB3 hsz4)))
              go_roundw
              case rel =>
                refine (show LVa _ _ _ _ _ _ from ⟨t + 1, m0 + 1, by omega, by go_num, ?_, Hgo', hMB4.setCell (by simp; omega) _, by omega, hMP4.setCell (by simp) _, ?_, hbr4.setCell (by simp; omega) _, ?_⟩)
                · rw [HT'.out] <;> go_num
                · rw [← Ly.kidsL_step Hp.out ht1' Hf.out.2.2.1 (by omega), HK.out]
                  exact own_set hown4 _
                · simp; omega
              case measure => simp [intOf]; omega
        · have hnb : ¬ (kd = 3 ↔ xs = 0) := fun h => by omega
          clear a3 a0
          by_cases htk : Ly.taken (l.take t) (p : Int) xs = true
          · have Htk := Lib.hid htk
            have Hv := Lib.hid (H17.out (.inr (.inr (by rw [Hf.out.2.2.1]; exact htk))))
            clear htk hnb h4
            go_wp2_with (first
              | (at_lookup; refine wpList_mapB_look msb_under bool_under' (zbool _) rfl (.tmp 44) (.tmp 46) rfl rfl hMB2 nm rfl hok ?_; simp only [Hnd.out])
              | (at_mapUpdate
                 have hguard := hMB2
                 clear hguard
                 go_must (
                 refine wpList_mapB_put msb_under bool_under' rfl (.tmp 48) (.tmp 50) (.const (.bool true)) rfl rfl hMB2 hts nm true rfl rfl hok (fun s => Ly.named (l.take (t + 1)) s) (by rw [← Hf.out.2.1]; exact Ly.named_new Hp.out) (fun s' h => Ly.named_old Hp.out (by rw [Hf.out.2.1]; exact h)) ?_
                 intro w3 hMB3 hg3
                 have hMP3 := hMP2.kept hg3 (by simp)
                 have hown3 := hown2.kept hg3 (.inr (by simp [Value.ownBlock]))
                 have hbr3 : Below w.heap.size w w3 := hbr2.trans ((Below.refl _ _).grown hg3 hbr2.size (fun b hb => by cases hb; exact Nat.le_refl _))
                 have hsz3 := hg3.size
                 have hB3 := hB2.grown hg3 (by simp; omega)
                 have y0 : w3.cell? ⟨wr.heap.size, 0, none⟩ = some (.int .i64 xk) := hB3.cell 0
                 have y2 : w3.cell? ⟨wr.heap.size, 2, none⟩ = some (.int .i64 (p : Int)) := hB3.cell 2
                 have y3 : w3.cell? ⟨wr.heap.size, 3, none⟩ = some (.int .i64 xs) := hB3.cell 3
                 have y0a := fun o : Obj => cell_alloc y0 o
                 have y2a := fun o : Obj => cell_alloc y2 o
                 have y3a := fun o : Obj => cell_alloc y3 o
                 obtain ⟨ad', y', e', _, hy', k0, _⟩ := (Hh.out.below hbr3).at_ (show p < n by omega)
                 obtain rfl := Option.some.inj e'
                 obtain rfl := Option.some.inj (hy'.symm.trans Hy.out)
                 rw [Hyk.out] at k0
                 clear hy' e'
                 clear hMB2 hMP2 hown2 hbr2 hg3 x0 x1 hB2))
              | (at_lookup
                 go_must (
                 refine wantG rfl (wpList_mapB_look mpb_under bool_under' (zbool _) rfl (.tmp 84) (.tmp 85) rfl rfl (hMP3.alloc _) ((p : Int), xs) rfl hokp ?_)
                 simp only [Htk.out])))
            go_ret
            exact ⟨retv Hv.out.symm, (hbr3.alloc hbr3.size _)⟩
          · have htf : Ly.taken (l.take t) (p : Int) xs = false := by simpa using htk
            have Htk := Lib.hid htf
            have Hgo' : Hid (Ly.vGo l [] = Ly.vGo (l.drop (t + 1)) (l.take (t + 1))) := Lib.hid (by
              have h2 := Hst.out
              rw [Hok.out (fun h => h.elim h4 (fun h => h.elim hnb (fun h => by rw [Hf.out.2.2.1, htf] at h; cases h))), if_neg (by decide)] at h2
              exact h2)
            have Hn1 : Hid (Ly.taken (l.take (t + 1)) (p : Int) xs = true) := Lib.hid (by rw [Ly.taken_take Hp.out ht1', Hf.out.2.2.1, Hf.out.2.2.2]; simp)
            have Hn2 : Hid (∀ q : Int × Int, q ≠ ((p : Int), xs) → Ly.taken (l.take (t + 1)) q.1 q.2 = Ly.taken (l.take t) q.1 q.2) := Lib.hid (fun q hq => by
              rw [Ly.taken_take Hp.out ht1', Hf.out.2.2.1, Hf.out.2.2.2]
              have : ¬ ((p : Int) = q.1 ∧ xs = q.2) := fun h => hq (Prod.ext h.1.symm h.2.symm)
              have h3 : (decide ((p : Int) = q.1) && decide (xs = q.2)) = false := by simpa using this
              rw [h3, Bool.or_false])
            obtain ⟨K, hK⟩ : ∃ K, Ly.kids (l.take t) p = K := ⟨_, rfl⟩
            have hKt : K ≤ t := by rw [← hK]; exact Ly.kids_le_len p
            have HK := Lib.hid hK
            have hm0s : m0 < maxLen := by unfold maxLen; omega
            clear htk htf hnb h4 hK
            have hx4 : ((xk == 4) = true ∧ Hid (Ly.tracks (l.take (t + 1)) = T + 1)) ∨ ((xk == 4) = false ∧ Hid (Ly.tracks (l.take (t + 1)) = T)) := by
              by_cases h : xk = 4
              · left
                exact ⟨by simpa using h, Lib.hid (by rw [Ly.tracks_take Hp.out, HT.out, if_pos (by rw [Hf.out.1]; exact h)])⟩
              · right
                exact ⟨by simpa using h, Lib.hid (by rw [Ly.tracks_take Hp.out, HT.out, if_neg (by rw [Hf.out.1]; exact h)]; rfl)⟩
            rcases hx4 with ⟨g4, HT'⟩ | ⟨g4, HT'⟩
            all_goals
              go_wp2_with (first
                | (at_lookup; refine wpList_mapB_look msb_under bool_under' (zbool _) rfl (.tmp 44) (.tmp 46) rfl rfl hMB2 nm rfl hok ?_; simp only [Hnd.out])
                | (at_mapUpdate
                   have hguard := hMB2
                   clear hguard
                   go_must (
                   refine wpList_mapB_put msb_under bool_under' rfl (.tmp 48) (.tmp 50) (.const (.bool true)) rfl rfl hMB2 hts nm true rfl rfl hok (fun s => Ly.named (l.take (t + 1)) s) (by rw [← Hf.out.2.1]; exact Ly.named_new Hp.out) (fun s' h => Ly.named_old Hp.out (by rw [Hf.out.2.1]; exact h)) ?_
                   intro w3 hMB3 hg3
                   have hMP3 := hMP2.kept hg3 (by simp)
                   have hown3 := hown2.kept hg3 (.inr (by simp [Value.ownBlock]))
                   have hbr3 : Below w.heap.size w w3 := hbr2.trans ((Below.refl _ _).grown hg3 hbr2.size (fun b hb => by cases hb; exact Nat.le_refl _))
                   have hsz3 := hg3.size
                   have hB3 := hB2.grown hg3 (by simp; omega)
                   have y0 : w3.cell? ⟨wr.heap.size, 0, none⟩ = some (.int .i64 xk) := hB3.cell 0
                   have y2 : w3.cell? ⟨wr.heap.size, 2, none⟩ = some (.int .i64 (p : Int)) := hB3.cell 2
                   have y3 : w3.cell? ⟨wr.heap.size, 3, none⟩ = some (.int .i64 xs) := hB3.cell 3
                   have y0a := fun o : Obj => cell_alloc y0 o
                   have y2a := fun o : Obj => cell_alloc y2 o
                   have y3a := fun o : Obj => cell_alloc y3 o
                   obtain ⟨ad', y', e', _, hy', k0, _⟩ := (Hh.out.below hbr3).at_ (show p < n by omega)
                   obtain rfl := Option.some.inj e'
                   obtain rfl := Option.some.inj (hy'.symm.trans Hy.out)
                   rw [Hyk.out] at k0
                   clear hy' e'
                   clear hMB2 hMP2 hown2 hbr2 hg3 x0 x1 hB2))
                | (at_lookup
                   go_must (
                   refine wantG rfl (wpList_mapB_look mpb_under bool_under' (zbool _) rfl (.tmp 84) (.tmp 85) rfl rfl (hMP3.alloc _) ((p : Int), xs) rfl hokp ?_)
                   simp only [Htk.out]))
                | (at_mapUpdate
                   go_must (
                   refine wpList_mapB_put mpb_under bool_under' rfl (.tmp 88) (.tmp 89) (.const (.bool true)) rfl rfl (hMP3.alloc _) hm0s ((p : Int), xs) true rfl rfl hokp (fun q => Ly.taken (l.take (t + 1)) q.1 q.2) (Hn1.out) (fun s' h => Hn2.out s' h) ?_
                   intro w4 hMP4 hg4
                   have hMB4 := (hMB3.alloc _).kept hg4 (by simp)
                   have hown4 := (hown3.alloc _).kept hg4 (.inr (by simp [Value.ownBlock]))
                   have hB4 := (hB3.drop_alloc _).grown hg4 (by simp; omega)
                   have hbr4 : Below w.heap.size w w4 := (hbr3.alloc hbr3.size _).trans ((Below.refl _ _).grown hg4 (by have := hbr3.size; simp; omega) (fun b hb => by cases hb; omega))
                   have hsz4 := hg4.size
                   have hszz : w3.heap.size + 1 ≤ w4.heap.size := by simpa using hsz4
                   have z0 : w4.cell? ⟨wr.heap.size, 0, none⟩ = some (.int .i64 xk) := hB4.cell 0
                   have z2 : w4.cell? ⟨wr.heap.size, 2, none⟩ = some (.int .i64 (p : Int)) := hB4.cell 2
                   have zk := own_cell hown4 (show p < n by omega)
                   rw [Ly.kidsL_get _ _ _ _ (show p < n by omega), HK.out] at zk
                   have zf := hown4.frozenAt p
                   clear hMP3 hMB3 hown3 hg4 y0 y2 y3 y0a y2a y3a k0 hB3 hsz4)))
              go_roundw
              case rel =>
                refine (show LVa _ _ _ _ _ _ from ⟨t + 1, m0 + 1, by omega, by go_num, ?_, Hgo', hMB4.setCell (by simp; omega) _, by omega, hMP4.setCell (by simp) _, ?_, hbr4.setCell (by simp; omega) _, ?_⟩)
                · rw [HT'.out] <;> go_num
                · rw [← Ly.kidsL_step Hp.out ht1' Hf.out.2.2.1 (by omega), HK.out]
                  exact own_set hown4 _
                · simp; omega
              case measure => simp [intOf]; omega
    · have hte : t = n := by omega
      have hT2 : Ly.tracks l = T := by
        have := HT.out
        rwa [hte, List.take_of_length_le (by omega)] at this
      have hgo0 : Ly.vGo l [] = 0 := by
        rw [Hgo.out, hte, List.drop_of_length_le (by omega)]; rfl
      have Hr2 : Hid (Ly.vErr l = if Ly.lacks l l 0 = true then 13 else if 32 < T then 3 else 0) := Lib.hid (by rw [Hr.out, hgo0, if_neg (by decide), hT2])
      subst hte
      clear hgo0 hT2 Hgo hMBt hMPt
      have htn : ¬ (t : Int) < (t : Int) := by omega
      have hlt' : t ≤ l.length := by omega
      go_wp2_with fail
      go_loopw [105] (fun p wr' => LVb w t l p wr') (fun p _ => t - (intOf p).toNat)
      case atStart => exact (show LVb _ _ _ _ _ from ⟨0, by omega, rfl, Lib.hid rfl, hownt, hbr, hsz⟩)
      case round =>
        obtain ⟨s, hst, rfl, Hlk, hown5, hbr5, hsz5⟩ := hrel
        by_cases hls : s < t
        · obtain ⟨ad, ⟨xk, nm, xp, xs, xl, xg, xc, xw⟩, hAe, hba, hp, c0, c1, c2, c3, c4, c5, c6, c7⟩ := (Hh.out.below hbr5).at_ hls
          subst hAe
          simp only at c0 c1 c2 c3 c4 c5 c6 c7
          have Hst := Lib.hid (Hlk.out.trans (Ly.lacks_drop (l := l) hp))
          simp only at Hst
          have hkc := own_cell hown5 hls
          rw [Ly.kidsL_get _ _ _ _ hls, List.take_of_length_le (by omega)] at hkc
          obtain ⟨K, hK⟩ : ∃ K, Ly.kids l s = K := ⟨_, rfl⟩
          rw [hK] at hkc Hst
          have hKb : K ≤ l.length := by
            have := Ly.kids_le_len (l := l) (t := l.length) s
            rwa [List.take_length, hK] at this
          have hcap : s < t := hls
          clear hp hK Hlk
          have hcase : ((xk == 3) = true ∧ decide ((K : Int) < 2) = true ∧ K < Ly.want xk) ∨ ((xk == 3) = true ∧ (xk != 4) = true ∧ decide ((K : Int) < 2) = false ∧ decide ((K : Int) < 1) = false ∧ ¬ K < Ly.want xk) ∨ ((xk == 3) = false ∧ (xk != 4) = false ∧ ¬ K < Ly.want xk) ∨ ((xk == 3) = false ∧ (xk != 4) = true ∧ decide ((K : Int) < 1) = true ∧ K < Ly.want xk) ∨ ((xk == 3) = false ∧ (xk != 4) = true ∧ decide ((K : Int) < 1) = false ∧ ¬ K < Ly.want xk) := by
            unfold Ly.want
            by_cases h3 : xk = 3
            · rw [if_pos h3]
              by_cases hk : K < 2
              · left; exact ⟨by simpa using h3, decide_eq_true (by omega), hk⟩
              · right; left; exact ⟨by simpa using h3, by simp [h3], decide_eq_false (by omega), decide_eq_false (by omega), hk⟩
            · rw [if_neg h3]
              by_cases h4 : xk = 4
              · rw [if_pos h4]
                right; right; left; exact ⟨by simpa using h3, by simp [h4], by omega⟩
              · rw [if_neg h4]
                by_cases hk : K < 1
                · right; right; right; left; exact ⟨by simpa using h3, by simpa using h4, decide_eq_true (by omega), hk⟩
                · right; right; right; right; exact ⟨by simpa using h3, by simpa using h4, decide_eq_false (by omega), hk⟩
          have Hbad : Hid (K < Ly.want xk → Ly.vErr l = 13) := Lib.hid (fun h => by
            have h1 := Hst.out
            rw [decide_eq_true h, Bool.true_or] at h1
            rw [Hr2.out, if_pos h1])
          have Hgood : Hid (¬ K < Ly.want xk → Ly.lacks l l 0 = Ly.lacks l (l.drop (s + 1)) (s + 1)) := Lib.hid (fun h => by
            have h1 := Hst.out
            rw [decide_eq_false h, Bool.false_or] at h1
            exact h1)
          have hslt : (s : Int) < (t : Int) := by omega
          have hkr := fun o : Obj => cell_alloc hkc o
          rcases hcase with ⟨f1, f2, f3⟩ | ⟨f1, f2, f3, f4, f5⟩ | ⟨f1, f2, f5⟩ | ⟨f1, f2, f4, f3⟩ | ⟨f1, f2, f4, f5⟩
          · have Hv := Lib.hid (Hbad.out f3)
            clear f3
            go_wp2_with fail
            go_ret
            exact ⟨retv Hv.out.symm, hbr5.alloc hbr5.size _⟩
          · have Hv := Lib.hid (Hgood.out f5)
            clear f5
            go_wp2_with fail
            go_roundw
            case rel => exact (show LVb _ _ _ _ _ from ⟨s + 1, by omega, by go_num, Hv, hown5.alloc _, hbr5.alloc hbr5.size _, by simp; omega⟩)
            case measure => simp [intOf]; omega
          · have Hv := Lib.hid (Hgood.out f5)
            clear f5
            go_wp2_with fail
            go_roundw
            case rel => exact (show LVb _ _ _ _ _ from ⟨s + 1, by omega, by go_num, Hv, hown5.alloc _, hbr5.alloc hbr5.size _, by simp; omega⟩)
            case measure => simp [intOf]; omega
          · have Hv := Lib.hid (Hbad.out f3)
            clear f3
            go_wp2_with fail
            go_ret
            exact ⟨retv Hv.out.symm, hbr5.alloc hbr5.size _⟩
          · have Hv := Lib.hid (Hgood.out f5)
            clear f5
            go_wp2_with fail
            go_roundw
            case rel => exact (show LVb _ _ _ _ _ from ⟨s + 1, by omega, by go_num, Hv, hown5.alloc _, hbr5.alloc hbr5.size _, by simp; omega⟩)
            case measure => simp [intOf]; omega
        · have hlk : Ly.lacks l l 0 = false := by
            rw [Hlk.out, List.drop_of_length_le (by omega)]; rfl
          have hslt : ¬ (s : Int) < (t : Int) := by omega
          by_cases h32 : 32 < T
          · have d3 : decide (32 < (T : Int)) = true := decide_eq_true (by omega)
            have d3' : decide (32 < T) = true := decide_eq_true h32
            have Hv : Hid (Ly.vErr l = 3) := Lib.hid (by rw [Hr2.out, hlk, if_neg (by decide), if_pos h32])
            clear hlk
            go_wp2_with fail
            go_ret
            exact ⟨retv Hv.out.symm, hbr5⟩
          · have d3 : decide (32 < (T : Int)) = false := decide_eq_false (by omega)
            have d3' : decide (32 < T) = false := decide_eq_false h32
            have Hv : Hid (Ly.vErr l = 0) := Lib.hid (by rw [Hr2.out, hlk, if_neg (by decide), if_neg h32])
            clear hlk
            go_wp2_with fail
            go_ret
            exact ⟨retv Hv.out.symm, hbr5⟩
end Go.Proofs.YtmjdjcpmkdninaaDoor
