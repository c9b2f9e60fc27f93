/- The walk of 'DetectorShort'; Encode at a made list. -/
import Derived.Test.YtocohkgdkebmdaaGreatV2
import Derived.Test.YtocohkgdkebmdaaGreatV3
import Derived.Laws.StructEq
import Derived.RegionTactic
import Derived.BigRegion
namespace Go.Proofs.YtocohkgdkebmdaaGreat
open Go.RowKit
theorem sl_iv : SlT Tryz.prog 38 85 2 16 := slT_of (z := .agg #[.int .i64 0, .int .i64 0]) Tryz.underlying38 (by kernel_rfl) rfl (by omega)
theorem one_flat3 (l : List V3) : ∀ u ∈ flat3 l, u.oneCell' = true := by
  intro u hu
  obtain ⟨p, _, hp⟩ := List.mem_flatMap.1 hu
  simp only [cells3, List.mem_cons, List.not_mem_nil, or_false] at hp
  rcases hp with rfl | rfl | rfl <;> rfl
set_option maxRecDepth 100000 in
set_option maxHeartbeats 4000000 in
theorem ddecode_c (A : Option Addr) (n c : Nat) (b : List Int) (w : World) (hn : n ≤ maxLen) (h : IR .u8 w A n b) (hr : ∀ x ∈ b, 0 ≤ x ∧ x < 256) :
    Calls Tryz.prog 10 #[.slice A n c] w fun e w' => ∃ v u, e = .returned (.tuple #[v, u, .int .i64 (Det.decE b)]) ∧ w'.ownsRow w.heap.size 33 3 v (Det.decP b).length (flat3 (Det.decP b)) ∧
      w'.ownsRow w.heap.size 85 2 u (Det.decG b).length (flat2 (Det.decG b)) ∧ Below w.heap.size w w' := by
  go_enter Tryz.func10, Tryz.ntmps10
  go_wp2_with fail
  refine (unpack_c A n c b _ hn h hr).mono ?_
  rintro e w1 ⟨v1, u1, rfl, own1, _, _, hb1⟩
  have hVr := Lib.hid (Det.unpackV_range b)
  have hVl := Det.unpackV_len b
  by_cases hE : Ham.unpE b = 0
  · have hE2 : Det.decE b = if 4096 < (Det.parse (Ham.unpackV b)).1.length then 3 else 0 := by rw [Det.decE, if_neg (by omega)]
    have hP2 : Det.decP b = if Det.decE b = 0 then (Det.parse (Ham.unpackV b)).1 else [] := rfl
    have hG2 : Det.decG b = if Det.decE b = 0 then (Det.parse (Ham.unpackV b)).2 else [] := rfl
    have HE := Lib.hid hE2
    have HP := Lib.hid hP2
    have HG := Lib.hid hG2
    rw [hE]
    clear hE hE2 hP2 hG2
    generalize Ham.unpackV b = V at *
    obtain ⟨N, hN⟩ : ∃ N, V.length = N := ⟨_, rfl⟩
    rw [hN] at own1 hVl
    have HN := Lib.hid hN
    clear hN
    obtain ⟨A5, c5, rfl, l5, l5'⟩ := own_form own1
    have l5m := l5'
    unfold maxLen at l5m
    have hir := own_IR own1
    go_wp2_with fail
    go_loopw [8, 9, 10, 11, 12, 13, 14] (fun pv gv at_ _ _ _ _ wr => ∃ (i : Nat) (P : List V3) (G : List (Int × Int)), i ≤ N ∧ at_ = .int .i64 i ∧ P.length ≤ i ∧ G.length ≤ i ∧
      Hid (Det.parse V = (P ++ (Det.parseAt V i).1, G ++ (Det.parseAt V i).2)) ∧ wr.ownsRow w1.heap.size 33 3 pv P.length (flat3 P) ∧ wr.ownsRow w1.heap.size 85 2 gv G.length (flat2 G) ∧ apart pv gv ∧ Below w1.heap.size w1 wr) (fun _ _ at_ _ _ _ _ _ => N - (intOf at_).toNat)
    case atStart => exact ⟨0, [], [], by omega, rfl, by simp, by simp, Lib.hid (by rw [Det.parse_at0]; simp), World.ownsRow_nil _ _ _ _, World.ownsRow_nil _ _ _ _, .inl rfl, Below.refl _ _⟩
    case round =>
      obtain ⟨i, P, G, hi, rfl, hPl, hGl, hpar, ownP, ownG, hap, hbr⟩ := hrel
      by_cases hlt : i < N
      · obtain ⟨ad, rfl, hba, hci⟩ := hir.at_ hlt
        have hcut := (hir.cut hlt l5).below hbr
        have hdr : ∀ v ∈ V.drop i, -1 ≤ v ∧ v < 2048 := fun v hv => hVr.out v (List.mem_of_mem_drop hv)
        have hrc := Lib.hid (read_c (some (ad.add i)) (N - i) (c5 - i) (V.drop i) wr (by simp only [maxLen]; omega) (by omega) hcut hdr)
        have hne : ¬ c5 = i := by omega
        clear hcut hdr
        go_wp2_with fail
        refine (hrc.out).mono ?_
        rintro e w2 ⟨hres, hb2⟩
        have ownP2 := own_below ownP hb2
        have ownG2 := own_below ownG hb2
        have hbr2 := below_step hbr hb2
        have hNl := HN.out
        have Hdl := Lib.hid (show (V.drop i).length = N - i by rw [List.length_drop, hNl])
        clear ownP ownG hbr hb2 hne hrc hci hNl
        rcases hres with ⟨v, g, k, hrd, rfl, hown2⟩ | ⟨hrd, rfl⟩
        · obtain ⟨q1, q2, q3, q4⟩ := Det.rd_len hrd
          rw [Hdl.out] at q2
          have hpa := Lib.hid (Det.parseAt_some V i g k hrd)
          have Hq1 := Lib.hid q1
          have q5 : g.length ≤ k := by omega
          have q6 : 1 ≤ k := by omega
          clear hrd q1
          obtain ⟨A', c', rfl, _, _⟩ := own_form hown2
          go_wp2_with (at_builtin; refine wpList_cat sl_pulse rfl (.tmp 37) (.tmp 38) rfl w1.heap.size _ P.length (flat3 P) rfl ownP2 w2.heap.size A' g.length c' (flat3 g) rfl (Reads.of_own hown2) (one_flat3 g) (by simp only [maxLen]; omega) (by omega) hbr2.size ?_; intro v3 w3 own3 hgr3)
          have ownG3 := hgr3.keep ownG2 hap.symm
          have hap3 := (hgr3.apart_l ownG2 hap.symm).symm
          have hbr3 := hbr2.trans (hgr3.below (own_ge ownP2) hbr2.size)
          clear ownP2 hgr3 ownG2 hap hbr2 hown2
          go_wp2_with fail
          go_roundw
          case rel =>
            refine ⟨i + k, P ++ g, G, by omega, by go_num, by rw [List.length_append]; omega, by omega, Lib.hid ?_, ?_, ownG3, hap3, hbr3⟩
            · rw [hpar.out, hpa.out, List.append_assoc]
            · rw [flat3_append, List.length_append]; exact own3
          case measure => simp [intOf]; omega
        · have hpa := Lib.hid (Det.parseAt_none V i (by rw [HN.out]; exact hlt) hrd)
          clear hrd
          go_wp2_with fail
          go_loop [10] (fun at_ => ∃ j : Nat, i + 1 ≤ j ∧ j ≤ N ∧ at_ = .int .i64 j ∧ Hid (i + 1 + Det.skip (V.drop (i + 1)) = j + Det.skip (V.drop j))) (fun at_ => N - (intOf at_).toNat)
          case atStart => exact ⟨i + 1, by omega, by omega, by go_num, Lib.hid rfl⟩
          case round =>
            obtain ⟨j, hij, hjN, rfl, hsk⟩ := hrel
            by_cases hjl : j < N
            · obtain ⟨ad2, hea, _, hcj⟩ := hir.at_ hjl
              obtain rfl := Option.some.inj hea
              have hcj2 := keep_cell hbr2 hcj
              have hB1 : decide ((j : Int) < (N : Int)) = true := by simp; omega
              have hB2 : decide (j < N) = true := by simp; omega
              by_cases hmk : Det.mark (V.getD j 0) = true
              · have hs0 := Lib.hid (Det.skip_mark V j (by rw [HN.out]; exact hjl) hmk)
                clear hea hcj
                generalize V.getD j 0 = y at hcj2 hmk
                go_wp2_with (first | (go_at_call 28; refine (mark_c _ _).mono ?_; rintro e w9 ⟨rfl, rfl⟩) | (at_builtin; refine wpList_push sl_iv rfl (.tmp 60) (.tmp 65) rfl w1.heap.size _ _ _ rfl ownG2 1 1 rfl rfl rfl (by simp only [maxLen]; omega) (by omega) hbr2.size ?_; intro v3 w3 own3 hgr3))
                have ownP3 := hgr3.keep ownP2 hap
                have hap3 := hgr3.apart_l ownP2 hap
                have hbr3 := hbr2.trans (hgr3.below (own_ge ownG2) hbr2.size)
                clear ownP2 hgr3 ownG2 hap hbr2
                go_wp2_with fail
                go_roundw
                case rel =>
                  refine ⟨j, P, G ++ [((i : Int), (j : Int) - 1)], by omega, rfl, by omega, by simp; omega, Lib.hid ?_, ownP3, ?_, hap3, hbr3⟩
                  · have h1 := hsk.out
                    rw [hs0.out, Nat.add_zero] at h1
                    rw [hpar.out, hpa.out, h1, List.append_assoc]
                    have h2 : ((i + Det.skip (V.drop (i + 1)) : Nat) : Int) = (j : Int) - 1 := by omega
                    rw [h2]
                    rfl
                  · rw [flat2_snoc]
                    simpa [cells2] using own3
                case measure => simp [intOf]; omega
              · have hmf : Det.mark (V.getD j 0) = false := by simpa using hmk
                have hs0 := Lib.hid (Det.skip_go V j (by rw [HN.out]; exact hjl) hmf)
                clear hea hcj hmk
                generalize V.getD j 0 = y at hcj2 hmf
                go_wp2_with (go_at_call 28; refine (mark_c _ _).mono ?_; rintro e w9 ⟨rfl, rfl⟩)
                go_round
                case rel => exact ⟨j + 1, by omega, by omega, by go_num, Lib.hid (by rw [hsk.out, hs0.out]; omega)⟩
                case measure => simp [intOf]; omega
            · obtain rfl : j = N := by omega
              have hs0 := Lib.hid (Det.skip_stop V j (by rw [HN.out]; exact Nat.le_refl _))
              have hB1 : decide ((j : Int) < (j : Int)) = false := by simp
              go_wp2_with (at_builtin; refine wpList_push sl_iv rfl (.tmp 60) (.tmp 65) rfl w1.heap.size _ _ _ rfl ownG2 1 1 rfl rfl rfl (by simp only [maxLen]; omega) (by omega) hbr2.size ?_; intro v3 w3 own3 hgr3)
              have ownP3 := hgr3.keep ownP2 hap
              have hap3 := hgr3.apart_l ownP2 hap
              have hbr3 := hbr2.trans (hgr3.below (own_ge ownG2) hbr2.size)
              clear ownP2 hgr3 ownG2 hap hbr2
              go_wp2_with fail
              go_roundw
              case rel =>
                refine ⟨j, P, G ++ [((i : Int), (j : Int) - 1)], by omega, rfl, by omega, by simp; omega, Lib.hid ?_, ownP3, ?_, hap3, hbr3⟩
                · have h1 := hsk.out
                  rw [hs0.out, Nat.add_zero] at h1
                  rw [hpar.out, hpa.out, h1, List.append_assoc]
                  have h2 : ((i + Det.skip (V.drop (i + 1)) : Nat) : Int) = (j : Int) - 1 := by omega
                  rw [h2]
                  rfl
                · rw [flat2_snoc]
                  simpa [cells2] using own3
              case measure => simp [intOf]; omega
      · obtain rfl : i = N := by omega
        have hfin := hpar.out
        rw [Det.parseAt_end V i (by rw [HN.out]; exact Nat.le_refl _)] at hfin
        simp only [List.append_nil] at hfin
        have hE3 := HE.out
        have hP3 := HP.out
        have hG3 := HG.out
        rw [hfin] at hE3 hP3 hG3
        simp only at hE3 hP3 hG3
        obtain ⟨A8, c8, rfl, _, _⟩ := own_form ownP
        by_cases hbig : 4096 < P.length
        · rw [if_pos hbig] at hE3
          rw [hE3, if_neg (by omega)] at hP3 hG3
          have HE3 := Lib.hid hE3
          have HP3 := Lib.hid hP3
          have HG3 := Lib.hid hG3
          clear hE3 hP3 hG3 hfin
          go_wp2_with fail
          go_ret3
          refine ⟨_, _, by rw [HE3.out]; rfl, ?_, ?_, below_step hb1 hbr⟩
          · rw [HP3.out]; exact World.ownsRow_nil _ _ _ _
          · rw [HG3.out]; exact World.ownsRow_nil _ _ _ _
        · rw [if_neg hbig] at hE3
          rw [hE3, if_pos rfl] at hP3 hG3
          have HE3 := Lib.hid hE3
          have HP3 := Lib.hid hP3
          have HG3 := Lib.hid hG3
          clear hE3 hP3 hG3 hfin
          go_wp2_with fail
          go_ret3
          refine ⟨_, _, by rw [HE3.out]; rfl, ?_, ?_, below_step hb1 hbr⟩
          · rw [HP3.out]; exact own_more ownP hb1.size
          · rw [HG3.out]; exact own_more ownG hb1.size
  · have hE2 : Det.decE b = Ham.unpE b := by rw [Det.decE, if_pos hE]
    have hP2 : Det.decP b = [] := by rw [Det.decP, if_neg (by rw [hE2]; exact hE)]
    have hG2 : Det.decG b = [] := by rw [Det.decG, if_neg (by rw [hE2]; exact hE)]
    have HE := Lib.hid hE2
    have HP := Lib.hid hP2
    have HG := Lib.hid hG2
    have hne : (Ham.unpE b != 0) = true := by simp; exact hE
    clear hE hE2 hP2 hG2
    generalize Ham.unpE b = ee at *
    go_wp2_with fail
    go_ret3
    refine ⟨_, _, by rw [HE.out]; rfl, ?_, ?_, hb1⟩
    · rw [HP.out]; exact World.ownsRow_nil _ _ _ _
    · rw [HG.out]; exact World.ownsRow_nil _ _ _ _
end Go.Proofs.YtocohkgdkebmdaaGreat
namespace Go.Proofs.YtocohkgdkebmdaaGreat
open Go.RowKit
namespace Det
end Det
theorem VR.new {w : World} {cs : Array Value} {t : TypeId} (l : List V3) (n : Nat) (hl : l.length = n) (h : cs.toList = flat3 l) (hm : n ≤ maxLen) : VR (w.alloc (.cells cs t)) (some ⟨w.heap.size, 0, none⟩) n l := by
  have hs : cs.size = n * 3 := by
    have := congrArg List.length h
    rw [flat3_len] at this
    simp at this
    omega
  have h2 := World.ownsRow_lit (base := 0) (e := t) (size := 3) w cs n (Nat.zero_le _) hm hs
  rw [h] at h2
  exact own_VR h2
end Go.Proofs.YtocohkgdkebmdaaGreat
namespace Go.Proofs.YtocohkgdkebmdaaGreat.Det
theorem vGo_weak : ∀ (l : List V3) (o : Option Int), vGo l o = 0 → vGo l none = 0 := by
  intro l o h
  cases l with
  | nil => rfl
  | cons p r =>
    by_cases hk : okP p = true
    · rw [vGo_ok o p r hk] at h
      rw [vGo_ok none p r hk, if_neg (by simp [early])]
      by_cases he : early o p.b = true
      · rw [if_pos he] at h; omega
      · rwa [if_neg he] at h
    · rw [vGo_bad o p r (by simpa using hk)] at h; omega
theorem vGo_cons {p : V3} {r : List V3} {o : Option Int} (h : vGo (p :: r) o = 0) : okP p = true ∧ early o p.b = false ∧ vGo r (some p.b) = 0 := by
  by_cases hk : okP p = true
  · rw [vGo_ok o p r hk] at h
    by_cases he : early o p.b = true
    · rw [if_pos he] at h; omega
    · rw [if_neg he] at h; exact ⟨hk, by simpa using he, h⟩
  · rw [vGo_bad o p r (by simpa using hk)] at h; omega
theorem vGo_drop : ∀ (k : Nat) (l : List V3), vGo l none = 0 → vGo (l.drop k) none = 0 := by
  intro k
  induction k with
  | zero => intro l h; exact h
  | succ k ih =>
    intro l h
    cases l with
    | nil => rfl
    | cons p r => exact ih r (vGo_weak r _ (vGo_cons h).2.2)
theorem pv_range {p : V3} (h : okP p = true) : 1024 ≤ pv p ∧ pv p < 1088 := by
  have := okP_all h
  unfold pv
  split <;> omega
theorem encP_range : ∀ (m : Nat) (t : Int) (l : List V3), vGo l (some t) = 0 → ∀ v ∈ encP t (l.take (run m t l)), 0 ≤ v ∧ v < 1088 := by
  intro m
  induction m with
  | zero => intro t l _ v hv; simp [run, encP] at hv
  | succ m ih =>
    intro t l h v hv
    cases l with
    | nil => simp [run, encP] at hv
    | cons p r =>
      obtain ⟨h1, h2, h3⟩ := vGo_cons h
      rw [run] at hv
      split at hv
      · rename_i hd
        rw [List.take_succ_cons, encP] at hv
        have := pv_range h1
        have h2' : t ≤ p.b := by simpa [early] using h2
        rcases List.mem_cons.1 hv with rfl | hv
        · omega
        · rcases List.mem_cons.1 hv with rfl | hv
          · omega
          · exact ih p.b r h3 v hv
      · simp [encP] at hv
theorem grp_range {l : List V3} (h : vGo l none = 0) : ∀ v ∈ grpVals (l.take (grp l)), 0 ≤ v ∧ v < 2048 := by
  intro v hv
  cases l with
  | nil => simp [grpVals, head4, encP, headT, grp] at hv; omega
  | cons p r =>
    obtain ⟨h1, _, h3⟩ := vGo_cons h
    have hg := grp_pos p r
    have ho := okP_all h1
    have hgr : grp (p :: r) = run 7 p.b r + 1 := rfl
    rw [grpVals] at hv
    have hlen : ((p :: r).take (grp (p :: r))).length = grp (p :: r) := by rw [List.length_take, List.length_cons]; omega
    have hhead : headT ((p :: r).take (grp (p :: r))) = p.b := by rw [hgr, List.take_succ_cons]; rfl
    rw [hlen, hhead] at hv
    rcases List.mem_append.1 hv with hv | hv
    · simp only [head4, List.mem_cons, List.not_mem_nil, or_false] at hv
      rcases hv with rfl | rfl | rfl | rfl <;> omega
    · rw [hgr, List.take_succ_cons, encP] at hv
      have := pv_range h1
      rcases List.mem_cons.1 hv with rfl | hv
      · omega
      · rcases List.mem_cons.1 hv with rfl | hv
        · omega
        · have := encP_range 7 p.b r h3 v hv
          omega
theorem vals_range : ∀ (n : Nat) (l : List V3), l.length ≤ n → vGo l none = 0 → ∀ v ∈ vals l, 0 ≤ v ∧ v < 2048 := by
  intro n
  induction n with
  | zero =>
    intro l hl _ v hv
    obtain rfl : l = [] := List.eq_nil_of_length_eq_zero (by omega)
    simp [vals, valsF] at hv
  | succ n ih =>
    intro l hl h v hv
    cases l with
    | nil => simp [vals, valsF] at hv
    | cons p r =>
      have hg := grp_pos p r
      rw [vals_cons] at hv
      rcases List.mem_append.1 hv with hv | hv
      · exact grp_range h v hv
      · exact ih _ (by simp only [List.length_drop, List.length_cons] at *; omega) (vGo_drop _ _ h) v hv
theorem vals_len : ∀ (n : Nat) (l : List V3), l.length ≤ n → ∃ G, (vals l).length = 4 * G + 2 * l.length ∧ G ≤ l.length ∧ (l.length + 7) / 8 ≤ G := by
  intro n
  induction n with
  | zero =>
    intro l hl
    obtain rfl : l = [] := List.eq_nil_of_length_eq_zero (by omega)
    exact ⟨0, rfl, by simp, by simp⟩
  | succ n ih =>
    intro l hl
    cases l with
    | nil => exact ⟨0, rfl, by simp, by simp⟩
    | cons p r =>
      have hg := grp_pos p r
      obtain ⟨G, h1, h2, h3⟩ := ih ((p :: r).drop (grp (p :: r))) (by simp only [List.length_drop, List.length_cons] at *; omega)
      refine ⟨G + 1, ?_, ?_, ?_⟩
      · rw [vals_cons, List.length_append, grpVals_len, h1, List.length_take, List.length_drop, List.length_cons]
        omega
      · simp only [List.length_drop, List.length_cons] at *; omega
      · simp only [List.length_drop, List.length_cons] at *; omega
theorem vErr_of {l : List V3} (h : vGo l none = 0) (hl : l.length ≤ 4096) : vErr l = 0 := by rw [vErr, if_neg (by omega)]; exact h
end Go.Proofs.YtocohkgdkebmdaaGreat.Det
namespace Go.Proofs.YtocohkgdkebmdaaGreat
open Go.RowKit
theorem encode_made (A : Option Addr) (n c : Nat) (l : List V3) (w : World) (hnc : n ≤ c) (hc : c ≤ maxLen) (h : VR w A n l) (hm : Det.vGo l none = 0) (hn4 : n ≤ 4096) :
    Calls Tryz.prog 8 #[.slice A n c] w fun e w' => ∃ v, e = .returned (.tuple #[v, .int .i64 0]) ∧ w'.ownsRow w.heap.size 5 1 v (2 * (Det.vals l).length) ((Ham.encB (Det.vals l)).map (Value.int .u8)) ∧ Below w.heap.size w w' := by
  have hl := h.len
  refine (dencode_c A n c l w hnc hc h (Det.vErr_of hm (by omega)) (Det.vals_range _ l (Nat.le_refl _) hm) (Det.vGo_valid l none hm) hn4).mono fun e w' ⟨v, h1, h2, h3⟩ => ⟨v, h1, ?_, h3⟩
  rwa [Ham.encB_len] at h2
end Go.Proofs.YtocohkgdkebmdaaGreat
