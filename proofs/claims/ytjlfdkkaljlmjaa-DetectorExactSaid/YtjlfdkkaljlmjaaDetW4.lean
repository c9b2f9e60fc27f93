/- The walk of layer 4's Decode (program). -/
import Derived.Test.YtjlfdkkaljlmjaaDetW3
import Derived.Test.YtjlfdkkaljlmjaaDetParse
import Derived.Test.YtjlfdkkaljlmjaaV2
namespace Go.Proofs.Ytjlfdkkaljlmjaa
open Go.RowKit
theorem sl_iv : SlT Try.prog 53 67 2 16 := slT_of (z := .agg #[.int .i64 0, .int .i64 0]) Try.underlying53 (by kernel_rfl) rfl (by omega)
theorem one_flat3 (l : List V3) : ∀ u ∈ flat3 l, u.oneCell' = true := by
  intro u hu
  obtain ⟨p, _, hp⟩ := List.mem_flatMap.1 hu
  simp only [cells3, List.mem_cons, List.not_mem_nil, or_false] at hp
  rcases hp with rfl | rfl | rfl <;> rfl
set_option maxRecDepth 100000 in
set_option maxHeartbeats 4000000 in
theorem ddecode_c (A : Option Addr) (n c : Nat) (b : List Int) (w : World) (hn : n ≤ maxLen) (h : IR .u8 w A n b) (hr : ∀ x ∈ b, 0 ≤ x ∧ x < 256) :
    Calls Try.prog 33 #[.slice A n c] w fun e w' => ∃ v u, e = .returned (.tuple #[v, u, .int .i64 (Det.decE b)]) ∧ w'.ownsRow w.heap.size 41 3 v (Det.decP b).length (flat3 (Det.decP b)) ∧
      w'.ownsRow w.heap.size 67 2 u (Det.decG b).length (flat2 (Det.decG b)) ∧ Below w.heap.size w w' := by
  go_enter Try.func33, Try.ntmps33
  go_wp2_with fail
  refine (unpack_c A n c b _ hn h hr).mono ?_
  rintro e w1 ⟨v1, u1, rfl, own1, _, _, hb1⟩
  have hVr := Lib.hid (Det.unpackV_range b)
  have hVl := Det.unpackV_len b
  by_cases hE : Ham.unpE b = 0
  · have hE2 : Det.decE b = if 4096 < (Det.parse (Ham.unpackV b)).1.length then 3 else 0 := by rw [Det.decE, if_neg (by omega)]
    have hP2 : Det.decP b = if Det.decE b = 0 then (Det.parse (Ham.unpackV b)).1 else [] := rfl
    have hG2 : Det.decG b = if Det.decE b = 0 then (Det.parse (Ham.unpackV b)).2 else [] := rfl
    have HE := Lib.hid hE2
    have HP := Lib.hid hP2
    have HG := Lib.hid hG2
    rw [hE]
    clear hE hE2 hP2 hG2
    generalize Ham.unpackV b = V at *
    obtain ⟨N, hN⟩ : ∃ N, V.length = N := ⟨_, rfl⟩
    rw [hN] at own1 hVl
    have HN := Lib.hid hN
    clear hN
    obtain ⟨A5, c5, rfl, l5, l5'⟩ := own_form own1
    have l5m := l5'
    unfold maxLen at l5m
    have hir := own_IR own1
    go_wp2_with fail
    go_loopw [8, 9, 10, 11, 12, 13, 14] (fun pv gv at_ _ _ _ _ wr => ∃ (i : Nat) (P : List V3) (G : List (Int × Int)), i ≤ N ∧ at_ = .int .i64 i ∧ P.length ≤ i ∧ G.length ≤ i ∧
      Hid (Det.parse V = (P ++ (Det.parseAt V i).1, G ++ (Det.parseAt V i).2)) ∧ wr.ownsRow w1.heap.size 41 3 pv P.length (flat3 P) ∧ wr.ownsRow w1.heap.size 67 2 gv G.length (flat2 G) ∧ apart pv gv ∧ Below w1.heap.size w1 wr) (fun _ _ at_ _ _ _ _ _ => N - (intOf at_).toNat)
    case atStart => exact ⟨0, [], [], by omega, rfl, by simp, by simp, Lib.hid (by rw [Det.parse_at0]; simp), World.ownsRow_nil _ _ _ _, World.ownsRow_nil _ _ _ _, .inl rfl, Below.refl _ _⟩
    case round =>
      obtain ⟨i, P, G, hi, rfl, hPl, hGl, hpar, ownP, ownG, hap, hbr⟩ := hrel
      by_cases hlt : i < N
      · obtain ⟨ad, rfl, hba, hci⟩ := hir.at_ hlt
        have hcut := (hir.cut hlt l5).below hbr
        have hdr : ∀ v ∈ V.drop i, -1 ≤ v ∧ v < 2048 := fun v hv => hVr.out v (List.mem_of_mem_drop hv)
        have hrc := Lib.hid (read_c (some (ad.add i)) (N - i) (c5 - i) (V.drop i) wr (by simp only [maxLen]; omega) (by omega) hcut hdr)
        have hne : ¬ c5 = i := by omega
        clear hcut hdr
        go_wp2_with fail
        refine (hrc.out).mono ?_
        rintro e w2 ⟨hres, hb2⟩
        have ownP2 := own_below ownP hb2
        have ownG2 := own_below ownG hb2
        have hbr2 := below_step hbr hb2
        have hNl := HN.out
        have Hdl := Lib.hid (show (V.drop i).length = N - i by rw [List.length_drop, hNl])
        clear ownP ownG hbr hb2 hne hrc hci hNl
        rcases hres with ⟨v, g, k, hrd, rfl, hown2⟩ | ⟨hrd, rfl⟩
        · obtain ⟨q1, q2, q3, q4⟩ := Det.rd_len hrd
          rw [Hdl.out] at q2
          have hpa := Lib.hid (Det.parseAt_some V i g k hrd)
          have Hq1 := Lib.hid q1
          have q5 : g.length ≤ k := by omega
          have q6 : 1 ≤ k := by omega
          clear hrd q1
          obtain ⟨A', c', rfl, _, _⟩ := own_form hown2
          go_wp2_with (at_builtin; refine wpList_cat sl_pulse rfl (.tmp 37) (.tmp 38) rfl w1.heap.size _ P.length (flat3 P) rfl ownP2 w2.heap.size A' g.length c' (flat3 g) rfl (Reads.of_own hown2) (one_flat3 g) (by simp only [maxLen]; omega) (by omega) hbr2.size ?_; intro v3 w3 own3 hgr3)
          have ownG3 := hgr3.keep ownG2 hap.symm
          have hap3 := (hgr3.apart_l ownG2 hap.symm).symm
          have hbr3 := hbr2.trans (hgr3.below (own_ge ownP2) hbr2.size)
          clear ownP2 hgr3 ownG2 hap hbr2 hown2
          go_wp2_with fail
          go_roundw
          case rel =>
            refine ⟨i + k, P ++ g, G, by omega, by go_num, by rw [List.length_append]; omega, by omega, Lib.hid ?_, ?_, ownG3, hap3, hbr3⟩
            · rw [hpar.out, hpa.out, List.append_assoc]
            · rw [flat3_append, List.length_append]; exact own3
          case measure => simp [intOf]; omega
        · have hpa := Lib.hid (Det.parseAt_none V i (by rw [HN.out]; exact hlt) hrd)
          clear hrd
          go_wp2_with fail
          go_loop [10] (fun at_ => ∃ j : Nat, i + 1 ≤ j ∧ j ≤ N ∧ at_ = .int .i64 j ∧ Hid (i + 1 + Det.skip (V.drop (i + 1)) = j + Det.skip (V.drop j))) (fun at_ => N - (intOf at_).toNat)
          case atStart => exact ⟨i + 1, by omega, by omega, by go_num, Lib.hid rfl⟩
          case round =>
            obtain ⟨j, hij, hjN, rfl, hsk⟩ := hrel
            by_cases hjl : j < N
            · obtain ⟨ad2, hea, _, hcj⟩ := hir.at_ hjl
              obtain rfl := Option.some.inj hea
              have hcj2 := keep_cell hbr2 hcj
              have hB1 : decide ((j : Int) < (N : Int)) = true := by simp; omega
              have hB2 : decide (j < N) = true := by simp; omega
              by_cases hmk : Det.mark (V.getD j 0) = true
              · have hs0 := Lib.hid (Det.skip_mark V j (by rw [HN.out]; exact hjl) hmk)
                clear hea hcj
                generalize V.getD j 0 = y at hcj2 hmk
                go_wp2_with (first | (go_at_call 55; refine (mark_c _ _).mono ?_; rintro e w9 ⟨rfl, rfl⟩) | (at_builtin; refine wpList_push sl_iv rfl (.tmp 60) (.tmp 65) rfl w1.heap.size _ _ _ rfl ownG2 1 1 rfl rfl rfl (by simp only [maxLen]; omega) (by omega) hbr2.size ?_; intro v3 w3 own3 hgr3))
                have ownP3 := hgr3.keep ownP2 hap
                have hap3 := hgr3.apart_l ownP2 hap
                have hbr3 := hbr2.trans (hgr3.below (own_ge ownG2) hbr2.size)
                clear ownP2 hgr3 ownG2 hap hbr2
                go_wp2_with fail
                go_roundw
                case rel =>
                  refine ⟨j, P, G ++ [((i : Int), (j : Int) - 1)], by omega, rfl, by omega, by simp; omega, Lib.hid ?_, ownP3, ?_, hap3, hbr3⟩
                  · have h1 := hsk.out
                    rw [hs0.out, Nat.add_zero] at h1
                    rw [hpar.out, hpa.out, h1, List.append_assoc]
                    have h2 : ((i + Det.skip (V.drop (i + 1)) : Nat) : Int) = (j : Int) - 1 := by omega
                    rw [h2]
                    rfl
                  · rw [flat2_snoc]
                    simpa [cells2] using own3
                case measure => simp [intOf]; omega
              · have hmf : Det.mark (V.getD j 0) = false := by simpa using hmk
                have hs0 := Lib.hid (Det.skip_go V j (by rw [HN.out]; exact hjl) hmf)
                clear hea hcj hmk
                generalize V.getD j 0 = y at hcj2 hmf
                go_wp2_with (go_at_call 55; refine (mark_c _ _).mono ?_; rintro e w9 ⟨rfl, rfl⟩)
                go_round
                case rel => exact ⟨j + 1, by omega, by omega, by go_num, Lib.hid (by rw [hsk.out, hs0.out]; omega)⟩
                case measure => simp [intOf]; omega
            · obtain rfl : j = N := by omega
              have hs0 := Lib.hid (Det.skip_stop V j (by rw [HN.out]; exact Nat.le_refl _))
              have hB1 : decide ((j : Int) < (j : Int)) = false := by simp
              go_wp2_with (at_builtin; refine wpList_push sl_iv rfl (.tmp 60) (.tmp 65) rfl w1.heap.size _ _ _ rfl ownG2 1 1 rfl rfl rfl (by simp only [maxLen]; omega) (by omega) hbr2.size ?_; intro v3 w3 own3 hgr3)
              have ownP3 := hgr3.keep ownP2 hap
              have hap3 := hgr3.apart_l ownP2 hap
              have hbr3 := hbr2.trans (hgr3.below (own_ge ownG2) hbr2.size)
              clear ownP2 hgr3 ownG2 hap hbr2
              go_wp2_with fail
              go_roundw
              case rel =>
                refine ⟨j, P, G ++ [((i : Int), (j : Int) - 1)], by omega, rfl, by omega, by simp; omega, Lib.hid ?_, ownP3, ?_, hap3, hbr3⟩
                · have h1 := hsk.out
                  rw [hs0.out, Nat.add_zero] at h1
                  rw [hpar.out, hpa.out, h1, List.append_assoc]
                  have h2 : ((i + Det.skip (V.drop (i + 1)) : Nat) : Int) = (j : Int) - 1 := by omega
                  rw [h2]
                  rfl
                · rw [flat2_snoc]
                  simpa [cells2] using own3
              case measure => simp [intOf]; omega
      · obtain rfl : i = N := by omega
        have hfin := hpar.out
        rw [Det.parseAt_end V i (by rw [HN.out]; exact Nat.le_refl _)] at hfin
        simp only [List.append_nil] at hfin
        have hE3 := HE.out
        have hP3 := HP.out
        have hG3 := HG.out
        rw [hfin] at hE3 hP3 hG3
        simp only at hE3 hP3 hG3
        obtain ⟨A8, c8, rfl, _, _⟩ := own_form ownP
        by_cases hbig : 4096 < P.length
        · rw [if_pos hbig] at hE3
          rw [hE3, if_neg (by omega)] at hP3 hG3
          have HE3 := Lib.hid hE3
          have HP3 := Lib.hid hP3
          have HG3 := Lib.hid hG3
          clear hE3 hP3 hG3 hfin
          go_wp2_with fail
          go_ret3
          refine ⟨_, _, by rw [HE3.out]; rfl, ?_, ?_, below_step hb1 hbr⟩
          · rw [HP3.out]; exact World.ownsRow_nil _ _ _ _
          · rw [HG3.out]; exact World.ownsRow_nil _ _ _ _
        · rw [if_neg hbig] at hE3
          rw [hE3, if_pos rfl] at hP3 hG3
          have HE3 := Lib.hid hE3
          have HP3 := Lib.hid hP3
          have HG3 := Lib.hid hG3
          clear hE3 hP3 hG3 hfin
          go_wp2_with fail
          go_ret3
          refine ⟨_, _, by rw [HE3.out]; rfl, ?_, ?_, below_step hb1 hbr⟩
          · rw [HP3.out]; exact own_more ownP hb1.size
          · rw [HG3.out]; exact own_more ownG hb1.size
  · have hE2 : Det.decE b = Ham.unpE b := by rw [Det.decE, if_pos hE]
    have hP2 : Det.decP b = [] := by rw [Det.decP, if_neg (by rw [hE2]; exact hE)]
    have hG2 : Det.decG b = [] := by rw [Det.decG, if_neg (by rw [hE2]; exact hE)]
    have HE := Lib.hid hE2
    have HP := Lib.hid hP2
    have HG := Lib.hid hG2
    have hne : (Ham.unpE b != 0) = true := by simp; exact hE
    clear hE hE2 hP2 hG2
    generalize Ham.unpE b = ee at *
    go_wp2_with fail
    go_ret3
    refine ⟨_, _, by rw [HE.out]; rfl, ?_, ?_, hb1⟩
    · rw [HP.out]; exact World.ownsRow_nil _ _ _ _
    · rw [HG.out]; exact World.ownsRow_nil _ _ _ _
end Go.Proofs.Ytjlfdkkaljlmjaa
