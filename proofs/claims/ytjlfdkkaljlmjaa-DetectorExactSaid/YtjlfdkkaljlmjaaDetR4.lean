/- The reference of layer 4: group. -/
import Derived.Test.YtjlfdkkaljlmjaaDetR3
import Derived.Test.YtjlfdkkaljlmjaaDetW3
namespace Go.Proofs.Ytjlfdkkaljlmjaa
open Go.RowKit
/-- What group returns, as rd says. -/
def GrRes (w w' : World) (l : List Int) (e : Ending) : Prop :=
  (∃ v g k, Det.rd l = some (g, k) ∧ e = .returned (.tuple #[v, .int .i64 (k : Nat)]) ∧ w'.ownsRow w.heap.size 41 3 v g.length (flat3 g)) ∨
  (Det.rd l = none ∧ e = .returned (.tuple #[.slice none 0 0, .int .i64 0]))
def GrI (w : World) (l : List Int) (k : Nat) (tt out jj : Value) (wr : World) : Prop := ∃ (j : Nat) (t : Int) (g : List V3), j ≤ k ∧ jj = .int .i64 j ∧ tt = .int .i64 t ∧ 0 ≤ t ∧ t ≤ 1073741823 ∧ g.length = j ∧ Det.At l k j t g ∧ wr.ownsRow w.heap.size 41 3 out g.length (flat3 g) ∧ Below w.heap.size w wr
set_option maxRecDepth 100000 in
set_option maxHeartbeats 4000000 in
theorem rgroup_c (A : Option Addr) (n c : Nat) (l : List Int) (w : World) (hn : n ≤ maxLen) (hn0 : 0 < n) (h : IR .i64 w A n l) (hr : ∀ v ∈ l, -1 ≤ v ∧ v < 2048) :
    Calls Try.prog 68 #[.slice A n c] w fun e w' => GrRes w w' l e ∧ Below w.heap.size w w' := by
  have hl := h.len
  unfold maxLen at hn
  obtain ⟨ad, rfl, hba, c0, ci⟩ := h.at0 hn0
  have h0 : -1 ≤ l.getD 0 0 ∧ l.getD 0 0 < 2048 := hr _ (getD_mem l 0 (by omega))
  have hn0' : ((n : Int) == 0) = false := by simp; omega
  by_cases hm : Det.mark (l.getD 0 0) = true
  · obtain ⟨b1, b2⟩ := Det.mark_bd hm
    obtain ⟨k, hk⟩ : ∃ k : Nat, l.getD 0 0 = 1536 + (k : Int) := ⟨(l.getD 0 0 - 1536).toNat, by omega⟩
    have hk1 : 1 ≤ k := by omega
    have hk8 : k ≤ 8 := by omega
    have hmk : Det.mark (1536 + (k : Int)) = true := by rw [← hk]; exact hm
    rw [hk] at c0
    have e0 : (1536 + (k : Int)) - 1536 = (k : Int) := by omega
    by_cases hlen : n < 4 + 2 * k
    · have hres := Lib.hid (Det.rd_short l (by rw [hk]; omega))
      have hd : decide ((n : Int) < 4 + 2 * (k : Int)) = true := by simp; omega
      clear hm ci h hr hk h0
      go_enter Try.func68, Try.ntmps68
      go_wp2_with (first | (go_at_call 69; refine (rmark_c _ _).mono ?_; rintro e w1 ⟨rfl, rfl⟩) | (go_at_call 76; refine (rsmall_c _ _).mono ?_; rintro e w1 ⟨rfl, rfl⟩))
      go_ret2
      exact ⟨.inr ⟨hres.out, rfl⟩, Below.refl _ _⟩
    · have hn4 : 4 + 2 * k ≤ n := by omega
      have hd : decide ((n : Int) < 4 + 2 * (k : Int)) = false := by simp; omega
      have i1 : (1 : Int) < (n : Int) := by omega
      have i2 : (2 : Int) < (n : Int) := by omega
      have i3 : (3 : Int) < (n : Int) := by omega
      have c1 := ci 1 (by omega) (by omega)
      have c2 := ci 2 (by omega) (by omega)
      have c3 := ci 3 (by omega) (by omega)
      by_cases hsm : (Det.small (l.getD 1 0) && Det.small (l.getD 2 0) && Det.small (l.getD 3 0)) = true
      · simp only [Bool.and_eq_true] at hsm
        obtain ⟨⟨s1, s2⟩, s3⟩ := hsm
        have hat0 := Lib.hid (Det.rd_go l k hk hm (by omega) s1 s2 s3)
        have q1 := Det.small_bd s1
        have q2 := Det.small_bd s2
        have q3 := Det.small_bd s3
        have Hr := Lib.hid hr
        have Hir := Lib.hid h
        clear ci hr hk h0 hm h
        generalize l.getD 1 0 = x at *
        generalize l.getD 2 0 = y at *
        generalize l.getD 3 0 = z at *
        have u1 : IntKind.i64.wrap (x * 1048576) = x * 1048576 := IntWalk.i64_in _ ⟨by omega, by omega⟩
        have u2 : IntKind.i64.wrap (y * 1024) = y * 1024 := IntWalk.i64_in _ ⟨by omega, by omega⟩
        have u3 : IntKind.i64.wrap (x * 1048576 + y * 1024) = x * 1048576 + y * 1024 := IntWalk.i64_in _ ⟨by omega, by omega⟩
        have u4 : IntKind.i64.wrap (x * 1048576 + y * 1024 + z) = x * 1048576 + y * 1024 + z := IntWalk.i64_in _ ⟨by omega, by omega⟩
        go_enter Try.func68, Try.ntmps68
        go_wp2_with (first | (go_at_call 69; refine (rmark_c _ _).mono ?_; rintro e w1 ⟨rfl, rfl⟩) | (go_at_call 76; refine (rsmall_c _ _).mono ?_; rintro e w1 ⟨rfl, rfl⟩))
        go_quiet (fail)
        clear u1 u2 u3 u4 c1 c2 c3 c0
        go_wp2_with fail
        go_loopw [5, 6, 7] (fun tt out jj wr => GrI w l k tt out jj wr) (fun _ _ jj _ => k - (intOf jj).toNat)
        case atStart => exact (show GrI _ _ _ _ _ _ _ from ⟨0, _, [], by omega, rfl, rfl, by omega, by omega, rfl, by unfold Det.At; rw [hat0.out]; simp, World.ownsRow_nil _ _ _ _, below_drewN (Below.refl _ _) _⟩)
        case round =>
          obtain ⟨j, t, g, hjk, rfl, rfl, ht0, ht1, hgj, hat, hown, hbr⟩ := hrel
          by_cases hj : j < k
          · obtain ⟨i, hi⟩ : ∃ i, 4 + 2 * j = i := ⟨_, rfl⟩
            have hi1 : (4 : Int) + 2 * (j : Int) = (i : Int) := by omega
            have hi2 : (5 : Int) + 2 * (j : Int) = ((i + 1 : Nat) : Int) := by omega
            have hiw : IntKind.i64.wrap (i : Int) = (i : Int) := IntWalk.i64_in _ ⟨by omega, by omega⟩
            have hiw2 : IntKind.i64.wrap ((i + 1 : Nat) : Int) = ((i + 1 : Nat) : Int) := IntWalk.i64_in _ ⟨by omega, by omega⟩
            have hjw : IntKind.i64.wrap (2 * (j : Int)) = 2 * (j : Int) := IntWalk.i64_in _ ⟨by omega, by omega⟩
            have hin : (i : Int) < (n : Int) := by omega
            have hin2 : ((i + 1 : Nat) : Int) < (n : Int) := by omega
            obtain ⟨ad1, hea, _, d1⟩ := Hir.out.at_ (i := i) (by omega)
            obtain rfl := Option.some.inj hea
            obtain ⟨ad2, hea2, _, d2⟩ := Hir.out.at_ (i := i + 1) (by omega)
            obtain rfl := Option.some.inj hea2
            have f1 := keep_cell hbr d1
            have f2' := keep_cell hbr d2
            have f2 : wr.cell? ⟨ad.block, ad.off + (i + 1), none⟩ = some (.int .i64 (l.getD (i + 1) 0)) := by simpa [Addr.add] using f2'
            have ra := Hr.out _ (getD_mem l i (by omega))
            have rb := Hr.out _ (getD_mem l (i + 1) (by omega))
            have hbad := Lib.hid (fun (hb : Det.okV (l.getD i 0) (l.getD (i + 1) 0) t = false) => hat.bad hj (by omega) (by rw [hi]; exact hb))
            have hstep := hat.step hj (by omega)
            rw [hi] at hstep
            have Hstep := Lib.hid hstep
            clear hea hea2 d1 d2 f2' hat hstep hi
            generalize l.getD i 0 = a at *
            generalize l.getD (i + 1) 0 = d at *
            by_cases ha : 1024 ≤ a ∧ a < 1088 ∧ Det.small d = true
            · obtain ⟨ha1, ha2, hs⟩ := ha
              have hdb := Det.small_bd hs
              by_cases htd : t + d ≤ 1000000000
              · have hok : Det.okV a d t = true := by simp [Det.okV, hs]; omega
                have hnx := Lib.hid (Hstep.out hok)
                have htf : decide (1000000000 < t + d) = false := by simp; omega
                have ha1d : decide (a < 1024) = false := by simp; omega
                have ha2d : decide (1087 < a) = false := by simp; omega
                have e1 : a.tmod 2 = (a - 1024) % 2 := by rw [Int.tmod_eq_emod_of_nonneg (by omega)]; omega
                have e1' : a % 2 = (a - 1024) % 2 := by omega
                have e2 : (a - 1024).tdiv 2 = (a - 1024) / 2 := Int.tdiv_eq_ediv_of_nonneg (by omega)
                clear hbad Hstep hok
                go_wp2_with fail
                go_quiet (fail)
                have hbq := below_drewN hbr nq
                have ownq := own_below hown (below_drewN (Below.refl _ _) nq)
                generalize wr.drewN nq = wq at hbq ownq ⊢
                clear f1 f2 hown hbr hi1 hi2 hiw hiw2 hjw
                go_wp2_with (first | (go_at_call 76; refine (rsmall_c _ _).mono ?_; rintro e w1 ⟨rfl, rfl⟩) | (at_builtin; refine wpList_push sl_pulse rfl (.tmp 99) (.tmp 109) rfl w.heap.size _ _ _ rfl ownq 1 1 rfl rfl rfl (by simp only [maxLen]; omega) (by omega) hbq.size ?_; intro v6 w6 own6 hgr6))
                have hb6 := hbq.trans (hgr6.below (own_ge ownq) hbq.size)
                go_roundw
                case rel =>
                  refine (show GrI _ _ _ _ _ _ _ from ⟨j + 1, t + d, _, by omega, by go_num, rfl, by omega, by omega, by simp; omega, hnx.out, ?_, hb6⟩)
                  rw [flat3_snoc]
                  simpa [cells3] using own6
                case measure => simp [intOf]; omega
              · have hok : Det.okV a d t = false := by simp [Det.okV, hs]; omega
                have hres := Lib.hid (hbad.out hok)
                have htf : decide (1000000000 < t + d) = true := by simp; omega
                have ha1d : decide (a < 1024) = false := by simp; omega
                have ha2d : decide (1087 < a) = false := by simp; omega
                clear hbad Hstep hok
                go_wp2_with fail
                go_quiet (fail)
                have hbq := below_drewN hbr nq
                have ownq := own_below hown (below_drewN (Below.refl _ _) nq)
                generalize wr.drewN nq = wq at hbq ownq ⊢
                clear f1 f2 hown hbr hi1 hi2 hiw hiw2 hjw
                go_wp2_with (go_at_call 76; refine (rsmall_c _ _).mono ?_; rintro e w1 ⟨rfl, rfl⟩)
                go_ret2
                exact ⟨.inr ⟨hres.out, rfl⟩, hbq⟩
            · have hok : Det.okV a d t = false := by
                rw [Bool.eq_false_iff]
                intro e
                simp only [Det.okV, Bool.and_eq_true, decide_eq_true_eq] at e
                exact ha ⟨e.1.1.1, e.1.1.2, e.1.2⟩
              have hres := Lib.hid (hbad.out hok)
              clear hbad Hstep hok
              by_cases ha1 : a < 1024
              · have ha1d : decide (a < 1024) = true := by simp; omega
                clear ha
                go_wp2_with fail
                go_quiet (fail)
                have hbq := below_drewN hbr nq
                have ownq := own_below hown (below_drewN (Below.refl _ _) nq)
                generalize wr.drewN nq = wq at hbq ownq ⊢
                clear f1 f2 hown hbr hi1 hi2 hiw hiw2 hjw
                go_wp2_with (go_at_call 76; refine (rsmall_c _ _).mono ?_; rintro e w1 ⟨rfl, rfl⟩)
                go_ret2
                exact ⟨.inr ⟨hres.out, rfl⟩, hbq⟩
              · have ha1d : decide (a < 1024) = false := by simp; omega
                by_cases ha2 : 1088 ≤ a
                · have ha2d : decide (1087 < a) = true := by simp; omega
                  clear ha
                  go_wp2_with fail
                  go_quiet (fail)
                  have hbq := below_drewN hbr nq
                  have ownq := own_below hown (below_drewN (Below.refl _ _) nq)
                  generalize wr.drewN nq = wq at hbq ownq ⊢
                  clear f1 f2 hown hbr hi1 hi2 hiw hiw2 hjw
                  go_wp2_with (go_at_call 76; refine (rsmall_c _ _).mono ?_; rintro e w1 ⟨rfl, rfl⟩)
                  go_ret2
                  exact ⟨.inr ⟨hres.out, rfl⟩, hbq⟩
                · have ha2d : decide (1087 < a) = false := by simp; omega
                  have hs : Det.small d = false := by
                    rw [Bool.eq_false_iff]
                    intro e
                    exact ha ⟨by omega, by omega, e⟩
                  clear ha
                  go_wp2_with fail
                  go_quiet (fail)
                  have hbq := below_drewN hbr nq
                  have ownq := own_below hown (below_drewN (Below.refl _ _) nq)
                  generalize wr.drewN nq = wq at hbq ownq ⊢
                  clear f1 f2 hown hbr hi1 hi2 hiw hiw2 hjw
                  go_wp2_with (go_at_call 76; refine (rsmall_c _ _).mono ?_; rintro e w1 ⟨rfl, rfl⟩)
                  go_ret2
                  exact ⟨.inr ⟨hres.out, rfl⟩, hbq⟩
          · obtain rfl : j = k := by omega
            have hdn := Lib.hid hat.done
            have hd1 : decide ((j : Int) < (j : Int)) = false := by simp
            go_wp2_with fail
            go_ret2
            exact ⟨.inl ⟨_, g, 4 + 2 * j, hdn.out, rfl, hown⟩, hbr⟩
      · have hres := Lib.hid (Det.rd_large l (by simpa using hsm))
        have hcase : Det.small (l.getD 1 0) = false ∨ (Det.small (l.getD 1 0) = true ∧ Det.small (l.getD 2 0) = false) ∨ (Det.small (l.getD 1 0) = true ∧ Det.small (l.getD 2 0) = true ∧ Det.small (l.getD 3 0) = false) := by
          cases h1 : Det.small (l.getD 1 0) <;> cases h2 : Det.small (l.getD 2 0) <;> cases h3 : Det.small (l.getD 3 0) <;> simp_all
        clear hm ci h hr hk h0 hsm
        generalize l.getD 1 0 = x1 at *
        generalize l.getD 2 0 = x2 at *
        generalize l.getD 3 0 = x3 at *
        rcases hcase with g1 | ⟨g1, g2⟩ | ⟨g1, g2, g3⟩
        all_goals
          go_enter Try.func68, Try.ntmps68
          go_wp2_with (first | (go_at_call 69; refine (rmark_c _ _).mono ?_; rintro e w1 ⟨rfl, rfl⟩) | (go_at_call 76; refine (rsmall_c _ _).mono ?_; rintro e w1 ⟨rfl, rfl⟩))
          go_ret2
          exact ⟨.inr ⟨hres.out, rfl⟩, Below.refl _ _⟩
  · have hm' : Det.mark (l.getD 0 0) = false := by simpa using hm
    have hres := Lib.hid (Det.rd_no_mark l hm')
    clear hm ci h hr h0
    generalize l.getD 0 0 = x at *
    go_enter Try.func68, Try.ntmps68
    go_wp2_with (first | (go_at_call 69; refine (rmark_c _ _).mono ?_; rintro e w1 ⟨rfl, rfl⟩))
    go_ret2
    exact ⟨.inr ⟨hres.out, rfl⟩, Below.refl _ _⟩
end Go.Proofs.Ytjlfdkkaljlmjaa
