/- Slices of structs of two integers; append of one slice to a row of the call's own. -/
import Derived.Test.YtocohkgdkebmdaaGreatGenPulses
import Derived.Deep.RegionWith
import Derived.Test.YtocohkgdkebmdaaGreatDetPlain
import Derived.Test.YtocohkgdkebmdaaGreatHamW2
import Derived.Test.YtocohkgdkebmdaaGreatMem
namespace Go.Proofs.YtocohkgdkebmdaaGreat
open Go.RowKit
theorem mark_c (v : Int) (w : World) : Calls Tryz.prog 28 #[.int .i64 v] w fun e w' => e = .returned (.bool (Det.mark v)) ∧ w = w' := by
  go_enter Tryz.func28, Tryz.ntmps28
  go_wp2_with fail
  all_goals
    go_ret
    exact ⟨retb (by unfold Det.mark; simp; try omega), rfl⟩
theorem delta_c (v : Int) (w : World) : Calls Tryz.prog 48 #[.int .i64 v] w fun e w' => e = .returned (.bool (Det.small v)) ∧ w = w' := by
  go_enter Tryz.func48, Tryz.ntmps48
  go_wp2_with fail
  all_goals
    go_ret
    exact ⟨retb (by unfold Det.small; simp; try omega), rfl⟩
theorem join3 (x y z : Nat) (hx : x < 1024) (hy : y < 1024) (hz : z < 1024) :
    bits .or .i64 ((x : Int) * 1048576) ((y : Int) * 1024) = (x : Int) * 1048576 + (y : Int) * 1024 ∧ bits .or .i64 ((x : Int) * 1048576 + (y : Int) * 1024) (z : Int) = (x : Int) * 1048576 + (y : Int) * 1024 + (z : Int) := by
  constructor
  · rw [show ((x : Int) * 1048576) = ((x * 1048576 : Nat) : Int) by omega, show ((y : Int) * 1024) = ((y * 1024 : Nat) : Int) by omega, i64_or_nat _ _ (by omega) (by omega), nat_join 20 _ _ (by omega) (by omega)]
    omega
  · rw [show ((x : Int) * 1048576 + (y : Int) * 1024) = ((x * 1048576 + y * 1024 : Nat) : Int) by omega, i64_or_nat _ _ (by omega) (by omega), nat_join 10 _ _ (by omega) (by omega)]
    omega
/-- What read returns, as rd says. -/
def RdRes (w w' : World) (l : List Int) (e : Ending) : Prop :=
  (∃ v g k, Det.rd l = some (g, k) ∧ e = .returned (.tuple #[v, .int .i64 (k : Nat), .bool true]) ∧ w'.ownsRow w.heap.size 33 3 v g.length (flat3 g)) ∨
  (Det.rd l = none ∧ e = .returned (.tuple #[.slice none 0 0, .int .i64 0, .bool false]))
set_option maxHeartbeats 2000000 in
theorem read_c (A : Option Addr) (n c : Nat) (l : List Int) (w : World) (hn : n ≤ maxLen) (hn0 : 0 < n) (h : IR .i64 w A n l) (hr : ∀ v ∈ l, -1 ≤ v ∧ v < 2048) :
    Calls Tryz.prog 27 #[.slice A n c] w fun e w' => RdRes w w' l e ∧ Below w.heap.size w w' := by
  have hl := h.len
  unfold maxLen at hn
  obtain ⟨ad, rfl, hba, c0, ci⟩ := h.at0 hn0
  have h0 : -1 ≤ l.getD 0 0 ∧ l.getD 0 0 < 2048 := hr _ (getD_mem l 0 (by omega))
  by_cases hm : Det.mark (l.getD 0 0) = true
  · obtain ⟨b1, b2⟩ := Det.mark_bd hm
    obtain ⟨k, hk⟩ : ∃ k : Nat, l.getD 0 0 = 1536 + (k : Int) := ⟨(l.getD 0 0 - 1536).toNat, by omega⟩
    have hk1 : 1 ≤ k := by omega
    have hk8 : k ≤ 8 := by omega
    have hmk : Det.mark (1536 + (k : Int)) = true := by rw [← hk]; exact hm
    rw [hk] at c0
    have e0 : (1536 + (k : Int)) - 1536 = (k : Int) := by omega
    by_cases hlen : n < 4 + 2 * k
    · have hres := Lib.hid (Det.rd_short l (by rw [hk]; omega))
      have hd : decide ((n : Int) < 4 + 2 * (k : Int)) = true := by simp; omega
      clear hm ci h hr hk h0
      go_enter Tryz.func27, Tryz.ntmps27
      go_wp2_with (first | (go_at_call 28; refine (mark_c _ _).mono ?_; rintro e w1 ⟨rfl, rfl⟩) | (go_at_call 48; refine (delta_c _ _).mono ?_; rintro e w1 ⟨rfl, rfl⟩))
      go_ret3
      exact ⟨.inr ⟨hres.out, rfl⟩, Below.refl _ _⟩
    · have hn4 : 4 + 2 * k ≤ n := by omega
      have hd : decide ((n : Int) < 4 + 2 * (k : Int)) = false := by simp; omega
      have i1 : (1 : Int) < (n : Int) := by omega
      have i2 : (2 : Int) < (n : Int) := by omega
      have i3 : (3 : Int) < (n : Int) := by omega
      have c1 := ci 1 (by omega) (by omega)
      have c2 := ci 2 (by omega) (by omega)
      have c3 := ci 3 (by omega) (by omega)
      by_cases hsm : (Det.small (l.getD 1 0) && Det.small (l.getD 2 0) && Det.small (l.getD 3 0)) = true
      · simp only [Bool.and_eq_true] at hsm
        obtain ⟨⟨s1, s2⟩, s3⟩ := hsm
        have hat0 := Lib.hid (Det.rd_go l k hk hm (by omega) s1 s2 s3)
        have q1 := Det.small_bd s1
        have q2 := Det.small_bd s2
        have q3 := Det.small_bd s3
        have Hr := Lib.hid hr
        have Hir := Lib.hid h
        clear ci hr hk h0 hm h
        generalize l.getD 1 0 = x1 at *
        generalize l.getD 2 0 = x2 at *
        generalize l.getD 3 0 = x3 at *
        obtain ⟨x, rfl⟩ := Int.eq_ofNat_of_zero_le q1.1
        obtain ⟨y, rfl⟩ := Int.eq_ofNat_of_zero_le q2.1
        obtain ⟨z, rfl⟩ := Int.eq_ofNat_of_zero_le q3.1
        obtain ⟨j1, j2⟩ := join3 x y z (by omega) (by omega) (by omega)
        have u1 : IntKind.i64.wrap ((x : Int) * 1048576) = (x : Int) * 1048576 := IntWalk.i64_in _ ⟨by omega, by omega⟩
        have u2 : IntKind.i64.wrap ((y : Int) * 1024) = (y : Int) * 1024 := IntWalk.i64_in _ ⟨by omega, by omega⟩
        go_enter Tryz.func27, Tryz.ntmps27
        go_wp2_with (first | (go_at_call 28; refine (mark_c _ _).mono ?_; rintro e w1 ⟨rfl, rfl⟩) | (go_at_call 48; refine (delta_c _ _).mono ?_; rintro e w1 ⟨rfl, rfl⟩))
        go_quiet (fail)
        clear j1 j2 u1 u2 c1 c2 c3 c0
        go_wp2_with fail
        go_loopw [2, 3, 4, 5, 6, 7] (fun out nn ff tt ii _ wr => ∃ (i j : Nat) (t : Int) (g : List V3), i ≤ 4 + 2 * k ∧ Hid (i = 4 + 2 * j) ∧ j ≤ k ∧ ii = .int .i64 i ∧ tt = .int .i64 t ∧ nn = .int .i64 (4 + 2 * (k : Int)) ∧ ff = .bool false ∧ 0 ≤ t ∧ t ≤ 1073741823 ∧ g.length = j ∧ Det.At l k j t g ∧
          wr.ownsRow w.heap.size 33 3 out g.length (flat3 g) ∧ Below w.heap.size w wr) (fun _ _ _ _ ii _ _ => 12 + 2 * k - (intOf ii).toNat)
        case atStart => exact ⟨4, 0, _, [], by omega, Lib.hid rfl, by omega, rfl, rfl, rfl, rfl, by omega, by omega, rfl, by unfold Det.At; rw [hat0.out]; simp, World.ownsRow_nil _ _ _ _, below_drewN (Below.refl _ _) _⟩
        case round =>
          obtain ⟨i, j, t, g, hi, hij, hjk, rfl, rfl, rfl, rfl, ht0, ht1, hgj, hat, hown, hbr⟩ := hrel
          by_cases hlt : i < 4 + 2 * k
          · have hj : j < k := by have := hij.out; omega
            have hin : i + 1 < n := by have := hij.out; omega
            have hd1 : decide ((i : Int) < 4 + 2 * (k : Int)) = true := by simp; omega
            obtain ⟨ad1, hea, _, d1⟩ := Hir.out.at_ (i := i) (by omega)
            obtain rfl := Option.some.inj hea
            obtain ⟨ad2, hea2, _, d2⟩ := Hir.out.at_ (i := i + 1) (by omega)
            obtain rfl := Option.some.inj hea2
            have f1 := keep_cell hbr d1
            have f2' := keep_cell hbr d2
            have f2 : wr.cell? ⟨ad.block, ad.off + (i + 1), none⟩ = some (.int .i64 (l.getD (i + 1) 0)) := by simpa [Addr.add] using f2'
            have ra := Hr.out _ (getD_mem l i (by omega))
            have rb := Hr.out _ (getD_mem l (i + 1) (by omega))
            have hbad := Lib.hid (fun (hb : Det.okV (l.getD i 0) (l.getD (i + 1) 0) t = false) => hat.bad hj (by omega) (by rw [← hij.out]; exact hb))
            have hstep := Lib.hid (fun (hb : Det.okV (l.getD i 0) (l.getD (i + 1) 0) t = true) => hat.step hj (by omega) (by rw [← hij.out]; exact hb))
            have hstep2 := hstep
            rw [← hij.out] at hstep2
            clear hea hea2 d1 d2 f2' hat hstep
            generalize l.getD i 0 = a at *
            generalize l.getD (i + 1) 0 = d at *
            by_cases ha : 1024 ≤ a ∧ a < 1088 ∧ Det.small d = true
            · obtain ⟨ha1, ha2, hs⟩ := ha
              have hdb := Det.small_bd hs
              by_cases htd : t + d ≤ 1000000000
              · have hok : Det.okV a d t = true := by simp [Det.okV, hs]; omega
                have hnx := Lib.hid (hstep2.out hok)
                have e1 : (a - 1024).tmod 2 = (a - 1024) % 2 := Int.tmod_eq_emod_of_nonneg (by omega)
                have e2 : (a - 1024).tdiv 2 = (a - 1024) / 2 := Int.tdiv_eq_ediv_of_nonneg (by omega)
                clear hbad hstep2 hok
                go_wp2_with (first | (go_at_call 48; refine (delta_c _ _).mono ?_; rintro e w1 ⟨rfl, rfl⟩) | (at_builtin; refine wpList_push sl_pulse rfl (.tmp 91) (.tmp 100) rfl w.heap.size _ _ _ rfl hown 1 1 rfl rfl rfl (by simp only [maxLen]; omega) (by omega) hbr.size ?_; intro v6 w6 own6 hgr6))
                have hb6 := hbr.trans (hgr6.below (own_ge hown) hbr.size)
                go_roundw
                case rel =>
                  refine ⟨i + 2, j + 1, t + d, _, by have := hij.out; omega, Lib.hid (by have := hij.out; omega), by omega, by go_num, rfl, rfl, rfl, by omega, by omega, by simp; omega, hnx.out, ?_, hb6⟩
                  rw [flat3_snoc]
                  simpa [cells3] using own6
                case measure => simp [intOf]; omega
              · have hok : Det.okV a d t = false := by simp [Det.okV, hs]; omega
                have hres := Lib.hid (hbad.out hok)
                clear hbad hstep2 hok
                go_wp2_with (go_at_call 48; refine (delta_c _ _).mono ?_; rintro e w1 ⟨rfl, rfl⟩)
                go_ret3
                exact ⟨.inr ⟨hres.out, rfl⟩, hbr⟩
            · have hok : Det.okV a d t = false := by
                rw [Bool.eq_false_iff]
                intro e
                simp only [Det.okV, Bool.and_eq_true, decide_eq_true_eq] at e
                exact ha ⟨e.1.1.1, e.1.1.2, e.1.2⟩
              have hres := Lib.hid (hbad.out hok)
              clear hbad hstep2 hok
              by_cases ha1 : a < 1024
              · clear ha
                go_wp2_with (go_at_call 48; refine (delta_c _ _).mono ?_; rintro e w1 ⟨rfl, rfl⟩)
                go_ret3
                exact ⟨.inr ⟨hres.out, rfl⟩, hbr⟩
              · by_cases ha2 : 1088 ≤ a
                · clear ha
                  go_wp2_with (go_at_call 48; refine (delta_c _ _).mono ?_; rintro e w1 ⟨rfl, rfl⟩)
                  go_ret3
                  exact ⟨.inr ⟨hres.out, rfl⟩, hbr⟩
                · have hs : Det.small d = false := by
                    rw [Bool.eq_false_iff]
                    intro e
                    exact ha ⟨by omega, by omega, e⟩
                  clear ha
                  go_wp2_with (go_at_call 48; refine (delta_c _ _).mono ?_; rintro e w1 ⟨rfl, rfl⟩)
                  go_ret3
                  exact ⟨.inr ⟨hres.out, rfl⟩, hbr⟩
          · have hj : j = k := by have := hij.out; omega
            have hiv : (i : Int) = 4 + 2 * (k : Int) := by have := hij.out; omega
            subst hj
            have hdn := Lib.hid hat.done
            have hd1 : decide ((i : Int) < 4 + 2 * (j : Int)) = false := by simp; omega
            clear hiv
            go_wp2_with fail
            go_ret3
            exact ⟨.inl ⟨_, g, 4 + 2 * j, hdn.out, rfl, hown⟩, hbr⟩
      · have hres := Lib.hid (Det.rd_large l (by simpa using hsm))
        have hcase : Det.small (l.getD 1 0) = false ∨ (Det.small (l.getD 1 0) = true ∧ Det.small (l.getD 2 0) = false) ∨ (Det.small (l.getD 1 0) = true ∧ Det.small (l.getD 2 0) = true ∧ Det.small (l.getD 3 0) = false) := by
          cases h1 : Det.small (l.getD 1 0) <;> cases h2 : Det.small (l.getD 2 0) <;> cases h3 : Det.small (l.getD 3 0) <;> simp_all
        clear hm ci h hr hk h0 hsm
        generalize l.getD 1 0 = x1 at *
        generalize l.getD 2 0 = x2 at *
        generalize l.getD 3 0 = x3 at *
        rcases hcase with g1 | ⟨g1, g2⟩ | ⟨g1, g2, g3⟩
        all_goals
          go_enter Tryz.func27, Tryz.ntmps27
          go_wp2_with (first | (go_at_call 28; refine (mark_c _ _).mono ?_; rintro e w1 ⟨rfl, rfl⟩) | (go_at_call 48; refine (delta_c _ _).mono ?_; rintro e w1 ⟨rfl, rfl⟩))
          go_ret3
          exact ⟨.inr ⟨hres.out, rfl⟩, Below.refl _ _⟩
  · have hmf : Det.mark (l.getD 0 0) = false := by simpa using hm
    have hres := Lib.hid (Det.rd_no_mark l hmf)
    generalize l.getD 0 0 = x0 at *
    clear hm ci h hr
    go_enter Tryz.func27, Tryz.ntmps27
    go_wp2_with (go_at_call 28; refine (mark_c _ _).mono ?_; rintro e w1 ⟨rfl, rfl⟩)
    go_ret3
    exact ⟨.inr ⟨hres.out, rfl⟩, Below.refl _ _⟩
end Go.Proofs.YtocohkgdkebmdaaGreat
namespace Go.Proofs.YtocohkgdkebmdaaGreat.Det
theorem rdP_len : ∀ (k : Nat) (t : Int) (r : List Int) (g : List V3), rdP t k r = some g → g.length = k := by
  intro k
  induction k with
  | zero => intro t r g h; simp [rdP] at h; subst h; rfl
  | succ k ih =>
    intro t r g h
    match r, h with
    | [], h | [_], h => simp [rdP] at h
    | a :: d :: r, h =>
      rw [rdP] at h
      split at h
      · rcases hx : rdP (t + d) k r with _ | x
        · rw [hx] at h; simp at h
        · rw [hx] at h
          simp at h
          subst h
          simp [ih _ _ _ hx]
      · cases h
theorem rd_len {l : List Int} {g : List V3} {n : Nat} (h : rd l = some (g, n)) : n = 4 + 2 * g.length ∧ n ≤ l.length ∧ 1 ≤ g.length ∧ g.length ≤ 8 := by
  match l, h with
  | [], h | [_], h | [_, _], h | [_, _, _], h => simp [rd] at h
  | m :: x :: y :: z :: r, h =>
    rw [rd] at h
    split at h
    · rename_i hc
      simp only [Bool.and_eq_true, decide_eq_true_eq] at hc
      obtain ⟨⟨⟨⟨h1, h2⟩, _⟩, _⟩, _⟩ := hc
      obtain ⟨b1, b2⟩ := mark_bd h1
      rcases hx : rdP (x * 1048576 + y * 1024 + z) (m - 1536).toNat r with _ | q
      · rw [hx] at h; simp at h
      · rw [hx] at h
        simp at h
        obtain ⟨rfl, rfl⟩ := h
        have := rdP_len _ _ _ _ hx
        simp only [List.length_cons]
        omega
    · cases h
theorem skip_le (l : List Int) : skip l ≤ l.length := by
  induction l with
  | nil => simp [skip]
  | cons v r ih => unfold skip; split <;> simp <;> omega
theorem parseF_more : ∀ (f g at_ : Nat) (l : List Int), l.length ≤ f → l.length ≤ g → parseF f at_ l = parseF g at_ l := by
  intro f
  induction f with
  | zero =>
    intro g at_ l h _
    obtain rfl : l = [] := List.eq_nil_of_length_eq_zero (by omega)
    cases g <;> rfl
  | succ f ih =>
    intro g at_ l h hg
    cases l with
    | nil => cases g <;> rfl
    | cons v r =>
      cases g with
      | zero => simp at hg
      | succ g =>
        simp only [List.length_cons] at h hg
        rw [parseF, parseF]
        rcases hx : rd (v :: r) with _ | ⟨q, n⟩
        · simp only
          rw [ih g _ _ (by simp only [List.length_drop]; omega) (by simp only [List.length_drop]; omega)]
        · have := rd_len hx
          simp only
          rw [ih g _ _ (by simp only [List.length_drop, List.length_cons]; omega) (by simp only [List.length_drop, List.length_cons]; omega)]
/-- The parse from a place on. -/
def parseAt (V : List Int) (at_ : Nat) : List V3 × List (Int × Int) := parseF (V.length - at_) at_ (V.drop at_)
theorem parse_at0 (V : List Int) : parse V = parseAt V 0 := by simp [parse, parseAt]
theorem parseAt_end (V : List Int) (at_ : Nat) (h : V.length ≤ at_) : parseAt V at_ = ([], []) := by
  unfold parseAt
  rw [show V.length - at_ = 0 by omega]
  rfl
theorem parseAt_some (V : List Int) (at_ : Nat) (g : List V3) (n : Nat) (h : rd (V.drop at_) = some (g, n)) : parseAt V at_ = (g ++ (parseAt V (at_ + n)).1, (parseAt V (at_ + n)).2) := by
  have hl := rd_len h
  rw [List.length_drop] at hl
  unfold parseAt
  rw [show V.length - at_ = (V.length - at_ - 1) + 1 by omega]
  rcases hd : V.drop at_ with _ | ⟨v, r⟩
  · have := congrArg List.length hd; simp at this; omega
  · rw [hd] at h
    rw [parseF, h]
    simp only
    rw [← hd, List.drop_drop, parseF_more _ (V.length - (at_ + n)) _ _ (by simp only [List.length_drop]; omega) (by simp only [List.length_drop]; omega)]
theorem parseAt_none (V : List Int) (at_ : Nat) (ha : at_ < V.length) (h : rd (V.drop at_) = none) :
    parseAt V at_ = ((parseAt V (at_ + 1 + skip (V.drop (at_ + 1)))).1, ((at_ : Int), ((at_ + skip (V.drop (at_ + 1)) : Nat) : Int)) :: (parseAt V (at_ + 1 + skip (V.drop (at_ + 1)))).2) := by
  unfold parseAt
  rw [show V.length - at_ = (V.length - at_ - 1) + 1 by omega]
  rcases hd : V.drop at_ with _ | ⟨v, r⟩
  · have := congrArg List.length hd; simp at this; omega
  · have hr : V.drop (at_ + 1) = r := by
      rw [← List.drop_drop, hd]; rfl
    rw [hd] at h
    rw [parseF, h, hr]
    simp only
    have hs := skip_le r
    have hrl : r.length = V.length - (at_ + 1) := by rw [← hr, List.length_drop]
    rw [← hr, List.drop_drop, hr, parseF_more _ (V.length - (at_ + 1 + skip r)) _ _ (by simp only [List.length_drop]; omega) (by simp only [List.length_drop]; omega)]
theorem skip_stop (V : List Int) (i : Nat) (h : V.length ≤ i) : skip (V.drop i) = 0 := by rw [List.drop_eq_nil_of_le h]; rfl
theorem drop_one (V : List Int) (i : Nat) (h : i < V.length) : V.drop i = V.getD i 0 :: V.drop (i + 1) := by
  rw [List.drop_eq_getElem_cons h, List.getD_eq_getElem?_getD, List.getElem?_eq_getElem h]; rfl
theorem skip_mark (V : List Int) (i : Nat) (h : i < V.length) (hm : mark (V.getD i 0) = true) : skip (V.drop i) = 0 := by rw [drop_one V i h, skip, if_pos hm]
theorem skip_go (V : List Int) (i : Nat) (h : i < V.length) (hm : mark (V.getD i 0) = false) : skip (V.drop i) = skip (V.drop (i + 1)) + 1 := by rw [drop_one V i h, skip, if_neg (by rw [hm]; simp)]
/-- The values of Unpack are in their range. -/
theorem unpackV_range (b : List Int) : ∀ v ∈ Ham.unpackV b, -1 ≤ v ∧ v < 2048 := by
  intro v hv
  unfold Ham.unpackV at hv
  split at hv
  · obtain ⟨j, _, rfl⟩ := List.mem_map.1 hv
    unfold Ham.vAt
    have := Ham.decV_lt (Ham.wordAt b j)
    split <;> omega
  · simp at hv
theorem unpackV_len (b : List Int) : (Ham.unpackV b).length ≤ 65536 := by
  unfold Ham.unpackV
  split
  · rename_i h
    rw [Ham.unpV_len]
    unfold Ham.unpE at h
    split at h
    · omega
    · split at h <;> omega
  · simp
/- the results of Decode -/
def decE (b : List Int) : Int := if Ham.unpE b ≠ 0 then Ham.unpE b else if 4096 < (parse (Ham.unpackV b)).1.length then 3 else 0
def decP (b : List Int) : List V3 := if decE b = 0 then (parse (Ham.unpackV b)).1 else []
def decG (b : List Int) : List (Int × Int) := if decE b = 0 then (parse (Ham.unpackV b)).2 else []
end Go.Proofs.YtocohkgdkebmdaaGreat.Det
namespace Go.Proofs.YtocohkgdkebmdaaGreat
open Go.RowKit
def cells2 (p : Int × Int) : List Value := [.int .i64 p.1, .int .i64 p.2]
def flat2 (l : List (Int × Int)) : List Value := l.flatMap cells2
theorem flat2_snoc (l : List (Int × Int)) (p : Int × Int) : flat2 (l ++ [p]) = flat2 l ++ cells2 p := by simp [flat2]
theorem IR.cut {k : IntKind} {w : World} {ad : Addr} {n g cap : Nat} {l : List Int} (h : IR k w (some ad) n l) (hg : g < n) (hc : n ≤ cap) : IR k w (some (ad.add g)) (n - g) (l.drop g) := by
  have := Reads.cut h (k := g) (by omega) hc
  rw [if_neg (by omega), Nat.mul_one, ← List.map_drop] at this
  exact this
section
variable {P : Program}
theorem wpList_cat {w : World} {ops : Array Oper} {rest : List Oper} {o : Oper} {a : Act} {Q : Exit → Act → World → Prop} {t e : TypeId} {size bytes : Nat} (S : SlT P t e size bytes)
    (hgd : o.guard = none) (s x : Operand) (ho : o.op = .call { callee := .builtin .append, args := #[s, x], argTypes := #[t, t] })
    (B : Nat) (v : Value) (n : Nat) (xs : List Value) (hs : a.eval s = v) (hown : w.ownsRow B e size v n xs)
    (B2 : Nat) (A : Option Addr) (m c : Nat) (news : List Value) (hx : a.eval x = .slice A m c) (hr : Reads w B2 size A m news) (h1 : ∀ u ∈ news, u.oneCell' = true)
    (h63 : n + m ≤ maxLen) (hbytes : (n + m) * bytes ≤ 140737488355328) (hbase : B ≤ w.heap.size)
    (h : ∀ v' w', w'.ownsRow B e size v' (n + m) (xs ++ news) → Grew w v v' w' → wpList P ops Q rest (a.put o.dst v') w') : wpList P ops Q (o :: rest) a w := by
  obtain ⟨i, z, hi, hz, hsize, hby, hzs⟩ := S.info
  refine wpList_append_any w hgd s x t ho B e i z size bytes S.under hi hz hsize hby hzs S.pos v n xs hs hown B2 A m c news hx hr h1 h63 hbytes hbase fun v' w' h2 h3 h4 => h v' w' h2 ⟨h3, ?_⟩
  rcases h4 with h4 | h4
  · exact .inl h4
  · exact .inr ⟨_, h4, Nat.le_refl _⟩
end
end Go.Proofs.YtocohkgdkebmdaaGreat
