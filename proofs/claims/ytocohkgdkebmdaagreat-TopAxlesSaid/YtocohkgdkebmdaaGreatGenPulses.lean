/- (*Maker).Pulses: a valid list of at most n pulses, some. -/
import Derived.Test.YtocohkgdkebmdaaGreatHamPlain
import Derived.Test.YtocohkgdkebmdaaGreatHamW4
import Derived.Test.YtocohkgdkebmdaaGreatMem
import Derived.Test.YtocohkgdkebmdaaGreatTlMach
import Derived.Test.YtocohkgdkebmdaaGreatV3
namespace Go.Proofs.YtocohkgdkebmdaaGreat
open Go.RowKit
namespace Det
/-- At m pulses of the group, the rest to come. -/
def Grow (l : List V3) (m : Nat) : Prop := ∃ p, l[m - 1]? = some p ∧ grp l = m + run (8 - m) p.b (l.drop m)
theorem Grow.one (p : V3) (r : List V3) : Grow (p :: r) 1 := ⟨p, rfl, by simp [grp]; omega⟩
theorem Grow.stop {l : List V3} {m : Nat} (h : Grow l m) (hm : l.length ≤ m ∨ 8 ≤ m) : grp l = m := by
  obtain ⟨p, _, h⟩ := h
  rw [h]
  rcases hm with hm | hm
  · rw [List.drop_eq_nil_of_le hm]
    cases 8 - m <;> rfl
  · rw [show 8 - m = 0 by omega]; rfl
theorem Grow.far {l : List V3} {m : Nat} {p q : V3} (h : Grow l m) (hq : l[m - 1]? = some q) (hp : l[m]? = some p) (hf : 1023 < p.b - q.b) : grp l = m := by
  obtain ⟨q', hq', h⟩ := h
  obtain rfl := Option.some.inj (hq.symm.trans hq')
  rw [h, drop_cons hp]
  cases 8 - m with
  | zero => rfl
  | succ k => rw [run, if_neg (by omega)]; rfl
theorem Grow.step {l : List V3} {m : Nat} {p q : V3} (h : Grow l m) (hm8 : m < 8) (hq : l[m - 1]? = some q) (hp : l[m]? = some p) (hf : p.b - q.b ≤ 1023) : Grow l (m + 1) := by
  obtain ⟨q', hq', h⟩ := h
  obtain rfl := Option.some.inj (hq.symm.trans hq')
  refine ⟨p, hp, ?_⟩
  rw [h, drop_cons hp, show 8 - m = (8 - (m + 1)) + 1 by omega, run, if_pos hf]
  omega
end Det
set_option maxHeartbeats 1000000 in
theorem group_c (A : Option Addr) (n c : Nat) (l : List V3) (w : World) (hn : n ≤ maxLen) (hn0 : 0 < n) (h : VR w A n l) (ht : ∀ p ∈ l, 0 ≤ p.b ∧ p.b ≤ 1000000000) :
    Calls Tryz.prog 24 #[.slice A n c] w fun e w' => e = .returned (.int .i64 (Det.grp l : Nat)) ∧ Below w.heap.size w w' := by
  have hl := h.len
  unfold maxLen at hn
  have hg1 : Det.Grow l 1 := by
    cases l with
    | nil => simp at hl; omega
    | cons p r => exact Det.Grow.one p r
  have HT := Lib.hid ht
  clear ht
  go_enter Tryz.func24, Tryz.ntmps24
  go_wp2_with fail
  go_loopw [3] (fun p wr => ∃ m : Nat, 1 ≤ m ∧ m ≤ n ∧ m ≤ 8 ∧ p = .int .i64 m ∧ Det.Grow l m ∧ Below w.heap.size w wr) (fun p _ => 8 - (intOf p).toNat)
  case atStart => exact ⟨1, by omega, by omega, by omega, rfl, hg1, Below.refl _ _⟩
  case round =>
    obtain ⟨m, hm1, hmn, hm8, rfl, hg, hbr⟩ := hrel
    by_cases hlt : m < n
    · by_cases h8 : m < 8
      · obtain ⟨j, hj⟩ : ∃ j, m = j + 1 := ⟨m - 1, by omega⟩
        obtain ⟨ad, p, rfl, hba, hp, _, c2, _⟩ := h.at_ hlt
        obtain ⟨ad', q, hea, _, hq, _, g2, _⟩ := h.at_ (i := j) (by omega)
        obtain rfl := Option.some.inj hea
        have f2 := keep_cell hbr c2
        have f3 := keep_cell hbr g2
        have hq' : l[m - 1]? = some q := by rw [hj]; exact hq
        have tp := HT.out p (List.mem_of_getElem? hp)
        have tq := HT.out q (List.mem_of_getElem? hq)
        have hfar := Lib.hid (fun hf => hg.far hq' hp hf)
        have hstep := Lib.hid (fun hf => hg.step h8 hq' hp hf)
        have hB1 : decide ((m : Int) < (n : Int)) = true := by simp; omega
        have hB2 : decide (m < n) = true := by simp; omega
        have hB3 : decide ((m : Int) < 8) = true := by simp; omega
        have hkj : (m : Int) - 1 = (j : Int) := by omega
        have hkw : IntKind.i64.wrap (j : Int) = (j : Int) := IntWalk.i64_in _ ⟨by omega, by omega⟩
        have hjn : (j : Int) < (n : Int) := by omega
        clear hea hq g2 c2 hp hq' hj hg
        generalize p.b = pb at *
        generalize q.b = qb at *
        have hsw : IntKind.i64.wrap (pb - qb) = pb - qb := IntWalk.i64_in _ ⟨by omega, by omega⟩
        by_cases hf : pb - qb ≤ 1023
        · have hg' := hstep.out hf
          have hB4 : decide (pb - qb ≤ 1023) = true := by simp; omega
          clear hfar hstep
          go_wp2_with fail
          go_quiet (fail)
          go_wp2_with fail
          go_roundw
          case rel => exact ⟨m + 1, by omega, by omega, by omega, by go_num, hg', below_drewN hbr _⟩
          case measure => simp [intOf]; omega
        · have hg' := Lib.hid (hfar.out (by omega))
          have hB4 : decide (pb - qb ≤ 1023) = false := by simp; omega
          clear hfar hstep
          go_wp2_with fail
          go_quiet (fail)
          go_wp2_with fail
          go_ret
          exact ⟨retv (by rw [hg'.out]), below_drewN hbr _⟩
      · have hg' := Lib.hid (hg.stop (.inr (by omega)))
        have hB1 : decide ((m : Int) < (n : Int)) = true := by simp; omega
        have hB2 : decide (m < n) = true := by simp; omega
        have hB3 : decide ((m : Int) < 8) = false := by simp; omega
        go_wp2_with fail
        go_quiet (fail)
        go_wp2_with fail
        go_ret
        exact ⟨retv (by rw [hg'.out]), below_drewN hbr _⟩
    · have hg' := Lib.hid (hg.stop (.inl (by omega)))
      have hB1 : decide ((m : Int) < (n : Int)) = false := by simp; omega
      have hB2 : decide (m < n) = false := by simp; omega
      go_wp2_with fail
      go_quiet (fail)
      go_wp2_with fail
      go_ret
      exact ⟨retv (by rw [hg'.out]), below_drewN hbr _⟩
theorem take_snoc3 {l : List V3} {k : Nat} {p : V3} (h : l[k]? = some p) : l.take (k + 1) = l.take k ++ [p] := by
  obtain ⟨hk, rfl⟩ := List.getElem?_eq_some_iff.1 h
  exact List.take_succ_eq_append_getElem hk
theorem and1023 (t : Int) (h0 : 0 ≤ t) (h1 : t ≤ 1000000000) : bits .and .i64 t 1023 = t % 1024 := by
  obtain ⟨n, rfl⟩ := Int.eq_ofNat_of_zero_le h0
  have h := i64_and_nat n 1023 (by omega) (by omega)
  rw [show ((1023 : Nat) : Int) = 1023 from rfl] at h
  rw [h, nat_mask10]
  omega
/-- The values of one group, where its pulses are those of g. -/
theorem grp_head (l : List V3) (n : Nat) (hn : 1 ≤ n) (hl : n ≤ l.length) : Det.headT (l.take n) = Det.headT l := by
  cases l with
  | nil => simp at hl; omega
  | cons p r => cases n with
    | zero => omega
    | succ n => rfl
set_option maxHeartbeats 2000000 in
theorem dencode_c (A : Option Addr) (n c : Nat) (l : List V3) (w : World) (hnc : n ≤ c) (hc : c ≤ maxLen) (h : VR w A n l) (hv : Det.vErr l = 0) (hr : ∀ v ∈ Det.vals l, 0 ≤ v ∧ v < 2048) (ht : ∀ p ∈ l, Det.okP p = true) (hn4 : n ≤ 4096) :
    Calls Tryz.prog 8 #[.slice A n c] w fun e w' => ∃ v, e = .returned (.tuple #[v, .int .i64 0]) ∧ w'.ownsRow w.heap.size 5 1 v (Ham.encB (Det.vals l)).length ((Ham.encB (Det.vals l)).map (Value.int .u8)) ∧ Below w.heap.size w w' := by
  have HV := Lib.hid hv
  have HR := Lib.hid hr
  have HT := Lib.hid ht
  clear hv hr ht
  have hc' := hc
  unfold maxLen at hc'
  go_enter Tryz.func8, Tryz.ntmps8
  go_wp2_with fail
  refine (valid_c _ _ _ l _ (by omega) h).mono ?_
  rintro e w1 ⟨rfl, hb1⟩
  rw [HV.out]
  go_wp2_with fail
  go_loopw [0, 5, 6, 7, 9, 10, 41] (fun s v _ _ _ _ _ wr => ∃ (A' : Option Addr) (n' c' : Nat) (l' : List V3) (V : List Int), s = .slice A' n' c' ∧ n' ≤ c' ∧ c' ≤ c ∧ VR w A' n' l' ∧ V.length + 6 * n' ≤ 24576 ∧ Hid (∀ p ∈ l', Det.okP p = true) ∧ Hid (Det.vals l = V ++ Det.vals l') ∧
    wr.ownsRow w.heap.size 3 1 v V.length (V.map (Value.int .i64)) ∧ Below w.heap.size w wr) (fun s _ _ _ _ _ _ _ => (match s with | .slice _ n _ => n | _ => 0))
  case atStart => exact ⟨A, n, c, l, [], rfl, hnc, by omega, h, by simp; omega, HT, Lib.hid rfl, World.ownsRow_nil _ _ _ _, hb1⟩
  case round =>
    obtain ⟨A', n', c', l', V, rfl, hnc', hcc', hvr, hlen, hok, hvals, hown, hbr⟩ := hrel
    by_cases hn0 : 0 < n'
    · have hl' := hvr.len
      obtain ⟨ad, p0, rfl, hba, hp0, _, q2, _⟩ := hvr.at_ (i := 0) hn0
      have hhead : Det.headT l' = p0.b := by
        cases l' with
        | nil => simp at hp0
        | cons p r => simp at hp0; subst hp0; rfl
      have hg := Det.grp_le l'
      have hvc : Det.vals l' = Det.grpVals (l'.take (Det.grp l')) ++ Det.vals (l'.drop (Det.grp l')) := by
        cases l' with
        | nil => simp at hp0
        | cons p r => exact Det.vals_cons p r
      have ht' : ∀ p ∈ l', 0 ≤ p.b ∧ p.b ≤ 1000000000 := fun p hp => Det.okP_time (hok.out p hp)
      have tp0 := ht' p0 (List.mem_of_getElem? hp0)
      have hgc := Lib.hid (group_c (some ad) n' c' l' wr (by omega) hn0 (hvr.below (by exact hbr)) ht')
      have f2 : wr.cell? ⟨ad.block, ad.off + 1, none⟩ = some (.int .i64 p0.b) := by simpa [Addr.add] using keep_cell hbr q2
      have e1 := and1023 (p0.b / 1024) (by omega) (by omega)
      have e2 := and1023 p0.b (by omega) (by omega)
      have hgl := hg.2.2 (by omega)
      have hg8 := hg.1
      have hgn : Det.grp l' ≤ n' := by omega
      have Hvc := Lib.hid hvc
      have Hhd := Lib.hid hhead
      have Hp0 := Lib.hid hp0
      generalize hgr : Det.grp l' = g at *
      generalize p0.b = t at *
      have Hgr := Lib.hid hgr
      clear hgr hvc hhead hg hp0 q2
      go_wp2_with fail
      refine (hgc.out).mono ?_
      rintro e w2 ⟨rfl, hb2⟩
      have hown2 := own_below hown hb2
      have hbr2 := below_step hbr hb2
      have f2' := keep_cell hb2 f2
      clear hown hb2 hbr f2 hgc
      go_wp2_with (at_builtin; refine wpList_push sl_int_b rfl (.tmp 25) (.tmp 35) rfl w.heap.size _ _ _ rfl hown2 4 4 rfl rfl rfl (by simp only [maxLen]; omega) (by omega) hbr2.size ?_; intro v3 w3 hown3 hgr3)
      have hbr3 := hbr2.trans (hgr3.below (own_ge hown2) hbr2.size)
      clear hown2 hgr3 hbr2 f2'
      have hvg := hvr.take hgn
      have hGl : (l'.take g).length = g := by rw [List.length_take]; omega
      have hGok : ∀ p ∈ l'.take g, Det.okP p = true := fun p hp => hok.out p (List.mem_of_mem_take hp)
      generalize hG : l'.take g = G at hvg hGl hGok
      have HG := Lib.hid hG
      have HGl := Lib.hid hGl
      have HGok := Lib.hid hGok
      clear hG hGl hGok
      go_wp2_with fail
      go_loopw [5, 7, 9, 10, 41] (fun v tt _ _ p wr => ∃ k : Nat, k ≤ g ∧ p = .int .i64 k ∧ tt = .int .i64 (Det.lastT t (G.take k)) ∧
        wr.ownsRow w.heap.size 3 1 v (V.length + 4 + 2 * k) ((V ++ (Det.head4 g t ++ Det.encP t (G.take k))).map (Value.int .i64)) ∧ Below w.heap.size w wr) (fun _ _ _ _ p _ => g - (intOf p).toNat)
      case atStart => exact ⟨0, by omega, rfl, rfl, by simpa [Det.head4, Det.encP] using hown3, hbr3⟩
      case round =>
        obtain ⟨k, hk, rfl, rfl, hownk, hbk⟩ := hrel
        by_cases hkg : k < g
        · obtain ⟨ad2, p, hea, hbb, hp, c1, c2, c3⟩ := hvg.at_ hkg
          obtain rfl := Option.some.inj hea
          have d1 := keep_cell hbk c1
          have d2 := keep_cell hbk c2
          have d3 := keep_cell hbk c3
          obtain ⟨o1, o2, o3, o4, _⟩ := Det.okP_all (HGok.out p (List.mem_of_getElem? hp))
          have hlast := Det.lastT_ok t (G.take k) tp0 (fun q hq => Det.okP_time (HGok.out q (List.mem_of_mem_take hq)))
          have hts := Lib.hid (take_snoc3 hp)
          have hes := Lib.hid (Det.encP_snoc (G.take k) p t)
          have hls := Lib.hid (Det.lastT_snoc (G.take k) p t)
          have hpv := Lib.hid (show Det.pv p = 1024 + 2 * p.a + (if p.c = 1 then 1 else 0) from rfl)
          clear hea c1 c2 c3 hp
          generalize Det.lastT t (G.take k) = lt at *
          obtain ⟨pa, pb, pc⟩ := p
          simp only at *
          have hbk' := hbk.alloc hbk.size (.cells #[.int .i64 pa, .int .i64 pb, .int .i64 pc] 33)
          have hownk' := hownk.alloc (.cells #[.int .i64 pa, .int .i64 pb, .int .i64 pc] 33)
          by_cases hc1 : pc = 1
          · have e5 : (pc == 1) = true := by simp [hc1]
            have hpv' := hpv.out
            rw [if_pos hc1] at hpv'
            have Hpv := Lib.hid hpv'
            clear hc1 hpv'
            go_wp2_with (at_builtin; refine wpList_pushb sl_int_b rfl (.tmp 54) (.tmp 60) rfl w.heap.size _ _ _ rfl hownk' 2 2 (wr.heap.size + 1) (by simp) rfl rfl rfl (by simp only [maxLen]; omega) (by omega) hbk'.size ?_; intro v4 w4 hown4 hgr4; have hc4 := hgr4.cell_new (u := .int .i64 pb) hownk 1 rfl)
            have hbk4 := hbk'.trans (hgr4.below (own_ge hownk') hbk'.size)
            clear hownk' hgr4 hbk' hownk hbk
            go_wp2_with fail
            go_roundw
            case rel =>
              refine ⟨k + 1, by omega, by go_num, vint (by rw [hts.out, hls.out]), ?_, hbk4⟩
              rw [hts.out, hes.out, Hpv.out]
              rw [show V.length + 4 + 2 * (k + 1) = V.length + 4 + 2 * k + 2 by omega]
              simpa [List.append_assoc] using hown4
            case measure => simp [intOf]; omega
          · have e5 : (pc == 1) = false := by simp [hc1]
            have hpv' := hpv.out
            rw [if_neg hc1, Int.add_zero] at hpv'
            have Hpv := Lib.hid hpv'
            clear hc1 hpv'
            go_wp2_with (at_builtin; refine wpList_pushb sl_int_b rfl (.tmp 54) (.tmp 60) rfl w.heap.size _ _ _ rfl hownk' 2 2 (wr.heap.size + 1) (by simp) rfl rfl rfl (by simp only [maxLen]; omega) (by omega) hbk'.size ?_; intro v4 w4 hown4 hgr4; have hc4 := hgr4.cell_new (u := .int .i64 pb) hownk 1 rfl)
            have hbk4 := hbk'.trans (hgr4.below (own_ge hownk') hbk'.size)
            clear hownk' hgr4 hbk' hownk hbk
            go_wp2_with fail
            go_roundw
            case rel =>
              refine ⟨k + 1, by omega, by go_num, vint (by rw [hts.out, hls.out]), ?_, hbk4⟩
              rw [hts.out, hes.out, Hpv.out]
              rw [show V.length + 4 + 2 * (k + 1) = V.length + 4 + 2 * k + 2 by omega]
              simpa [List.append_assoc] using hown4
            case measure => simp [intOf]; omega
        · obtain rfl : k = g := by omega
          clear hown3 hbr3
          have hcut := hvr.cut hgn hnc'
          have hkt : G.take k = G := List.take_of_length_le (by rw [HGl.out]; exact Nat.le_refl _)
          rw [hkt] at hownk
          have hgv : Det.grpVals G = Det.head4 k t ++ Det.encP t G := by
            rw [Det.grpVals, HGl.out, ← HG.out, grp_head l' k hgl (by omega), Hhd.out]
          have hvals' : Det.vals l = (V ++ Det.grpVals G) ++ Det.vals (l'.drop k) := by
            rw [hvals.out, Hvc.out, HG.out, List.append_assoc]
          have hlen' : (V ++ Det.grpVals G).length = V.length + 4 + 2 * k := by
            rw [List.length_append, Det.grpVals_len, HGl.out]; omega
          rw [← hgv, ← hlen'] at hownk
          have Hvals := Lib.hid hvals'
          have Hlen := Lib.hid hlen'
          have Hok := Lib.hid (fun p (hp : p ∈ l'.drop k) => hok.out p (List.mem_of_mem_drop hp))
          clear hkt hgv hvals' hlen' hvals hok
          generalize V ++ Det.grpVals G = V2 at hownk Hvals Hlen
          go_wp2_with fail
          go_roundw
          case rel => exact ⟨_, _, _, l'.drop k, V2, rfl, by omega, by omega, hcut, by rw [Hlen.out]; omega, Hok, Hvals, hownk, hbk⟩
          case measure => simp; omega
    · obtain rfl : n' = 0 := by omega
      have hl0 : l' = [] := List.eq_nil_of_length_eq_zero hvr.len
      subst hl0
      have hv0 := hvals.out
      rw [show Det.vals [] = [] from rfl, List.append_nil] at hv0
      subst hv0
      have hlen2 : (Det.vals l).length ≤ 65536 := by omega
      clear hlen
      generalize hm : (Det.vals l).length = m at hown hlen2
      have Hm := Lib.hid hm
      clear hm
      obtain ⟨A3, c3, rfl, _, _⟩ := own_form hown
      go_wp2_with fail
      refine (pack_ok _ m _ (Det.vals l) _ hlen2 (own_IR hown) HR.out).mono ?_
      rintro e w5 ⟨v5, rfl, own5, hb5⟩
      go_wp2_with fail
      go_ret2
      refine ⟨_, rfl, ?_, below_step hbr hb5⟩
      rw [Ham.encB_len, Hm.out]
      exact own_more own5 hbr.size
end Go.Proofs.YtocohkgdkebmdaaGreat
namespace Go.Proofs.YtocohkgdkebmdaaGreat
open Go.RowKit
/-- Block g is a maker; its list lies below B; c numbers were taken. -/
structure Mk (B : Nat) (w : World) (g c : Nat) : Prop where
  ge : B ≤ g
  blk : ∃ A n cp l, Blk w g 52 #[.slice A n cp, .int .i64 (c : Int)] ∧ Reads w B 1 A n ((l : List Int).map (Value.int .i64)) ∧ n ≤ maxLen
theorem Mk.grown {B : Nat} {w w' : World} {g c : Nat} {row : Option Nat} (h : Mk B w g c) (hg : w.grownBy w' row) (hr : row ≠ some g) (hB : ∀ b, row = some b → B ≤ b) : Mk B w' g c := by
  obtain ⟨A, n, cp, l, hb, hR, hn⟩ := h.blk
  refine ⟨h.ge, A, n, cp, l, hb.grown hg (fun e => hr e.symm), hR.keep (fun p hp => ?_), hn⟩
  exact World.cell?_of_block (hg.block p.block (by have := hb.lt; have := h.ge; omega) (fun e => by have := hB _ e.symm; omega))
theorem Mk.alloc {B : Nat} {w : World} {g c : Nat} (h : Mk B w g c) (o : Obj) : Mk B (w.alloc o) g c := h.grown (row := none) (World.grownBy_alloc w o none) (by simp) (by simp)
theorem Mk.below {B : Nat} {w w' : World} {g c : Nat} (h : Mk B w g c) (hb : Below w.heap.size w w') : Mk B w' g c := by
  obtain ⟨A, n, cp, l, hk, hR, hn⟩ := h.blk
  exact ⟨h.ge, A, n, cp, l, hk.below hb hk.lt, hR.keep (fun p hp => hb.cell (by have := hk.lt; have := h.ge; omega)), hn⟩
theorem Mk.lt {B : Nat} {w : World} {g c : Nat} (h : Mk B w g c) : g < w.heap.size := by
  obtain ⟨A, n, cp, l, hk, _, _⟩ := h.blk
  exact hk.lt
theorem Mk.stored {B : Nat} {w w' : World} {g c : Nat} (h : Mk B w g c) (k : Nat) (hw : w' = (w.setCell ⟨g, 1, none⟩ (.int .i64 ((c : Int) + 1))).drewN k) : Mk B w' g (c + 1) := by
  subst hw
  obtain ⟨A, n, cp, l, hb, hR, hn⟩ := h.blk
  refine ⟨h.ge, A, n, cp, l, ?_, hR.setCell (p := ⟨g, 1, none⟩) h.ge _, hn⟩
  have := hb.set_ 1 (.int .i64 ((c : Int) + 1))
  exact Blk.drewN (by simpa using this) k
theorem Mk.stored_grown {B : Nat} {w : World} {g c : Nat} (_h : Mk B w g c) {k : Nat} {u : Value} : w.grownBy ((w.setCell ⟨g, 1, none⟩ u).drewN k) (some g) :=
  ⟨rfl, rfl, rfl, by simp [World.setCell, World.drewN], fun i _ hne => Below.heap_setCell w ⟨g, 1, none⟩ u i (fun e => hne (by rw [e]))⟩
set_option maxHeartbeats 1000000 in
theorem next_c (B g c : Nat) (m : Int) (w : World) (h : Mk B w g c) (hc : c ≤ 4611686018427387904) (hm0 : 1 ≤ m) (hm1 : m ≤ 4611686018427387904) :
    Calls Tryz.prog 16 #[.pointer (some ⟨g, 0, none⟩), .int .i64 m] w fun e w' => ∃ x : Int, 0 ≤ x ∧ x < m ∧ e = .returned (.int .i64 x) ∧ Mk B w' g (c + 1) ∧ w.grownBy w' (some g) := by
  obtain ⟨A, n, cp, l, hb, hR, hn⟩ := h.blk
  have hge := h.ge
  have c0 : w.cell? ⟨g, 0, none⟩ = some (.slice A n cp) := hb.cell 0
  have c1 : w.cell? ⟨g, 1, none⟩ = some (.int .i64 (c : Int)) := hb.cell 1
  have z1 := hb.frozen 1
  unfold maxLen at hn
  have HHb := Lib.hid hb
  have HR := Lib.hid hR
  have Hh := Lib.hid h
  clear hb hR h
  by_cases hn0 : 0 < n
  · go_enter Tryz.func16, Tryz.ntmps16
    obtain ⟨q, hq⟩ : ∃ q, q = c % n := ⟨_, rfl⟩
    have hqn : q < n := by rw [hq]; exact Nat.mod_lt _ hn0
    have hqi : (c : Int) % (n : Int) = (q : Int) := by omega
    have hqw : IntKind.i64.wrap (q : Int) = (q : Int) := IntWalk.i64_in _ ⟨by omega, by omega⟩
    have hIR : IR .i64 w A n l := HR.out.more (by have := HHb.out.lt; omega)
    obtain ⟨ad, rfl, hba, hca⟩ := hIR.at_ hqn
    generalize l.getD q 0 = x at hca
    obtain ⟨d, hd⟩ : ∃ d, d = c / n := ⟨_, rfl⟩
    have hdi : (c : Int) / (n : Int) = (d : Int) := by rw [hd]; exact (Int.natCast_ediv c n).symm
    have hdc : d ≤ c := by rw [hd]; exact Nat.div_le_self _ _
    have hdw : IntKind.i64.wrap (d : Int) = (d : Int) := IntWalk.i64_in _ ⟨by omega, by omega⟩
    clear hq hd hIR
    obtain ⟨Y, hY⟩ : ∃ Y, IntKind.i64.wrap ((d : Int) * 7919) = Y := ⟨_, rfl⟩
    obtain ⟨X, hX⟩ : ∃ X, IntKind.i64.wrap (x + Y) = X := ⟨_, rfl⟩
    have hb1 := tmod_bd X m (by omega)
    go_wp2_with fail
    go_quiet (fail)
    go_wp2_with fail
    · have hneg : X.tmod m < 0 := by assumption
      go_ret
      exact ⟨X.tmod m + m, by omega, by omega, rfl, Hh.out.stored _ rfl, Hh.out.stored_grown⟩
    · have hpos : 0 ≤ X.tmod m := by assumption
      go_ret
      exact ⟨X.tmod m, by omega, by omega, rfl, Hh.out.stored _ rfl, Hh.out.stored_grown⟩
  · obtain rfl : n = 0 := by omega
    go_enter Tryz.func16, Tryz.ntmps16
    go_wp2_with fail
    go_ret
    exact ⟨0, by omega, by omega, rfl, Hh.out.stored 0 rfl, Hh.out.stored_grown (k := 0)⟩
/- New -/
theorem new_c (A : Option Addr) (n cp : Nat) (l : List Int) (w : World) (hn : n ≤ maxLen) (h : IR .i64 w A n l) :
    Calls Tryz.prog 4 #[.slice A n cp] w fun e w' => e = .returned (.pointer (some ⟨w.heap.size, 0, none⟩)) ∧ Mk w.heap.size w' w.heap.size 0 ∧ Below w.heap.size w w' ∧ w'.heap.size = w.heap.size + 1 := by
  go_enter Tryz.func4, Tryz.ntmps4
  go_wp2_with fail
  go_ret
  refine ⟨rfl, ⟨Nat.le_refl _, A, n, cp, l, ?_, ?_, hn⟩, ?_, ?_⟩
  · exact Blk.new w _ _
  · exact Reads.alloc h (Nat.le_refl _) _
  · exact (Below.refl _ _).alloc (Nat.le_refl _) _
  · simp
set_option maxHeartbeats 1000000 in
theorem pick_c (B g c b n cp : Nat) (L : List Int) (w : World) (h : Mk B w g c) (hbg : b ≠ g) (hn1 : 1 ≤ n) (hn2 : n ≤ 1000000) (hc : c ≤ 4611686018427387904) (hR : IR .i64 w (some ⟨b, 0, none⟩) n L) :
    Calls Tryz.prog 37 #[.pointer (some ⟨g, 0, none⟩), .slice (some ⟨b, 0, none⟩) n cp] w fun e w' => ∃ x : Int, x ∈ L ∧ e = .returned (.int .i64 x) ∧ Mk B w' g (c + 1) ∧ w.grownBy w' (some g) := by
  have hl := hR.len
  go_enter Tryz.func37, Tryz.ntmps37
  go_wp2_with fail
  refine (next_c B g c n _ h hc (by omega) (by omega)).mono ?_
  rintro e w1 ⟨x, hx0, hx1, rfl, hm1, hg1⟩
  obtain ⟨i, rfl⟩ := Int.eq_ofNat_of_zero_le hx0
  have hin : i < n := by omega
  have hcell := hg1.cell (hR.atb hin) (by simp; exact fun e => hbg e)
  have hmem : L.getD i 0 ∈ L := by rw [List.getD_eq_getElem?_getD, List.getElem?_eq_getElem (by omega)]; exact List.getElem_mem _
  generalize L.getD i 0 = y at hcell hmem
  clear hR
  go_wp2_with fail
  go_ret
  exact ⟨y, hmem, rfl, hm1, hg1⟩
end Go.Proofs.YtocohkgdkebmdaaGreat
namespace Go.Proofs.YtocohkgdkebmdaaGreat
open Go.RowKit
theorem sl_pulse : SlT Tryz.prog 31 33 3 24 := slT_of (z := .agg #[.int .i64 0, .int .i64 0, .int .i64 0]) Tryz.underlying31 (by kernel_rfl) rfl (by omega)
end Go.Proofs.YtocohkgdkebmdaaGreat
