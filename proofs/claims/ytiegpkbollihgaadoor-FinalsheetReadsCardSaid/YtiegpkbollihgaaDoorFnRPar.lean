/- The walk of the reference's Parse of a sheet. -/
import Derived.Test.YtiegpkbollihgaaDoorFnRead
import Derived.Test.YtiegpkbollihgaaDoorFnParse
namespace Go.Proofs.YtiegpkbollihgaaDoor
open Go.RowKit
theorem RdQ.below {B rb : Nat} {r : Fn.RS} {W W' : World} (h : RdQ B rb r W) (hb : Below W.heap.size W W') : RdQ B rb r W' := by
  obtain ⟨vW, vS, b0, b1, b2, b3, b4, b5, b6, hX, oW, oS, h1, h2⟩ := h
  exact ⟨vW, vS, b0, b1, b2, b3, b4, b5, b6, hX.below hb hX.lt, own_below oW hb, own_below oS hb, h1, h2⟩
theorem rchk_c (s : ByteArray) (n : Nat) (w : World) (hn : n ≤ s.size) (hs : s.size ≤ 20000) :
    Calls Tryd.prog 20 #[.string (s.extract 0 n)] w fun e w' => e = .returned (.int .i64 ((Fn.chkTo s.data.toList n : Nat) : Int)) ∧ w' = w := by
  have h := rcheck_c (s.extract 0 n) w (by unfold maxLen; rw [ByteArray.size_extract]; omega)
  have e : (s.extract 0 n).data.toList = s.data.toList.take n := by simp [ByteArray.data_extract, Array.toList_extract, List.extract]
  rw [e, Fn.chk_take _ _ (by simpa using hn)] at h
  exact h.mono fun _ _ h => ⟨h.1, h.2.symm⟩
theorem extract_piece (s : ByteArray) (a t : Nat) : s.extract a t = baOf ((s.data.toList.drop a).take (t - a)) := by
  refine ByteArray.ext ?_
  refine Array.toList_inj.1 ?_
  simp [baOf, ByteArray.data_extract, Array.toList_extract, List.extract]
theorem drop_split {l : List UInt8} {a t : Nat} (h1 : a ≤ t) (h2 : t < l.length) (h3 : l[t] = 10) : l.drop a = (l.drop a).take (t - a) ++ 10 :: l.drop (t + 1) := by
  have e : (l.drop a).drop (t - a) = 10 :: l.drop (t + 1) := by
    rw [List.drop_drop, show a + (t - a) = t by omega, List.drop_eq_getElem_cons h2, h3]
  rw [← e, List.take_append_drop]
theorem piece_next {l : List UInt8} {a t : Nat} (h1 : a ≤ t) (h2 : t < l.length) (h3 : l[t] ≠ 10) (h : (10 : UInt8) ∉ (l.drop a).take (t - a)) : (10 : UInt8) ∉ (l.drop a).take (t + 1 - a) := by
  have hl : t - a < (l.drop a).length := by rw [List.length_drop]; omega
  rw [show t + 1 - a = t - a + 1 by omega, List.take_succ_eq_append_getElem hl, List.mem_append, List.mem_singleton, List.getElem_drop]
  rintro (h' | h')
  · exact h h'
  · have : l[a + (t - a)] = l[t] := by congr 1; omega
    rw [this] at h'
    exact h3 h'.symm
def RPI (s : ByteArray) (w : World) (v3 v4 v6 v7 v8 : Value) (wr : World) : Prop := ∃ (k n at_ en : Nat) (r : Fn.RS), v3 = .int .i64 0 ∧ v4 = .int .i64 0 ∧ v6 = .int .i64 (n : Int) ∧ v7 = .int .i64 (at_ : Int) ∧ v8 = .int .i64 (en : Int) ∧ n ≤ k + 1 ∧ k + 1 ≤ n ∧ at_ ≤ s.size ∧ k ≤ at_ ∧ en ≤ at_ ∧ Hid (Fn.parse s = Fn.pAt s.data.toList (s.data.toList.drop at_) k at_ en r) ∧ RdQ (w.heap.size + 1) (w.heap.size + 1) r wr ∧ Hid (Fn.RFit r k) ∧ Blk wr w.heap.size 28 #[.string ⟨#[]⟩, .slice none 0 0, .int .i64 0, .int .i64 0, .int .i64 0, .int .i64 0, .int .i64 0, .int .i64 0, .int .i64 0, .slice none 0 0] ∧ Below w.heap.size w wr
def ToNl (s : ByteArray) (at_ : Nat) (v9 : Value) : Prop := ∃ t : Nat, v9 = .int .i64 (t : Int) ∧ at_ ≤ t ∧ t ≤ s.size ∧ Hid ((10 : UInt8) ∉ (s.data.toList.drop at_).take (t - at_))
set_option maxRecDepth 100000 in
set_option maxHeartbeats 8000000 in
theorem rparse38_c (s : ByteArray) (w : World) (hs : s.size ≤ maxLen) :
    Calls Tryd.prog 17 #[.string s] w (FParseR s w) := by
  unfold maxLen at hs
  have hsi : (s.size : Int) ≤ 9223372036854775807 := by omega
  have hR0 := Blk.new w 28 #[.string ⟨#[]⟩, .slice none 0 0, .int .i64 0, .int .i64 0, .int .i64 0, .int .i64 0, .int .i64 0, .int .i64 0, .int .i64 0, .slice none 0 0]
  by_cases hbig : 16384 < s.size
  · have d1 : decide (16384 < (s.size : Int)) = true := by simp; omega
    have d1' : decide (16384 < s.size) = true := by simp; omega
    have HE : Hid (Fn.parse s = (Fn.fnZ, 0, 3)) := Lib.hid (by unfold Fn.parse; rw [if_pos hbig])
    clear hbig
    go_enter Tryd.func17, Tryd.ntmps17
    go_wp2_with fail
    (try simp only [Exit.inBlock, Exit.then])
    refine bodyPost_ret (results_c3 rfl _ (by rfl) (load_final hR0)) rfl ?_
    exact fparseR_z HE.out ((Below.refl _ _).alloc (Nat.le_refl _) _)
  · have d1 : decide (16384 < (s.size : Int)) = false := by simp; omega
    have d1' : decide (16384 < s.size) = false := by simp; omega
    have HE := Lib.hid (Fn.parse_at hbig)
    have hs4 : s.size ≤ 16384 := by omega
    obtain ⟨W1, hW1⟩ : ∃ W1, (w.alloc (.cells #[.string ⟨#[]⟩, .slice none 0 0, .int .i64 0, .int .i64 0, .int .i64 0, .int .i64 0, .int .i64 0, .int .i64 0, .int .i64 0, .slice none 0 0] 28)).alloc (.cells #[.int .i64 0, .string ⟨#[]⟩, .slice none 0 0, .int .i64 0, .int .i64 0, .int .i64 0, .int .i64 0, .int .i64 0, .int .i64 0, .int .i64 0, .slice none 0 0, .int .i64 0] 71) = W1 := ⟨_, rfl⟩
    have hR1 : Blk W1 w.heap.size 28 #[.string ⟨#[]⟩, .slice none 0 0, .int .i64 0, .int .i64 0, .int .i64 0, .int .i64 0, .int .i64 0, .int .i64 0, .int .i64 0, .slice none 0 0] := by rw [← hW1]; exact hR0.alloc _
    have hX1 : Blk W1 (w.heap.size + 1) 71 #[.int .i64 0, .string ⟨#[]⟩, .slice none 0 0, .int .i64 0, .int .i64 0, .int .i64 0, .int .i64 0, .int .i64 0, .int .i64 0, .int .i64 0, .slice none 0 0, .int .i64 0] := by
      rw [← hW1]
      have := Blk.new (w.alloc (.cells #[.string ⟨#[]⟩, .slice none 0 0, .int .i64 0, .int .i64 0, .int .i64 0, .int .i64 0, .int .i64 0, .int .i64 0, .int .i64 0, .slice none 0 0] 28)) 71 #[.int .i64 0, .string ⟨#[]⟩, .slice none 0 0, .int .i64 0, .int .i64 0, .int .i64 0, .int .i64 0, .int .i64 0, .int .i64 0, .int .i64 0, .slice none 0 0, .int .i64 0]
      rwa [show (w.alloc (.cells #[.string ⟨#[]⟩, .slice none 0 0, .int .i64 0, .int .i64 0, .int .i64 0, .int .i64 0, .int .i64 0, .int .i64 0, .int .i64 0, .slice none 0 0] 28)).heap.size = w.heap.size + 1 by simp] at this
    have hb1 : Below w.heap.size w W1 := by rw [← hW1]; exact ((Below.refl _ _).alloc (Nat.le_refl _) _).alloc (by simp) _
    have hsd : s.data.toList.length = s.size := by simp
    have Hsd := Lib.hid hsd
    clear hbig hR0 hsd
    go_enter Tryd.func17, Tryd.ntmps17
    go_wp2_with fail
    go_loopw [3, 4, 6, 7, 8] (fun v3 v4 v6 v7 v8 wr => RPI s w v3 v4 v6 v7 v8 wr) (fun _ _ _ v7 _ _ => s.size - (intOf v7).toNat)
    case atStart => exact (show RPI _ _ _ _ _ _ _ _ from ⟨0, 1, 0, 0, Fn.rs0, rfl, rfl, rfl, rfl, rfl, by omega, by omega, by omega, by omega, by omega, HE, ⟨.slice none 0 0, .slice none 0 0, 0, 0, 0, 0, 0, 0, 0, hX1, World.ownsRow_nil _ _ _ _, World.ownsRow_nil _ _ _ _, rfl, Nat.le_refl _⟩, Lib.hid Fn.RFit.zero, hR1, hb1⟩)
    case round =>
      obtain ⟨k, n, at_, en, r, rfl, rfl, rfl, rfl, rfl, hn1, hn2, hat, hka, hen, HP, hRd, HF, hR, hbr⟩ := hrel
      clear hR1 hX1 hb1 HE hW1
      by_cases hlt : at_ < s.size
      · have dlt : decide ((at_ : Int) < (s.size : Int)) = true := decide_eq_true (by omega)
        have dlt' : decide (at_ < s.size) = true := decide_eq_true hlt
        go_wp2_with fail
        go_loopw [9] (fun v9 wi => ToNl s at_ v9 ∧ wi = wr) (fun v9 _ => s.size - (intOf v9).toNat)
        case atStart => exact ⟨(show ToNl _ _ _ from ⟨at_, rfl, Nat.le_refl _, by omega, Lib.hid (by rw [Nat.sub_self, List.take_zero]; exact List.not_mem_nil)⟩), rfl⟩
        case round =>
          obtain ⟨⟨t, rfl, ht1, ht2, HN10⟩, rfl⟩ := hrel
          by_cases htl : t < s.size
          · have hti : (t : Int) < (s.size : Int) := by omega
            have dt : decide ((t : Int) < (s.size : Int)) = true := decide_eq_true hti
            have dt' : decide (t < s.size) = true := decide_eq_true htl
            obtain ⟨c, hc⟩ : ∃ c, s[t].toNat = c := ⟨_, rfl⟩
            by_cases h10 : c = 10
            case neg =>
              have hc10 : ((c : Int) != 10) = true := by simp; omega
              have HN2 : Hid ((10 : UInt8) ∉ (s.data.toList.drop at_).take (t + 1 - at_)) := Lib.hid (piece_next ht1 (by rw [Hsd.out]; exact htl) (fun e => h10 (by rw [← hc]; have e' : s[t] = 10 := e; rw [e']; rfl)) HN10.out)
              clear h10
              go_wp2_with fail
              go_roundw
              case rel => exact ⟨(show ToNl _ _ _ from ⟨t + 1, by go_num, by omega, by omega, HN2⟩), trivial⟩
              case measure => simp [intOf]; omega
            case pos =>
              have hc10 : ((c : Int) != 10) = false := by simp; omega
              have e10 : s.data.toList[t]'(by rw [Hsd.out]; exact htl) = 10 := by
                have : s[t].toNat = 10 := by rw [hc]; exact h10
                exact UInt8.toNat_inj.1 this
              have HSp := Lib.hid (drop_split ht1 (by rw [Hsd.out]; exact htl) e10)
              have det : ((t : Int) == (s.size : Int)) = false := by simp; omega
              have hq := extract_piece s at_ t
              obtain ⟨p, hp⟩ : ∃ p, (s.data.toList.drop at_).take (t - at_) = p := ⟨_, rfl⟩
              rw [hp] at HN10 HSp hq
              have hpl : p.length = t - at_ := by rw [← hp, List.length_take, List.length_drop, Hsd.out]; omega
              have Hpl := Lib.hid hpl
              have hat0 : (0 : Int) ≤ (at_ : Int) := by omega
              have hati : (at_ : Int) ≤ (t : Int) := by omega
              have htsi : (t : Int) ≤ (s.size : Int) := by omega
              have HR := Lib.hid (read_c (w.heap.size + 1) (w.heap.size + 1) p r wr hRd hR.lt (by rw [Hpl.out]; omega) (by have := HF.out.ws; omega) (by have := HF.out.so; omega))
              unfold ReadR at HR
              clear h10 e10 hp hpl
              cases htk : Fn.take r (Tx.cutAt 32 p) with
              | none =>
                rw [htk] at HR
                have HE2 : Hid (Fn.parse s = (Fn.fnZ, (k : Int) + 1, 6)) := Lib.hid (HP.out.trans (by rw [HSp.out]; exact Fn.pAt_bad HN10.out htk))
                have hkn : (k : Int) + 1 = (n : Int) := by omega
                rw [hkn] at HE2
                clear htk hkn
                go_wp2_with fail
                refine HR.out.mono ?_
                rintro e w3 ⟨rfl, hb3⟩
                have hb3' := hbr.trans (hb3.mono (Nat.le_succ _))
                have hR3 := hR.below hb3 (Nat.lt_succ_self _)
                go_wp2_with ((with_reducible refine at_st 28 (.tmp 2) (.tmp 49) ?_); go_must (refine wpList_stB rfl 28 (.tmp 2) (.tmp 49) rfl w.heap.size 0 [.string ⟨#[]⟩, .slice none 0 0, .int .i64 0, .int .i64 0, .int .i64 0, .int .i64 0, .int .i64 0, .int .i64 0, .int .i64 0, .slice none 0 0] rfl rfl hR3 #[.string ⟨#[]⟩, .slice none 0 0, .int .i64 0, .int .i64 0, .int .i64 0, .int .i64 0, .int .i64 0, .int .i64 0, .int .i64 0, .slice none 0 0] rfl rfl (by kernel_rfl) rfl ?_; intro WR hRR hgR))
                (try simp only [Exit.inBlock, Exit.then])
                refine bodyPost_ret (results_c3 rfl _ (by rfl) (load_final hRR)) rfl ?_
                exact fparseR_z HE2.out (below_at hb3' hgR)
              | some r' =>
                rw [htk] at HR
                have hP2 := HP.out
                rw [HSp.out, Fn.pAt_good HN10.out htk, show at_ + p.length + 1 = t + 1 by rw [Hpl.out]; omega] at hP2
                have HP2 := Lib.hid hP2
                clear hP2
                have HF2 := Lib.hid (Fn.take_fit (by rw [Hpl.out]; omega) HF.out htk)
                clear htk
                go_wp2_with fail
                refine HR.out.mono ?_
                rintro e w3 ⟨⟨rfl, hRd3⟩, hb3⟩
                have hb3' := hbr.trans (hb3.mono (Nat.le_succ _))
                have hR3 := hR.below hb3 (Nat.lt_succ_self _)
                go_wp2_with fail
                go_roundw
                case rel => exact (show RPI _ _ _ _ _ _ _ _ from ⟨k + 1, n + 1, t + 1, at_, r', rfl, rfl, by go_num, by go_num, rfl, by omega, by omega, by omega, by omega, by omega, HP2, hRd3, HF2, hR3, hb3'⟩)
                case measure => simp [intOf]; omega
          · obtain rfl : t = s.size := by omega
            have dt : decide ((s.size : Int) < (s.size : Int)) = false := decide_eq_false (by omega)
            have HE2 : Hid (Fn.parse s = (Fn.fnZ, (k : Int) + 1, 6)) := Lib.hid (HP.out.trans (Fn.pAt_none (fun hm => HN10.out (by rwa [List.take_of_length_le (by rw [List.length_drop, Hsd.out]; omega)])) (fun h => by have := congrArg List.length h.1; rw [List.length_drop, Hsd.out] at this; simp at this; omega)))
            have hkn : (k : Int) + 1 = (n : Int) := by omega
            rw [hkn] at HE2
            clear hkn
            go_wp2_with ((with_reducible refine at_st 28 (.tmp 2) (.tmp 49) ?_); go_must (refine wpList_stB rfl 28 (.tmp 2) (.tmp 49) rfl w.heap.size 0 [.string ⟨#[]⟩, .slice none 0 0, .int .i64 0, .int .i64 0, .int .i64 0, .int .i64 0, .int .i64 0, .int .i64 0, .int .i64 0, .slice none 0 0] rfl rfl hR #[.string ⟨#[]⟩, .slice none 0 0, .int .i64 0, .int .i64 0, .int .i64 0, .int .i64 0, .int .i64 0, .int .i64 0, .int .i64 0, .slice none 0 0] rfl rfl (by kernel_rfl) rfl ?_; intro WR hRR hgR))
            (try simp only [Exit.inBlock, Exit.then])
            refine bodyPost_ret (results_c3 rfl _ (by rfl) (load_final hRR)) rfl ?_
            exact fparseR_z HE2.out (below_at hbr hgR)
      · have hats : s.size ≤ at_ := by omega
        have dlt : decide ((at_ : Int) < (s.size : Int)) = false := decide_eq_false (by omega)
        have dlt' : decide (at_ < s.size) = false := decide_eq_false hlt
        have HP1 : Hid (Fn.parse s = Fn.pAt s.data.toList [] k at_ en r) := Lib.hid (HP.out.trans (by rw [List.drop_of_length_le (by rw [Hsd.out]; exact hats)]))
        obtain ⟨vW, vS, b0, b1, b2, b3, b4, b5, b6, hX, oW, oS, hbk, hBrb⟩ := id hRd
        have x0 : wr.cell? ⟨w.heap.size + 1, 0, none⟩ = some (.int .i64 (r.part : Int)) := hX.cell 0
        clear HP
        by_cases h3 : r.part = 3
        case neg =>
          have e3 : ((r.part : Int) != 3) = true := by simp; omega
          have HE2 : Hid (Fn.parse s = (Fn.fnZ, (k : Int) + 1, 6)) := Lib.hid (HP1.out.trans (Fn.pAt_none (by simp) (fun h => h3 h.2)))
          have hkn : (k : Int) + 1 = (n : Int) := by omega
          rw [hkn] at HE2
          clear hkn h3
          go_wp2_with ((with_reducible refine at_st 28 (.tmp 2) (.tmp 59) ?_); go_must (refine wpList_stB rfl 28 (.tmp 2) (.tmp 59) rfl w.heap.size 0 [.string ⟨#[]⟩, .slice none 0 0, .int .i64 0, .int .i64 0, .int .i64 0, .int .i64 0, .int .i64 0, .int .i64 0, .int .i64 0, .slice none 0 0] rfl rfl hR #[.string ⟨#[]⟩, .slice none 0 0, .int .i64 0, .int .i64 0, .int .i64 0, .int .i64 0, .int .i64 0, .int .i64 0, .int .i64 0, .slice none 0 0] rfl rfl (by kernel_rfl) rfl ?_; intro WR hRR hgR))
          (try simp only [Exit.inBlock, Exit.then])
          refine bodyPost_ret (results_c3 rfl _ (by rfl) (load_final hRR)) rfl ?_
          exact fparseR_z HE2.out (below_at hbr hgR)
        case pos =>
          have e3 : ((r.part : Int) != 3) = false := by simp; omega
          have HP2 := Lib.hid (HP1.out.trans (Fn.pAt_end h3))
          have x11 : wr.cell? ⟨w.heap.size + 1, 11, none⟩ = some (.int .i64 r.ck) := hX.cell 11
          have h0a : (0 : Int) ≤ (en : Int) := by omega
          have hai : (en : Int) ≤ (s.size : Int) := by omega
          obtain ⟨ck, hck⟩ : ∃ ck, Fn.chkTo s.data.toList en = ck := ⟨_, rfl⟩
          have HCk : Hid (∀ V : World, Calls Tryd.prog 20 #[.string (s.extract 0 en)] V fun e w' => e = .returned (.int .i64 (ck : Int)) ∧ w' = V) := Lib.hid (fun V => by have := rchk_c s en V (by omega) (by omega); rwa [hck] at this)
          unfold Fn.fin at HP2
          rw [hck] at HP2
          clear hck h3
          go_wp2_with fail
          go_quiet ((go_at_call 20; exact Calls.quiet_of_same (HCk.out _)))
          have hbq := below_drewN hbr nq
          have hXq := hX.drewN nq
          have hRq := hR.drewN nq
          have oWq := own_below oW (below_drewN (Below.refl wr.heap.size wr) nq)
          have oSq := own_below oS (below_drewN (Below.refl wr.heap.size wr) nq)
          clear hX hR oW oS hbr x0 x11 hRd
          generalize wr.drewN nq = w2 at hbq hXq hRq oWq oSq ⊢
          by_cases hck : (ck : Int) = r.ck
          case neg =>
            have dk : (r.ck != (ck : Int)) = true := by simpa using fun e => hck e.symm
            have HE2 : Hid (Fn.parse s = (Fn.fnZ, (k : Int), 9)) := Lib.hid (by rw [HP2.out, if_pos hck])
            have hkn : (k : Int) = (n : Int) - 1 := by omega
            rw [hkn] at HE2
            clear hck hkn
            go_wp2_with ((with_reducible refine at_st 28 (.tmp 2) (.tmp 70) ?_); go_must (refine wpList_stB rfl 28 (.tmp 2) (.tmp 70) rfl w.heap.size 0 [.string ⟨#[]⟩, .slice none 0 0, .int .i64 0, .int .i64 0, .int .i64 0, .int .i64 0, .int .i64 0, .int .i64 0, .int .i64 0, .slice none 0 0] rfl rfl hRq #[.string ⟨#[]⟩, .slice none 0 0, .int .i64 0, .int .i64 0, .int .i64 0, .int .i64 0, .int .i64 0, .int .i64 0, .int .i64 0, .slice none 0 0] rfl rfl (by kernel_rfl) rfl ?_; intro WR hRR hgR))
            (try simp only [Exit.inBlock, Exit.then])
            refine bodyPost_ret (results_c3 rfl _ (by rfl) (load_final hRR)) rfl ?_
            exact fparseR_z HE2.out (below_at hbq hgR)
          case pos =>
            have dk : (r.ck != (ck : Int)) = false := by simpa using hck.symm
            have HE2 := Lib.hid HP2.out
            rw [if_neg (by simpa using hck)] at HE2
            obtain ⟨Aw, cw, rfl, hcw1, hcw2⟩ := own_form oWq
            obtain ⟨As, cs, rfl, hcs1, hcs2⟩ := own_form oSq
            have hFit := HF.out
            have hFR : FR w2 Aw r.f.ws.length As r.f.so.length r.f := ⟨own_WR oWq, own_SR oSq, by have := hFit.ws; unfold maxLen; omega, by have := hFit.so; unfold maxLen; omega, Nat.le_trans hFit.nm (by decide), fun x hx => ⟨Nat.le_trans (hFit.hs x hx).1 (by decide), Nat.le_trans (hFit.hs x hx).2 (by decide)⟩⟩
            have HV := Lib.hid (rfvalid_c Aw r.f.ws.length cw As r.f.so.length cs r.f b0 b1 b2 b3 b4 b5 b6 w2 hbk hFR)
            have Hbk := Lib.hid hbk
            obtain ⟨fe, hfe⟩ : ∃ fe, Fn.fErr r.f = fe := ⟨_, rfl⟩
            rw [hfe] at HV HE2
            unfold fnV at HV
            clear hck hFit hfe hbk
            go_wp2_with ((with_reducible refine at_ld 28 (.tmp 75) ?_); go_must (refine wpList_ldB rfl 28 (.tmp 75) rfl (w.heap.size + 1) 1 rfl hXq [.string r.f.nm, .slice Aw r.f.ws.length cw, .int .i64 b0, .int .i64 b1, .int .i64 b2, .int .i64 b3, .int .i64 b4, .int .i64 b5, .int .i64 b6, .slice As r.f.so.length cs] rfl _ Tryd.underlying28 rfl (by kernel_rfl) ?_))
            refine HV.out.mono ?_
            rintro e w3 ⟨rfl, hb3⟩
            have hb3' := below_step hbq hb3
            have hX3 := hXq.below hb3 hXq.lt
            have hR3 := hRq.below hb3 hRq.lt
            have oW3 := own_below oWq hb3
            have oS3 := own_below oSq hb3
            clear hRq hXq oWq oSq
            by_cases hz : fe = 0
            case neg =>
              have dz : (fe != 0) = true := by simpa using hz
              have HE3 : Hid (Fn.parse s = (Fn.fnZ, 0, fe)) := Lib.hid (by rw [HE2.out, if_pos hz])
              clear hz
              go_wp2_with ((with_reducible refine at_st 28 (.tmp 2) (.tmp 80) ?_); go_must (refine wpList_stB rfl 28 (.tmp 2) (.tmp 80) rfl w.heap.size 0 [.string ⟨#[]⟩, .slice none 0 0, .int .i64 0, .int .i64 0, .int .i64 0, .int .i64 0, .int .i64 0, .int .i64 0, .int .i64 0, .slice none 0 0] rfl rfl hR3 #[.string ⟨#[]⟩, .slice none 0 0, .int .i64 0, .int .i64 0, .int .i64 0, .int .i64 0, .int .i64 0, .int .i64 0, .int .i64 0, .slice none 0 0] rfl rfl (by kernel_rfl) rfl ?_; intro WR hRR hgR))
              (try simp only [Exit.inBlock, Exit.then])
              refine bodyPost_ret (results_c3 rfl _ (by rfl) (load_final hRR)) rfl ?_
              exact fparseR_z HE3.out (below_at hb3' hgR)
            case pos =>
              have dz : (fe != 0) = false := by simpa using hz
              have HE3 : Hid (Fn.parse s = (r.f, 0, 0)) := Lib.hid (by rw [HE2.out, if_neg (by simpa using hz)])
              clear hz
              go_wp2_with (first
                            | ((with_reducible refine at_ld 28 (.tmp 84) ?_); go_must (refine wpList_ldB rfl 28 (.tmp 84) rfl (w.heap.size + 1) 1 rfl hX3 [.string r.f.nm, .slice Aw r.f.ws.length cw, .int .i64 b0, .int .i64 b1, .int .i64 b2, .int .i64 b3, .int .i64 b4, .int .i64 b5, .int .i64 b6, .slice As r.f.so.length cs] rfl _ Tryd.underlying28 rfl (by kernel_rfl) ?_))
                            | ((with_reducible refine at_st 28 (.tmp 2) (.tmp 85) ?_); go_must (refine wpList_stB rfl 28 (.tmp 2) (.tmp 85) rfl w.heap.size 0 [.string r.f.nm, .slice Aw r.f.ws.length cw, .int .i64 b0, .int .i64 b1, .int .i64 b2, .int .i64 b3, .int .i64 b4, .int .i64 b5, .int .i64 b6, .slice As r.f.so.length cs] rfl rfl hR3 #[.string r.f.nm, .slice Aw r.f.ws.length cw, .int .i64 b0, .int .i64 b1, .int .i64 b2, .int .i64 b3, .int .i64 b4, .int .i64 b5, .int .i64 b6, .slice As r.f.so.length cs] rfl rfl (by kernel_rfl) rfl ?_; intro WR hRR hgR)))
              have oWR := oW3.kept hgR (.inr (own_blk_ne oW3 hR3 (by decide)))
              have oSR := oS3.kept hgR (.inr (own_blk_ne oS3 hR3 (by decide)))
              have HFR := FR.mk (own_WR oWR) (own_SR oSR) hFR.hn hFR.hm hFR.nm hFR.hs
              have HbR := below_at hb3' hgR
              (try simp only [Exit.inBlock, Exit.then])
              refine bodyPost_ret (results_c3 rfl _ (by rfl) (load_final hRR)) rfl ?_
              exact fparseR_ok HE3.out Hbk.out HFR (fresh_of oWR oSR (Nat.le_succ _)) HbR
end Go.Proofs.YtiegpkbollihgaaDoor
