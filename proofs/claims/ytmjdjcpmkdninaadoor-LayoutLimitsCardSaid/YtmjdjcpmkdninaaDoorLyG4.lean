/- The walk of humpgen's Layout. -/
import Derived.Test.YtmjdjcpmkdninaaDoorLyG3
namespace Go.Proofs.YtmjdjcpmkdninaaDoor
open Go.RowKit
namespace Ly
theorem tracks_app (l : List LE) (x : LE) : tracks (l ++ [x]) = tracks l + if x.k = 4 then 1 else 0 := by
  unfold tracks
  rw [List.countP_append, List.countP_cons, List.countP_nil]
  by_cases h : x.k = 4 <;> simp [h]
theorem vErr_leok {l : List LE} (h : vErr l = 0) : ∀ x ∈ l, LeOk x := by
  obtain ⟨h1, _, h3, _⟩ := vErr_zero h
  intro x hx
  obtain ⟨i, hi⟩ := mem_at hx
  have hs := h3.snd hi
  have hb := sound_bd hs
  refine ⟨sound_nm hs, ?_, ?_⟩
  · by_cases h0 : x.k = 0
    · have := hb.2.1 h0
      rw [this]; simp
    · have hi1 : 1 ≤ i := by
        rcases Nat.eq_zero_or_pos i with e | e
        · exact absurd ((h3.first hi).2 e) h0
        · exact e
      obtain ⟨y, hy, h5, h6, _⟩ := h3.behind hi1 hi
      have := (List.getElem?_eq_some_iff.1 hi).1
      omega
  · by_cases h0 : x.k = 0
    · have := hb.2.1 h0
      rw [this]; simp
    · exact (hb.2.2 h0).2.2.2.1
end Ly
def LayoutR (B : Nat) (w : World) (g c n : Nat) (e : Ending) (w' : World) : Prop := ∃ v l c', e = .returned v ∧ w'.ownsRow w.heap.size 48 8 v (l : List LE).length (flat8 l) ∧ Ly.vErr l = 0 ∧ l.length ≤ 6 * n + 4 ∧ c' ≤ c + 40 * n + 20 ∧ Mk B w' g c' ∧ w.grownBy w' (some g)
/-- The outer loop. -/
def YI (B : Nat) (w : World) (g c n : Nat) (lv ov sv : Value) (wr : World) : Prop := ∃ (l : List LE) (O : List (Int × Int)) (s c' q off cap : Nat), ov = .slice (some ⟨q, off, none⟩) O.length cap ∧ sv = .int .i64 (s : Int) ∧ Ly.LInv l O ∧ Ly.tracks l + O.length + s ≤ n + 1 ∧ s ≤ n ∧ l.length + 3 * (2 * s + O.length) ≤ 6 * n + 4 ∧ c' + 18 * (2 * s + O.length) ≤ c + 36 * n + 19 ∧ YS B w g lv l q off cap O c' wr
/-- The inner loop. -/
def YJ (B : Nat) (w : World) (g xb q off cap : Nat) (O : List (Int × Int)) (T N C : Nat) (lv rv : Value) (wr : World) : Prop := ∃ (l : List LE) (t c' : Nat) (p0 p1 : Int), rv = .int .i64 (t : Int) ∧ t ≤ 2 ∧ Ly.LInv l ((p0, p1) :: O) ∧ Ly.tracks l = T ∧ l.length + t ≤ N ∧ c' + 6 * t ≤ C ∧ Blk wr xb 75 #[.int .i64 p0, .int .i64 p1] ∧ YS B w g lv l q off cap O c' wr
def numOf : Value → Nat
  | .int _ n => n.toNat
  | _ => 0
def lenOf : Value → Nat
  | .slice _ n _ => n
  | _ => 0
theorem YS.pushQ {B g c q off cap q7 off7 cap7 : Nat} {w wr w' : World} {lv : Value} {l : List LE} {O O2 : List (Int × Int)} (h : YS B w g lv l q off cap O c wr) (hB : B ≤ w.heap.size) (hq7 : QR w' w.heap.size 75 2 q7 off7 O2.length cap7 (flatQ O2)) (hgr : wr.grownBy w' (some q)) : YS B w g lv l q7 off7 cap7 O2 c w' := by
  have hge := h.qr.ge
  refine ⟨h.mkr.grown hgr (fun e => h.qr.ne_mk h.mkr (Option.some.inj e)) (fun b e => by have := Option.some.inj e; omega), h.lo.kept hgr ?_, hq7, grown_then h.gr hgr (fun b e => .inr (by have := Option.some.inj e; omega))⟩
  exact .inr (own_ne_q h.lo h.qr)
set_option maxRecDepth 100000 in
set_option maxHeartbeats 8000000 in
theorem llayout_c (B g c n : Nat) (w : World) (h : Mk B w g c) (hc : c ≤ 1152921504606846976) (hn : n ≤ 12) (hB : B ≤ w.heap.size) :
    Calls Tryd.prog 18 #[.pointer (some ⟨g, 0, none⟩), .int .i64 (n : Int)] w (LayoutR B w g c n) := by
  have hgw := h.lt
  go_enter Tryd.func18, Tryd.ntmps18
  go_wp2_with fail
  refine (ename_c 0 w (by omega)).mono ?_
  rintro e w1 ⟨rfl, hb1⟩
  have hsz1 := hb1.size
  have h1 := h.below hb1
  have hS0 : YS B w g (.slice (some ⟨w1.heap.size, 0, none⟩) 1 1) [⟨0, Ly.ename 0, -1, 0, 0, 0, 0, 0⟩] (w1.heap.size + 1) 0 1 [(0, 0)] c ((w1.alloc (.cells #[.int .i64 0, .string (Ly.ename 0), .int .i64 (-1), .int .i64 0, .int .i64 0, .int .i64 0, .int .i64 0, .int .i64 0] 48)).alloc (.cells #[.int .i64 0, .int .i64 0] 75)) := by
    refine ⟨(h1.alloc _).alloc _, ?_, ?_, ?_⟩
    · exact (World.ownsRow_lit w1 _ 1 hsz1 (by simp [maxLen]) rfl).alloc _
    · have := QR.new (B := w.heap.size) (size := 2) (t := 75) (cs := #[.int .i64 0, .int .i64 0]) (w1.alloc (.cells #[.int .i64 0, .string (Ly.ename 0), .int .i64 (-1), .int .i64 0, .int .i64 0, .int .i64 0, .int .i64 0, .int .i64 0] 48)) (by simp; omega) 1 rfl (by simp [maxLen])
      simpa [flatQ] using this
    · have h2 : Below w.heap.size w ((w1.alloc (.cells #[.int .i64 0, .string (Ly.ename 0), .int .i64 (-1), .int .i64 0, .int .i64 0, .int .i64 0, .int .i64 0, .int .i64 0] 48)).alloc (.cells #[.int .i64 0, .int .i64 0] 75)) := (hb1.alloc hsz1 _).alloc (by simp; omega) _
      exact ⟨h2.os, h2.tape, h2.output, h2.size, fun i hi _ => h2.block i hi⟩
  have HS0 := Lib.hid hS0
  have hm0 := hS0.mkr
  clear hS0 h1
  go_wp2_with fail
  refine (next_c B g c ((n : Int) + 1) _ hm0 (by omega) (by omega) (by omega)).mono ?_
  rintro e w2 ⟨x, hx0, hx1, rfl, hm2, hg2⟩
  obtain ⟨s0, rfl⟩ := Int.eq_ofNat_of_zero_le hx0
  have hS2 := HS0.out.next hm2 hg2
  clear hm2 hg2 hm0 HS0
  have hI0 := Lib.hid Ly.LInv.start
  go_wp2_with fail
  go_loopw [5, 6, 7] (fun lv ov sv wr => YI B w g c n lv ov sv wr) (fun _ ov sv _ => 2 * numOf sv + lenOf ov)
  case atStart => exact (show YI _ _ _ _ _ _ _ _ _ from ⟨_, [(0, 0)], s0, c + 1, _, _, _, rfl, rfl, hI0.out, by simp [Ly.tracks]; omega, by omega, by simp; omega, by simp; omega, hS2⟩)
  case round =>
    obtain ⟨l, O, s, c', q, off, cap, rfl, rfl, hI, hT, hs, hL, hC, hS⟩ := hrel
    clear hS2 hI0
    have HI := Lib.hid hI
    clear hI
    obtain ⟨Al, cl, rfl, hcl1, hcl2⟩ := own_form hS.lo
    have hcap := hS.qr.le
    have hcm := hS.qr.cm
    unfold maxLen at hcm
    cases O with
    | nil =>
      have hlo := hS.lo
      have HV := Lib.hid (Ly.LInv.valid HI.out (by simp at hL; omega) (by simp at hT; omega))
      go_wp2_with fail
      go_ret
      exact (show LayoutR _ _ _ _ _ _ _ from ⟨_, l, c', rfl, hlo, HV.out, by omega, by simp at hC; omega, hS.mkr, hS.gr⟩)
    | cons a O' =>
      obtain ⟨p0, p1⟩ := a
      obtain ⟨hc0, hc1⟩ := hS.head
      simp only at hc0 hc1
      obtain ⟨N, hN⟩ : ∃ N, O'.length = N := ⟨_, rfl⟩
      simp only [List.length_cons, hN] at hT hL hC hcap ⊢
      have HN := Lib.hid hN
      clear hN
      obtain ⟨off2, hoff2⟩ : ∃ o, (if cap = 1 then off else off + 2) = o := ⟨_, rfl⟩
      have hA : (if cap = 1 then (some ⟨q, off, none⟩ : Option Addr) else some ⟨q, off + 2, none⟩) = some ⟨q, off2, none⟩ := by rw [← hoff2]; split <;> rfl
      have hT2 := hS.tail
      rw [hoff2] at hT2
      have hX := Blk.new wr 75 #[.int .i64 p0, .int .i64 p1]
      have hS3 := hT2.alloc (.cells #[.int .i64 p0, .int .i64 p1] 75)
      have hql := hS.qr.lt
      have hszr := hS.gr.size
      clear hoff2 hT2
      have hcap1 : 1 ≤ cap := by omega
      go_wp2_with fail
      refine (next_c B g c' 3 _ hS3.mkr (by omega) (by omega) (by omega)).mono ?_
      rintro e w3 ⟨r0, hr0, hr1, rfl, hm3, hg3⟩
      obtain ⟨rn, rfl⟩ := Int.eq_ofNat_of_zero_le hr0
      have hS4 := hS3.next hm3 hg3
      have hX4 := hX.grown hg3 (fun e => by have := Option.some.inj e; omega)
      obtain ⟨xb, hxb⟩ : ∃ xb, wr.heap.size = xb := ⟨_, rfl⟩
      rw [hxb] at hX4 hql hszr ⊢
      obtain ⟨T, hTT⟩ : ∃ T, Ly.tracks l = T := ⟨_, rfl⟩
      rw [hTT] at hT
      have HTT := Lib.hid hTT
      clear hm3 hg3 hS3 hX hS hc0 hc1 hxb hTT hcl1 hcl2
      go_wp2_with fail
      go_loopw [5, 9] (fun lv rv wi => YJ B w g xb q off2 (cap - 1) O' T (l.length + 2) (c' + 13) lv rv wi) (fun _ rv _ => numOf rv)
      case atStart => exact (show YJ _ _ _ _ _ _ _ _ _ _ _ _ _ _ from ⟨l, rn, c' + 1, p0, p1, rfl, by omega, HI.out, HTT.out, by omega, by omega, hX4, hS4⟩)
      case round =>
        obtain ⟨lj, t, cj, y0, y1, rfl, ht2, hIj, hTj, hNj, hCj, hXj, hSj⟩ := hrel
        clear hS4 hX4
        have HIj := Lib.hid hIj
        have HTj := Lib.hid hTj
        clear hIj hTj
        obtain ⟨Aj, clj, rfl, hclj1, hclj2⟩ := own_form hSj.lo
        have hXl := hXj.lt
        have hgl := hSj.mkr.lt
        have hy := HIj.out.free (y0, y1) (by simp)
        have hy1 : 0 ≤ y1 ∧ y1 ≤ 2 := ⟨hy.2.2.1, hy.2.2.2.1⟩
        have hqx : q ≠ xb := by omega
        have hlj : lj.length ≤ 100 := by omega
        clear hy
        by_cases ht0 : 0 < t
        · have d1 : decide ((0 : Int) < (t : Int)) = true := decide_eq_true (by omega)
          have d1' : decide (0 < t) = true := decide_eq_true ht0
          obtain ⟨t', rfl⟩ : ∃ t', t = t' + 1 := ⟨t - 1, by omega⟩
          have hSa := hSj.alloc (.cells #[.int .i64 1, .int .i64 1, .int .i64 2] 3)
          have hXa := hXj.alloc (.cells #[.int .i64 1, .int .i64 1, .int .i64 2] 3)
          go_wp2_with fail
          refine (pick_c B g cj wr.heap.size 3 _ [1, 1, 2] _ hSa.mkr (by omega) (by omega) (by omega) (by omega) (IR.new _ 3 rfl rfl (by simp [maxLen]))).mono ?_
          rintro e w4 ⟨kd, hkd, rfl, hm4, hg4⟩
          have hSb := hSa.next hm4 hg4
          have hXb := hXa.grown hg4 (fun e => by have := Option.some.inj e; have := hSj.mkr.lt; have := hSj.mkr.ge; have := hXj.ne_ hSj.mkr.blk.choose_spec.choose_spec.choose_spec.choose_spec.1 (by decide); omega)
          have hkd1 : 1 ≤ kd ∧ kd ≤ 2 := by simp at hkd; omega
          have x0 : w4.cell? ⟨xb, 0, none⟩ = some (.int .i64 y0) := hXb.cell 0
          have x1 : w4.cell? ⟨xb, 1, none⟩ = some (.int .i64 y1) := hXb.cell 1
          clear hm4 hg4 hSa hXa hkd hSj hXj
          go_wp2_with fail
          refine (elem_c B g (cj + 1) lj.length kd y0 y1 w4 hSb.mkr (by omega) (by omega) (by omega) hy1).mono ?_
          rintro e w5 ⟨x, cx, rfl, hxk, hxn, hxp, hxs, hxo, hcx, hm5, hg5⟩
          have hSc := hSb.next hm5 hg5
          have hXc := hXb.grown hg5 (fun e => by have := Option.some.inj e; have := hXb.ne_ hSb.mkr.blk.choose_spec.choose_spec.choose_spec.choose_spec.1 (by decide); omega)
          have hHI := Lib.hid (Ly.LInv.put (x := x) (O := O') (by rw [hxp, hxs]; exact HIj.out) (by omega) hxo (by omega) hxn)
          have Hnews : Hid (Ly.news x.k lj.length = [((lj.length : Int), 0)]) := Lib.hid (by unfold Ly.news; rw [if_neg (by omega), if_neg (by omega)])
          have HTk := Lib.hid ((Ly.tracks_app lj x).trans (by rw [if_neg (by omega), Nat.add_zero, HTj.out]))
          clear hm5 hg5 hSb hXb x0 x1 hxk hxn hxp hxs hxo
          have hlo := hSc.lo
          have hszc := hSc.gr.size
          have hl72 : (lj.length + 1) * 72 ≤ 140737488355328 := by omega
          unfold leV
          go_wp2_with (at_builtin
                       go_must (
                       refine wpList_pushb sl72 rfl (.tmp 37) (.tmp 47) rfl w.heap.size _ _ _ rfl hlo 1 1 w5.heap.size (by simp) rfl rfl rfl (by simp only [maxLen]; omega) hl72 hszc ?_
                       intro v' w6 own6 hgr
                       have hne6 := own_blk_ne hlo hXc (by decide)
                       have hSd := hSc.pushL (l' := lj ++ [x]) hB (by rw [List.length_append, flat8_snoc]; exact own6) hgr
                       have hXd := hXc.grown hgr.grown (fun e => hne6 e.symm)
                       have hne7 := own_blk_ne hSd.lo hXd (by decide)
                       obtain ⟨Ad, cd, rfl, hcd1, hcd2⟩ := own_form own6
                       have x0 : w6.cell? ⟨xb, 0, none⟩ = some (.int .i64 y0) := hXd.cell 0
                       have x1 : w6.cell? ⟨xb, 1, none⟩ = some (.int .i64 y1) := hXd.cell 1
                       have z0 := hXd.frozen 0
                       have z1 := hXd.frozen 1))
          have hSe := (hSd.setX hgw hB (by have := hszr; omega) hXd hqx 0 (.int .i64 (lj.length : Int))).setX hgw hB (by omega) (hXd.set_ 0 (.int .i64 (lj.length : Int))) hqx 1 (.int .i64 0)
          have hXe := (hXd.set_ 0 (.int .i64 (lj.length : Int))).set_ 1 (.int .i64 0)
          go_roundw
          case rel => exact (show YJ _ _ _ _ _ _ _ _ _ _ _ _ _ _ from ⟨lj ++ [x], t', cx, (lj.length : Int), 0, rfl, by omega, by have := hHI.out; rw [Hnews.out] at this; exact this, HTk.out, by simp; omega, by omega, by simpa using hXe, by simpa using hSe⟩)
          case measure => simp [numOf]
        · obtain rfl : t = 0 := by omega
          have x0 : wr.cell? ⟨xb, 0, none⟩ = some (.int .i64 y0) := hXj.cell 0
          have x1 : wr.cell? ⟨xb, 1, none⟩ = some (.int .i64 y1) := hXj.cell 1
          by_cases hs0 : 0 < s
          · have d2 : decide ((0 : Int) < (s : Int)) = true := decide_eq_true (by omega)
            have d2' : decide (0 < s) = true := decide_eq_true hs0
            obtain ⟨s', rfl⟩ : ∃ s', s = s' + 1 := ⟨s - 1, by omega⟩
            go_wp2_with fail
            refine (elem_c B g cj lj.length 3 y0 y1 wr hSj.mkr (by omega) (by omega) (by omega) hy1).mono ?_
            rintro e w5 ⟨x, cx, rfl, hxk, hxn, hxp, hxs, hxo, hcx, hm5, hg5⟩
            have hSc := hSj.next hm5 hg5
            have hHI := Lib.hid (Ly.LInv.put (x := x) (O := O') (by rw [hxp, hxs]; exact HIj.out) (by omega) hxo (by omega) hxn)
            have Hnews : Hid (Ly.news x.k lj.length = [((lj.length : Int), 1), ((lj.length : Int), 2)]) := Lib.hid (by unfold Ly.news; rw [if_pos hxk])
            have HTk := Lib.hid ((Ly.tracks_app lj x).trans (by rw [if_neg (by omega), Nat.add_zero, HTj.out]))
            clear hm5 hg5 hSj hXj x0 x1 hxk hxn hxp hxs hxo
            have hlo := hSc.lo
            have hszc := hSc.gr.size
            have hl72 : (lj.length + 1) * 72 ≤ 140737488355328 := by omega
            have hN63 : N + 2 ≤ maxLen := by unfold maxLen; omega
            have hN16 : (N + 2) * 16 ≤ 140737488355328 := by omega
            unfold leV
            go_wp2_with (first
              | (at_builtin
                 have hguard := hlo
                 clear hguard
                 go_must (
                 refine wpList_pushb sl72 rfl (.tmp 57) (.tmp 66) rfl w.heap.size _ _ _ rfl hlo 1 1 w5.heap.size (by simp) rfl rfl rfl (by simp only [maxLen]; omega) hl72 hszc ?_
                 intro v' w6 own6 hgr
                 have hSd := hSc.pushL (l' := lj ++ [x]) hB (by rw [List.length_append, flat8_snoc]; exact own6) hgr
                 have hqr := hSd.qr
                 rw [HN.out] at hqr
                 have hszd := hSd.gr.size
                 obtain ⟨Ad, cd, rfl, hcd1, hcd2⟩ := own_form own6
                 clear hlo own6 hgr))
              | (at_builtin
                 have hguard := hqr
                 clear hguard
                 go_must (
                 refine wpList_pushq rfl (.tmp 68) (.tmp 77) rfl rfl hqr 2 2 w6.heap.size rfl rfl rfl rfl hN63 hN16 hszd (by omega) ?_
                 intro q7 off7 cap7 w7 hq7 hgr7 hqq)))
            have hq8 : QR w7 w.heap.size 75 2 q7 off7 (O' ++ [((lj.length : Int), 1), ((lj.length : Int), 2)]).length cap7 (flatQ (O' ++ [((lj.length : Int), 1), ((lj.length : Int), 2)])) := by
              rw [List.length_append, HN.out, flatQ_app]; exact hq7
            have hSe := hSd.pushQ hB hq8 hgr7
            have hIe : Ly.LInv (lj ++ [x]) (O' ++ [((lj.length : Int), 1), ((lj.length : Int), 2)]) := by
              have := hHI.out
              rw [Hnews.out] at this
              exact this.perm List.perm_append_comm
            go_roundw
            case rel => exact (show YI _ _ _ _ _ _ _ _ _ from ⟨lj ++ [x], O' ++ [((lj.length : Int), 1), ((lj.length : Int), 2)], s', cx, q7, off7, cap7, by rw [List.length_append, HN.out]; rfl, rfl, hIe, by rw [HTk.out, List.length_append, HN.out]; simp; omega, by omega, by rw [List.length_append, List.length_append, HN.out]; simp; omega, by rw [List.length_append, HN.out]; simp; omega, hSe⟩)
            case measure => simp [numOf, lenOf]; omega
          · obtain rfl : s = 0 := by omega
            go_wp2_with fail
            refine (elem_c B g cj lj.length 4 y0 y1 wr hSj.mkr (by omega) (by omega) (by omega) hy1).mono ?_
            rintro e w5 ⟨x, cx, rfl, hxk, hxn, hxp, hxs, hxo, hcx, hm5, hg5⟩
            have hSc := hSj.next hm5 hg5
            have hHI := Lib.hid (Ly.LInv.put (x := x) (O := O') (by rw [hxp, hxs]; exact HIj.out) (by omega) hxo (by omega) hxn)
            have Hnews : Hid (Ly.news x.k lj.length = []) := Lib.hid (by unfold Ly.news; rw [if_neg (by omega), if_pos hxk])
            have HTk := Lib.hid ((Ly.tracks_app lj x).trans (by rw [if_pos hxk, HTj.out]))
            clear hm5 hg5 hSj hXj x0 x1 hxk hxn hxp hxs hxo
            have hlo := hSc.lo
            have hszc := hSc.gr.size
            have hl72 : (lj.length + 1) * 72 ≤ 140737488355328 := by omega
            unfold leV
            go_wp2_with (at_builtin
                         go_must (
                         refine wpList_pushb sl72 rfl (.tmp 79) (.tmp 88) rfl w.heap.size _ _ _ rfl hlo 1 1 w5.heap.size (by simp) rfl rfl rfl (by simp only [maxLen]; omega) hl72 hszc ?_
                         intro v' w6 own6 hgr
                         have hSd := hSc.pushL (l' := lj ++ [x]) hB (by rw [List.length_append, flat8_snoc]; exact own6) hgr))
            go_roundw
            case rel => exact (show YI _ _ _ _ _ _ _ _ _ from ⟨lj ++ [x], O', 0, cx, q, off2, cap - 1, by rw [HN.out], rfl, by have := hHI.out; rw [Hnews.out] at this; exact this, by rw [HTk.out, HN.out]; omega, by omega, by rw [List.length_append, HN.out]; simp; omega, by rw [HN.out]; omega, hSd⟩)
            case measure => simp [numOf, lenOf]
end Go.Proofs.YtmjdjcpmkdninaaDoor
