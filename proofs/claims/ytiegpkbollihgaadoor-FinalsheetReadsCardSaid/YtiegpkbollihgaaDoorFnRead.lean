/- The reference's reader of a sheet's line. -/
import Derived.Test.YtiegpkbollihgaaDoorFnTake
import Derived.Test.YtiegpkbollihgaaDoorRow
import Derived.Deep.RegionLaw
import Derived.StillTailTactics
namespace Go.Proofs.YtiegpkbollihgaaDoor
open Go.RowKit
/-- The reference's reader: its block and the two rows. -/
def RdQ (B rb : Nat) (r : Fn.RS) (W : World) : Prop := ∃ (vW vS : Value) (b0 b1 b2 b3 b4 b5 b6 : Int), Blk W rb 71 #[.int .i64 (r.part : Int), .string r.f.nm, vW, .int .i64 b0, .int .i64 b1, .int .i64 b2, .int .i64 b3, .int .i64 b4, .int .i64 b5, .int .i64 b6, vS, .int .i64 r.ck] ∧ W.ownsRow B 34 8 vW r.f.ws.length (flatW r.f.ws) ∧ W.ownsRow B 39 3 vS r.f.so.length (flatS r.f.so) ∧ r.f.bk = [b0, b1, b2, b3, b4, b5, b6] ∧ B ≤ rb
def ReadR (B rb : Nat) (p : List UInt8) (r : Fn.RS) (W : World) (e : Ending) (W' : World) : Prop := (match Fn.take r (Tx.cutAt 32 p) with
  | none => e = .returned (.bool false)
  | some r' => e = .returned (.bool true) ∧ RdQ B rb r' W') ∧ Below B W W'
theorem readR_no {B rb : Nat} {p : List UInt8} {r : Fn.RS} {W W' : World} (h : Fn.take r (Tx.cutAt 32 p) = none) (hb : Below B W W') : ReadR B rb p r W (.returned (.bool false)) W' := by
  unfold ReadR; rw [h]; exact ⟨rfl, hb⟩
theorem readR_ok {B rb : Nat} {p : List UInt8} {r r' : Fn.RS} {W W' : World} (h : Fn.take r (Tx.cutAt 32 p) = some r') (hr : RdQ B rb r' W') (hb : Below B W W') : ReadR B rb p r W (.returned (.bool true)) W' := by
  unfold ReadR; rw [h]; exact ⟨⟨rfl, hr⟩, hb⟩
theorem bytes_map {L : List ByteArray} {Ws : List (List UInt8)} (h : Ws = bytesOfL L) : L.map Value.string = (Ws.map baOf).map Value.string := by
  subst h
  unfold bytesOfL
  rw [List.map_map, List.map_map]
  rfl
theorem below_row {B rb : Nat} {W0 W W' : World} (hb : Below B W0 W) (hg : W.grownBy W' (some rb)) (hB : B ≤ rb) (hlt : rb < W.heap.size) : Below B W0 W' := hb.grown hg (by omega) (fun k e => by cases e; exact hB)
end Go.Proofs.YtiegpkbollihgaaDoor
namespace Go.Proofs.YtiegpkbollihgaaDoor
open Go.RowKit
set_option maxRecDepth 100000 in
set_option maxHeartbeats 16000000 in
theorem rk_A (B rb : Nat) (p : List UInt8) (r : Fn.RS) (W : World) (h : RdQ B rb r W) (hB : B ≤ W.heap.size) (hp : p.length ≤ 20000) (h0 : r.part = 0):
    Calls Tryd.prog 31 #[.pointer (some ⟨rb, 0, none⟩), .string (baOf p)] W (ReadR B rb p r W) := by
  have hbz : (baOf p).size = p.length := by simp [baOf, ByteArray.size]
  have HSp := Lib.hid (words_c (baOf p) W (by rw [hbz]; omega))
  obtain ⟨vW, vS, b0, b1, b2, b3, b4, b5, b6, hX0, oW0, oS0, hbk, hBrb⟩ := h
  have Hbk := Lib.hid hbk
  have Hwz := Lib.hid (fun q (hq : q ∈ Tx.cutAt 32 p) => Tx.pieceLen 32 p q hq)
  clear hbk
  go_enter Tryd.func31, Tryd.ntmps31
  go_wp2_with fail
  refine HSp.out.mono ?_
  rintro e w1 ⟨L', n, v, rfl, oL, hL, hn2, hb1w⟩
  rw [baOf_data] at hL
  obtain ⟨Ws, hWs⟩ : ∃ Ws, Tx.cutAt 32 p = Ws := ⟨_, rfl⟩
  have HWs := Lib.hid hWs
  rw [hWs] at hL Hwz
  rw [hbz] at hn2
  rw [bytes_map hL] at oL
  have hlW : Ws.length = n := by have := oL.1; simpa using this
  have hn1 : 1 ≤ n := by rw [← hlW]; exact Nat.one_le_iff_ne_zero.2 (fun e => Tx.cutAt_ne 32 p (by rw [hWs]; exact List.eq_nil_of_length_eq_zero e))
  obtain ⟨gs, cs, rfl, _⟩ := oL.form (by omega)
  obtain ⟨Aq, cq, eq, hcs1, hcs2⟩ := own_form oL
  injection eq with eA _ eC
  subst eC
  have hX : Blk w1 rb 71 #[.int .i64 (r.part : Int), .string r.f.nm, vW, .int .i64 b0, .int .i64 b1, .int .i64 b2, .int .i64 b3, .int .i64 b4, .int .i64 b5, .int .i64 b6, vS, .int .i64 r.ck] := hX0.below hb1w hX0.lt
  have oW := own_below oW0 hb1w
  have oS := own_below oS0 hb1w
  have hb1 : Below B W w1 := hb1w.mono hB
  have hS : StrR w1 (some ⟨gs, 0, none⟩) n Ws := StrR.own oL
  have hz : ∀ j, (Fn.wd Ws j).length ≤ 20000 := fun j => by
    unfold Fn.wd
    rw [List.getD_eq_getElem?_getD]
    cases hq : Ws[j]? with
    | none => exact Nat.zero_le _
    | some q => have := Hwz.out q (List.mem_of_getElem? hq); simp only [Option.getD_some]; omega
  have Hz := Lib.hid hz
  have HlW := Lib.hid hlW
  obtain ⟨ad0, e0, _, hcc⟩ := hS.2 (by omega)
  obtain rfl := Option.some.inj e0
  have c0 : w1.cell? ⟨gs, 0, none⟩ = some (.string (baOf (Fn.wd Ws 0))) := hcc 0 (by omega)
  have HC1 : Hid (1 < n → w1.cell? ⟨gs, 1, none⟩ = some (.string (baOf (Fn.wd Ws 1)))) := Lib.hid (fun h => hcc 1 h)
  have HS := Lib.hid hS
  have hle1 := hb1.size
  have hn0i : (0 : Int) < (n : Int) := by omega
  have hlen : cs ≤ 9223372036854775807 := by unfold maxLen at hcs2; omega
  have hnci : (n : Int) ≤ (cs : Int) := by omega
  obtain ⟨bt, hbt⟩ : ∃ b, decide (Fn.wd Ws 0 = Fn.wTrain) = b := ⟨_, rfl⟩
  obtain ⟨bw, hbw⟩ : ∃ b, decide (Fn.wd Ws 0 = Fn.wWagon) = b := ⟨_, rfl⟩
  obtain ⟨bb, hbb⟩ : ∃ b, decide (Fn.wd Ws 0 = Fn.wBrakes) = b := ⟨_, rfl⟩
  obtain ⟨bs, hbs⟩ : ∃ b, decide (Fn.wd Ws 0 = Fn.wSetout) = b := ⟨_, rfl⟩
  obtain ⟨be, hbe⟩ : ∃ b, decide (Fn.wd Ws 0 = Fn.wEnd) = b := ⟨_, rfl⟩
  obtain ⟨s0, hs0⟩ : ∃ s, baOf (Fn.wd Ws 0) = s := ⟨_, rfl⟩
  have et : (s0.toList == [116, 114, 97, 105, 110]) = bt := by rw [← hs0, ba_eqW]; exact hbt
  have ew : (s0.toList == [119, 97, 103, 111, 110]) = bw := by rw [← hs0, ba_eqW]; exact hbw
  have eb : (s0.toList == [98, 114, 97, 107, 101, 115]) = bb := by rw [← hs0, ba_eqW]; exact hbb
  have es : (s0.toList == [115, 101, 116, 111, 117, 116]) = bs := by rw [← hs0, ba_eqW]; exact hbs
  have ee : (s0.toList == [101, 110, 100]) = be := by rw [← hs0, ba_eqW]; exact hbe
  rw [hs0] at c0
  have Hbt := Lib.hid hbt
  have Hbw := Lib.hid hbw
  have Hbb := Lib.hid hbb
  have Hbs := Lib.hid hbs
  have Hbe := Lib.hid hbe
  have x0 : w1.cell? ⟨rb, 0, none⟩ = some (.int .i64 (r.part : Int)) := hX.cell 0
  have Htk : Hid (∀ e W', (Fn.take r Ws = none → e = .returned (.bool false) → Below B W W' → ReadR B rb p r W e W') ∧ (∀ r', Fn.take r Ws = some r' → e = .returned (.bool true) → RdQ B rb r' W' → Below B W W' → ReadR B rb p r W e W')) := Lib.hid (fun e W' => ⟨fun h1 h2 h3 => by subst h2; exact readR_no (by rw [HWs.out]; exact h1) h3, fun r' h1 h2 h3 h4 => by subst h2; exact readR_ok (by rw [HWs.out]; exact h1) h3 h4⟩)
  clear hbt hbw hbb hbs hbe hs0 hcc e0 hWs hL hX0 oW0 oS0 hz hlW hS HSp HWs hbz Hwz hb1w oL hcs2 eA
  have e0 : ((r.part : Int) == 0) = true := by simp; omega
  have e1 : ((r.part : Int) == 1) = false := by simp; omega
  have e2 : ((r.part : Int) == 2) = false := by simp; omega
  by_cases h2 : n = 2
  case neg =>
    have d2 : ((n : Int) == 2) = false := by simp; omega
    have HN := Lib.hid (Fn.take_no0 h0 (fun e => h2 (by rw [← HlW.out]; exact e.2.1)))
    clear h0 h2
    go_wp2_with fail
    go_ret
    exact (Htk.out _ _).1 HN.out rfl hb1
  case pos =>
    have d2 : ((n : Int) == 2) = true := by simp; omega
    cases bt with
    | false =>
      have HN := Lib.hid (Fn.take_no0 h0 (fun e => of_decide_eq_false Hbt.out e.1))
      clear h0 h2
      go_wp2_with fail
      go_ret
      exact (Htk.out _ _).1 HN.out rfl hb1
    | true =>
      have h1i : (1 : Int) < (n : Int) := by omega
      have c1 := HC1.out (by omega)
      obtain ⟨p1, hp1⟩ : ∃ b, Fn.plainW (Fn.wd Ws 1) = b := ⟨_, rfl⟩
      have HP1 : Hid (∀ V, Calls Tryd.prog 51 #[.string (baOf (Fn.wd Ws 1))] V fun e w' => e = .returned (.bool p1) ∧ V = w') := Lib.hid (fun V => by
        have := word_c (baOf (Fn.wd Ws 1)) V (by have := Hz.out 1; rw [show (baOf (Fn.wd Ws 1)).size = (Fn.wd Ws 1).length by simp [baOf, ByteArray.size]]; unfold maxLen; omega)
        rwa [baOf_data, hp1] at this)
      have Hp1 := Lib.hid hp1
      clear hp1
      cases p1 with
      | false =>
        have HN := Lib.hid (Fn.take_no0 (w := Ws) h0 (fun e => by have := Hp1.out; rw [e.2.2] at this; cases this))
        clear h0 h2
        go_wp2_with fail
        refine (HP1.out _).mono ?_
        rintro e w2 ⟨rfl, rfl⟩
        go_wp2_with fail
        go_ret
        exact (Htk.out _ _).1 HN.out rfl hb1
      | true =>
        have HN := Lib.hid (Fn.take_train h0 (of_decide_eq_true Hbt.out) (by rw [HlW.out]; exact h2) Hp1.out)
        obtain ⟨s1, hs1⟩ : ∃ s, baOf (Fn.wd Ws 1) = s := ⟨_, rfl⟩
        rw [hs1] at HN HP1 c1
        have f0 := hX.frozen 1
        have y0 : w1.cell? ⟨rb, 1, none⟩ = some (.string r.f.nm) := hX.cell 1
        have oW2 := own_farB (j := 1) oW hX (by decide) (.string s1)
        have oS2 := own_farB (j := 1) oS hX (by decide) (.string s1)
        have hX2 := hX.set_ 1 (.string s1)
        have oW3 := own_farB (j := 0) oW2 hX2 (by decide) (.int .i64 1)
        have oS3 := own_farB (j := 0) oS2 hX2 (by decide) (.int .i64 1)
        have hX3 := hX2.set_ 0 (.int .i64 1)
        have hb3 := (hb1.setCell (p := ⟨rb, 1, none⟩) hBrb (.string s1)).setCell (p := ⟨rb, 0, none⟩) hBrb (.int .i64 1)
        have HQ : Hid (RdQ B rb ⟨1, ⟨s1, r.f.ws, r.f.bk, r.f.so⟩, r.ck⟩ ((w1.setCell ⟨rb, 1, none⟩ (.string s1)).setCell ⟨rb, 0, none⟩ (.int .i64 1))) := Lib.hid ⟨vW, vS, b0, b1, b2, b3, b4, b5, b6, hX3, oW3, oS3, Hbk.out, hBrb⟩
        have Hb := Lib.hid hb3
        have f10b := hX2.frozen 0
        have y10b := hX2.cell 0
        have f10 := hX.frozen 0
        clear h0 h2 hs1 oW2 oS2 hX2 oW3 oS3 hX3 hb3
        go_wp2_with fail
        refine (HP1.out _).mono ?_
        rintro e w2 ⟨rfl, rfl⟩
        go_wp2_with fail
        go_ret
        exact (Htk.out _ _).2 _ HN.out rfl HQ.out Hb.out
end Go.Proofs.YtiegpkbollihgaaDoor
namespace Go.Proofs.YtiegpkbollihgaaDoor
open Go.RowKit
set_option maxRecDepth 100000 in
set_option maxHeartbeats 16000000 in
theorem rk_B (B rb : Nat) (p : List UInt8) (r : Fn.RS) (W : World) (h : RdQ B rb r W) (hB : B ≤ W.heap.size) (hp : p.length ≤ 20000) (hws : r.f.ws.length ≤ 20000) (h1 : r.part = 1) (hw : Fn.wd (Tx.cutAt 32 p) 0 = Fn.wWagon):
    Calls Tryd.prog 31 #[.pointer (some ⟨rb, 0, none⟩), .string (baOf p)] W (ReadR B rb p r W) := by
  have hbz : (baOf p).size = p.length := by simp [baOf, ByteArray.size]
  have HSp := Lib.hid (words_c (baOf p) W (by rw [hbz]; omega))
  obtain ⟨vW, vS, b0, b1, b2, b3, b4, b5, b6, hX0, oW0, oS0, hbk, hBrb⟩ := h
  have Hbk := Lib.hid hbk
  have Hwz := Lib.hid (fun q (hq : q ∈ Tx.cutAt 32 p) => Tx.pieceLen 32 p q hq)
  clear hbk
  go_enter Tryd.func31, Tryd.ntmps31
  go_wp2_with fail
  refine HSp.out.mono ?_
  rintro e w1 ⟨L', n, v, rfl, oL, hL, hn2, hb1w⟩
  rw [baOf_data] at hL
  obtain ⟨Ws, hWs⟩ : ∃ Ws, Tx.cutAt 32 p = Ws := ⟨_, rfl⟩
  have HWs := Lib.hid hWs
  rw [hWs] at hL Hwz hw
  rw [hbz] at hn2
  rw [bytes_map hL] at oL
  have hlW : Ws.length = n := by have := oL.1; simpa using this
  have hn1 : 1 ≤ n := by rw [← hlW]; exact Nat.one_le_iff_ne_zero.2 (fun e => Tx.cutAt_ne 32 p (by rw [hWs]; exact List.eq_nil_of_length_eq_zero e))
  obtain ⟨gs, cs, rfl, _⟩ := oL.form (by omega)
  obtain ⟨Aq, cq, eq, hcs1, hcs2⟩ := own_form oL
  injection eq with eA _ eC
  subst eC
  have hX : Blk w1 rb 71 #[.int .i64 (r.part : Int), .string r.f.nm, vW, .int .i64 b0, .int .i64 b1, .int .i64 b2, .int .i64 b3, .int .i64 b4, .int .i64 b5, .int .i64 b6, vS, .int .i64 r.ck] := hX0.below hb1w hX0.lt
  have oW := own_below oW0 hb1w
  have oS := own_below oS0 hb1w
  have hb1 : Below B W w1 := hb1w.mono hB
  have hS : StrR w1 (some ⟨gs, 0, none⟩) n Ws := StrR.own oL
  have hz : ∀ j, (Fn.wd Ws j).length ≤ 20000 := fun j => by
    unfold Fn.wd
    rw [List.getD_eq_getElem?_getD]
    cases hq : Ws[j]? with
    | none => exact Nat.zero_le _
    | some q => have := Hwz.out q (List.mem_of_getElem? hq); simp only [Option.getD_some]; omega
  have Hz := Lib.hid hz
  have HlW := Lib.hid hlW
  obtain ⟨ad0, e0, _, hcc⟩ := hS.2 (by omega)
  obtain rfl := Option.some.inj e0
  have c0 : w1.cell? ⟨gs, 0, none⟩ = some (.string (baOf (Fn.wd Ws 0))) := hcc 0 (by omega)
  have HC1 : Hid (1 < n → w1.cell? ⟨gs, 1, none⟩ = some (.string (baOf (Fn.wd Ws 1)))) := Lib.hid (fun h => hcc 1 h)
  have HS := Lib.hid hS
  have hle1 := hb1.size
  have hn0i : (0 : Int) < (n : Int) := by omega
  have hlen : cs ≤ 9223372036854775807 := by unfold maxLen at hcs2; omega
  have hnci : (n : Int) ≤ (cs : Int) := by omega
  obtain ⟨bt, hbt⟩ : ∃ b, decide (Fn.wd Ws 0 = Fn.wTrain) = b := ⟨_, rfl⟩
  obtain ⟨bw, hbw⟩ : ∃ b, decide (Fn.wd Ws 0 = Fn.wWagon) = b := ⟨_, rfl⟩
  obtain ⟨bb, hbb⟩ : ∃ b, decide (Fn.wd Ws 0 = Fn.wBrakes) = b := ⟨_, rfl⟩
  obtain ⟨bs, hbs⟩ : ∃ b, decide (Fn.wd Ws 0 = Fn.wSetout) = b := ⟨_, rfl⟩
  obtain ⟨be, hbe⟩ : ∃ b, decide (Fn.wd Ws 0 = Fn.wEnd) = b := ⟨_, rfl⟩
  obtain ⟨s0, hs0⟩ : ∃ s, baOf (Fn.wd Ws 0) = s := ⟨_, rfl⟩
  have et : (s0.toList == [116, 114, 97, 105, 110]) = bt := by rw [← hs0, ba_eqW]; exact hbt
  have ew : (s0.toList == [119, 97, 103, 111, 110]) = bw := by rw [← hs0, ba_eqW]; exact hbw
  have eb : (s0.toList == [98, 114, 97, 107, 101, 115]) = bb := by rw [← hs0, ba_eqW]; exact hbb
  have es : (s0.toList == [115, 101, 116, 111, 117, 116]) = bs := by rw [← hs0, ba_eqW]; exact hbs
  have ee : (s0.toList == [101, 110, 100]) = be := by rw [← hs0, ba_eqW]; exact hbe
  rw [hs0] at c0
  have Hbt := Lib.hid hbt
  have Hbw := Lib.hid hbw
  have Hbb := Lib.hid hbb
  have Hbs := Lib.hid hbs
  have Hbe := Lib.hid hbe
  have x0 : w1.cell? ⟨rb, 0, none⟩ = some (.int .i64 (r.part : Int)) := hX.cell 0
  have Htk : Hid (∀ e W', (Fn.take r Ws = none → e = .returned (.bool false) → Below B W W' → ReadR B rb p r W e W') ∧ (∀ r', Fn.take r Ws = some r' → e = .returned (.bool true) → RdQ B rb r' W' → Below B W W' → ReadR B rb p r W e W')) := Lib.hid (fun e W' => ⟨fun h1 h2 h3 => by subst h2; exact readR_no (by rw [HWs.out]; exact h1) h3, fun r' h1 h2 h3 h4 => by subst h2; exact readR_ok (by rw [HWs.out]; exact h1) h3 h4⟩)
  clear hbt hbw hbb hbs hbe hs0 hcc e0 hWs hL hX0 oW0 oS0 hz hlW hS HSp HWs hbz Hwz hb1w oL hcs2 eA
  have e0 : ((r.part : Int) == 0) = false := by simp; omega
  have e1 : ((r.part : Int) == 1) = true := by simp; omega
  have e2 : ((r.part : Int) == 2) = false := by simp; omega
  cases bw with
  | true =>
    have Hd := Lib.hid (Fn.take_wag h1 (of_decide_eq_true Hbw.out))
    clear h1
    have HF := Lib.hid (rwagon_c gs n cs Ws w1 hcs1 (by unfold maxLen; omega) HS.out (fun j => by have := Hz.out j; omega))
    go_wp2_with fail
    refine HF.out.mono ?_
    rintro e w2 ⟨x, ok, rfl, hq, hb2⟩
    have hX2 := hX.below hb2 hX.lt
    have oW2 := own_below oW hb2
    have oS2 := own_below oS hb2
    have hb2' := hb1.trans (hb2.mono (Nat.le_trans hB hb1.size))
    obtain ⟨w3, hw3⟩ : ∃ w3, w2.alloc (.cells #[.string x.nu, .int .i64 x.len, .int .i64 x.ax, .int .i64 x.ms, .int .i64 x.br, .int .i64 x.gd, .bool x.gt, .string x.de] 34) = w3 := ⟨_, rfl⟩
    have hX3 : Blk w3 rb 71 #[.int .i64 (r.part : Int), .string r.f.nm, vW, .int .i64 b0, .int .i64 b1, .int .i64 b2, .int .i64 b3, .int .i64 b4, .int .i64 b5, .int .i64 b6, vS, .int .i64 r.ck] := by rw [← hw3]; exact hX2.alloc _
    have hY3 : Blk w3 w2.heap.size 34 #[.string x.nu, .int .i64 x.len, .int .i64 x.ax, .int .i64 x.ms, .int .i64 x.br, .int .i64 x.gd, .bool x.gt, .string x.de] := by rw [← hw3]; exact Blk.new w2 _ _
    have oW3 : w3.ownsRow B 34 8 vW r.f.ws.length (flatW r.f.ws) := by rw [← hw3]; exact oW2.alloc _
    have oS3 : w3.ownsRow B 39 3 vS r.f.so.length (flatS r.f.so) := by rw [← hw3]; exact oS2.alloc _
    have hb3 : Below B W w3 := by rw [← hw3]; exact hb2'.alloc (Nat.le_trans hB hb2'.size) _
    obtain ⟨Aw, cw, rfl, hcw1, hcw2⟩ := own_form oW3
    have y1 : w3.cell? ⟨rb, 2, none⟩ = some (.slice Aw r.f.ws.length cw) := hX3.cell 2
    have v0 : w3.cell? ⟨w2.heap.size, 0, none⟩ = some (.string x.nu) := hY3.cell 0
    have v1 : w3.cell? ⟨w2.heap.size, 1, none⟩ = some (.int .i64 x.len) := hY3.cell 1
    have v2 : w3.cell? ⟨w2.heap.size, 2, none⟩ = some (.int .i64 x.ax) := hY3.cell 2
    have v3 : w3.cell? ⟨w2.heap.size, 3, none⟩ = some (.int .i64 x.ms) := hY3.cell 3
    have v4 : w3.cell? ⟨w2.heap.size, 4, none⟩ = some (.int .i64 x.br) := hY3.cell 4
    have v5 : w3.cell? ⟨w2.heap.size, 5, none⟩ = some (.int .i64 x.gd) := hY3.cell 5
    have v6 : w3.cell? ⟨w2.heap.size, 6, none⟩ = some (.bool x.gt) := hY3.cell 6
    have v7 : w3.cell? ⟨w2.heap.size, 7, none⟩ = some (.string x.de) := hY3.cell 7
    have y1a := cell_alloc y1 (.cells #[.string x.nu, .int .i64 x.len, .int .i64 x.ax, .int .i64 x.ms, .int .i64 x.br, .int .i64 x.gd, .bool x.gt, .string x.de] 34)
    have h63 : r.f.ws.length + 1 ≤ maxLen := by unfold maxLen; omega
    have h80 : (r.f.ws.length + 1) * 80 ≤ 140737488355328 := by omega
    have oW3d := own_drew oW3
    have hB3 : B ≤ w3.drew.heap.size := Nat.le_trans hB hb3.size
    have hX3d : Blk w3.drew rb 71 #[.int .i64 (r.part : Int), .string r.f.nm, (.slice Aw r.f.ws.length cw), .int .i64 b0, .int .i64 b1, .int .i64 b2, .int .i64 b3, .int .i64 b4, .int .i64 b5, .int .i64 b6, vS, .int .i64 r.ck] := hX3
    have hap : apart (.slice Aw r.f.ws.length cw) vS := own_ne_type oW3 oS3 (by decide)
    have hnrb : (Value.slice Aw r.f.ws.length cw).ownBlock ≠ some rb := own_blk_ne oW3 hX3 (by decide)
    clear HF hX2 oW2 oS2 hb2 hb2'
    unfold wgV
    go_wp2_with fail
    go_region_law (refine step_pushb sl80 (by rfl) (.tmp 71) (.tmp 73) (by rfl) B (.slice Aw r.f.ws.length cw) r.f.ws.length (flatW r.f.ws) (by rfl) oW3d 1 1 w3.drew.heap.size rfl (by rfl) (by rfl) (by rfl) h63 h80 hB3 ?_
                   intro v' w9 own9 hgr
                   obtain ⟨A9, c9, rfl, hc91, hc92⟩ := own_form own9
                   have hX9 := hX3d.grown hgr.grown (fun e => hnrb e.symm)
                   have y1' : w9.cell? ⟨rb, 2, none⟩ = some (.slice Aw r.f.ws.length cw) := hX9.cell 2
                   have f1' : w9.frozen? ⟨rb, 2, none⟩ = false := hX9.frozen 2)
    all_goals
      have oS9 := hgr.keep (own_drew oS3) (apart.symm hap)
      have hb9 : Below B W w9 := hb3.trans (below_drew' (hgr.below (own_ge oW3d) hB3))
      have oW10 := own_farB (j := 2) own9 hX9 (by decide) (.slice A9 (r.f.ws.length + 1) c9)
      have oS10 := own_farB (j := 2) oS9 hX9 (by decide) (.slice A9 (r.f.ws.length + 1) c9)
      have hX10 := hX9.set_ 2 (.slice A9 (r.f.ws.length + 1) c9)
      have hb10 := hb9.setCell (p := ⟨rb, 2, none⟩) hBrb (.slice A9 (r.f.ws.length + 1) c9)
      cases hwb : Fn.wagonB Ws with
      | none =>
        unfold WagQ at hq
        rw [hwb] at hq
        obtain ⟨rfl, rfl⟩ := hq
        have HN : Hid (Fn.take r Ws = none) := Lib.hid (by rw [Hd.out, hwb])
        have Hb := Lib.hid hb10
        clear hwb hX9 oW10 oS10 hX10 hb10
        go_wp2_with fail
        go_ret
        exact (Htk.out _ _).1 HN.out rfl Hb.out
      | some y =>
        unfold WagQ at hq
        rw [hwb] at hq
        obtain ⟨rfl, rfl⟩ := hq
        have HN : Hid (Fn.take r Ws = some { r with f := { r.f with ws := r.f.ws ++ [x] } }) := Lib.hid (by rw [Hd.out, hwb])
        have HQ : Hid (RdQ B rb ⟨r.part, ⟨r.f.nm, r.f.ws ++ [x], r.f.bk, r.f.so⟩, r.ck⟩ (w9.setCell ⟨rb, 2, none⟩ (.slice A9 (r.f.ws.length + 1) c9))) := Lib.hid ⟨_, vS, b0, b1, b2, b3, b4, b5, b6, hX10, by rw [List.length_append, flatW_snoc]; exact oW10, oS10, Hbk.out, hBrb⟩
        have Hb := Lib.hid hb10
        clear hwb hX9 oW10 oS10 hX10 hb10
        go_wp2_with fail
        go_ret
        exact (Htk.out _ _).2 _ HN.out rfl HQ.out Hb.out
  | false => exact absurd hw (of_decide_eq_false Hbw.out)
end Go.Proofs.YtiegpkbollihgaaDoor
namespace Go.Proofs.YtiegpkbollihgaaDoor
open Go.RowKit
set_option maxRecDepth 100000 in
set_option maxHeartbeats 16000000 in
theorem rk_C (B rb : Nat) (p : List UInt8) (r : Fn.RS) (W : World) (h : RdQ B rb r W) (hB : B ≤ W.heap.size) (hp : p.length ≤ 20000) (h1 : r.part = 1) (hw : Fn.wd (Tx.cutAt 32 p) 0 ≠ Fn.wWagon):
    Calls Tryd.prog 31 #[.pointer (some ⟨rb, 0, none⟩), .string (baOf p)] W (ReadR B rb p r W) := by
  have hbz : (baOf p).size = p.length := by simp [baOf, ByteArray.size]
  have HSp := Lib.hid (words_c (baOf p) W (by rw [hbz]; omega))
  obtain ⟨vW, vS, b0, b1, b2, b3, b4, b5, b6, hX0, oW0, oS0, hbk, hBrb⟩ := h
  have Hbk := Lib.hid hbk
  have Hwz := Lib.hid (fun q (hq : q ∈ Tx.cutAt 32 p) => Tx.pieceLen 32 p q hq)
  clear hbk
  go_enter Tryd.func31, Tryd.ntmps31
  go_wp2_with fail
  refine HSp.out.mono ?_
  rintro e w1 ⟨L', n, v, rfl, oL, hL, hn2, hb1w⟩
  rw [baOf_data] at hL
  obtain ⟨Ws, hWs⟩ : ∃ Ws, Tx.cutAt 32 p = Ws := ⟨_, rfl⟩
  have HWs := Lib.hid hWs
  rw [hWs] at hL Hwz hw
  rw [hbz] at hn2
  rw [bytes_map hL] at oL
  have hlW : Ws.length = n := by have := oL.1; simpa using this
  have hn1 : 1 ≤ n := by rw [← hlW]; exact Nat.one_le_iff_ne_zero.2 (fun e => Tx.cutAt_ne 32 p (by rw [hWs]; exact List.eq_nil_of_length_eq_zero e))
  obtain ⟨gs, cs, rfl, _⟩ := oL.form (by omega)
  obtain ⟨Aq, cq, eq, hcs1, hcs2⟩ := own_form oL
  injection eq with eA _ eC
  subst eC
  have hX : Blk w1 rb 71 #[.int .i64 (r.part : Int), .string r.f.nm, vW, .int .i64 b0, .int .i64 b1, .int .i64 b2, .int .i64 b3, .int .i64 b4, .int .i64 b5, .int .i64 b6, vS, .int .i64 r.ck] := hX0.below hb1w hX0.lt
  have oW := own_below oW0 hb1w
  have oS := own_below oS0 hb1w
  have hb1 : Below B W w1 := hb1w.mono hB
  have hS : StrR w1 (some ⟨gs, 0, none⟩) n Ws := StrR.own oL
  have hz : ∀ j, (Fn.wd Ws j).length ≤ 20000 := fun j => by
    unfold Fn.wd
    rw [List.getD_eq_getElem?_getD]
    cases hq : Ws[j]? with
    | none => exact Nat.zero_le _
    | some q => have := Hwz.out q (List.mem_of_getElem? hq); simp only [Option.getD_some]; omega
  have Hz := Lib.hid hz
  have HlW := Lib.hid hlW
  obtain ⟨ad0, e0, _, hcc⟩ := hS.2 (by omega)
  obtain rfl := Option.some.inj e0
  have c0 : w1.cell? ⟨gs, 0, none⟩ = some (.string (baOf (Fn.wd Ws 0))) := hcc 0 (by omega)
  have HC1 : Hid (1 < n → w1.cell? ⟨gs, 1, none⟩ = some (.string (baOf (Fn.wd Ws 1)))) := Lib.hid (fun h => hcc 1 h)
  have HS := Lib.hid hS
  have hle1 := hb1.size
  have hn0i : (0 : Int) < (n : Int) := by omega
  have hlen : cs ≤ 9223372036854775807 := by unfold maxLen at hcs2; omega
  have hnci : (n : Int) ≤ (cs : Int) := by omega
  obtain ⟨bt, hbt⟩ : ∃ b, decide (Fn.wd Ws 0 = Fn.wTrain) = b := ⟨_, rfl⟩
  obtain ⟨bw, hbw⟩ : ∃ b, decide (Fn.wd Ws 0 = Fn.wWagon) = b := ⟨_, rfl⟩
  obtain ⟨bb, hbb⟩ : ∃ b, decide (Fn.wd Ws 0 = Fn.wBrakes) = b := ⟨_, rfl⟩
  obtain ⟨bs, hbs⟩ : ∃ b, decide (Fn.wd Ws 0 = Fn.wSetout) = b := ⟨_, rfl⟩
  obtain ⟨be, hbe⟩ : ∃ b, decide (Fn.wd Ws 0 = Fn.wEnd) = b := ⟨_, rfl⟩
  obtain ⟨s0, hs0⟩ : ∃ s, baOf (Fn.wd Ws 0) = s := ⟨_, rfl⟩
  have et : (s0.toList == [116, 114, 97, 105, 110]) = bt := by rw [← hs0, ba_eqW]; exact hbt
  have ew : (s0.toList == [119, 97, 103, 111, 110]) = bw := by rw [← hs0, ba_eqW]; exact hbw
  have eb : (s0.toList == [98, 114, 97, 107, 101, 115]) = bb := by rw [← hs0, ba_eqW]; exact hbb
  have es : (s0.toList == [115, 101, 116, 111, 117, 116]) = bs := by rw [← hs0, ba_eqW]; exact hbs
  have ee : (s0.toList == [101, 110, 100]) = be := by rw [← hs0, ba_eqW]; exact hbe
  rw [hs0] at c0
  have Hbt := Lib.hid hbt
  have Hbw := Lib.hid hbw
  have Hbb := Lib.hid hbb
  have Hbs := Lib.hid hbs
  have Hbe := Lib.hid hbe
  have x0 : w1.cell? ⟨rb, 0, none⟩ = some (.int .i64 (r.part : Int)) := hX.cell 0
  have Htk : Hid (∀ e W', (Fn.take r Ws = none → e = .returned (.bool false) → Below B W W' → ReadR B rb p r W e W') ∧ (∀ r', Fn.take r Ws = some r' → e = .returned (.bool true) → RdQ B rb r' W' → Below B W W' → ReadR B rb p r W e W')) := Lib.hid (fun e W' => ⟨fun h1 h2 h3 => by subst h2; exact readR_no (by rw [HWs.out]; exact h1) h3, fun r' h1 h2 h3 h4 => by subst h2; exact readR_ok (by rw [HWs.out]; exact h1) h3 h4⟩)
  clear hbt hbw hbb hbs hbe hs0 hcc e0 hWs hL hX0 oW0 oS0 hz hlW hS HSp HWs hbz Hwz hb1w oL hcs2 eA
  have e0 : ((r.part : Int) == 0) = false := by simp; omega
  have e1 : ((r.part : Int) == 1) = true := by simp; omega
  have e2 : ((r.part : Int) == 2) = false := by simp; omega
  cases bw with
  | true => exact absurd (of_decide_eq_true Hbw.out) hw
  | false =>
    cases bb with
    | false =>
      have HN := Lib.hid (Fn.take_no1 h1 (of_decide_eq_false Hbw.out) (fun e => of_decide_eq_false Hbb.out e.1))
      clear h1
      go_wp2_with fail
      go_ret
      exact (Htk.out _ _).1 HN.out rfl hb1
    | true =>
      by_cases hk : n = 8
      case neg =>
        have d8 : ((n : Int) == 8) = false := by simp; omega
        have HN := Lib.hid (Fn.take_no1 (w := Ws) h1 (of_decide_eq_false Hbw.out) (fun e => hk (by rw [← HlW.out]; exact e.2)))
        clear h1
        go_wp2_with fail
        go_ret
        exact (Htk.out _ _).1 HN.out rfl hb1
      case pos =>
        subst hk
        have Hd := Lib.hid (Fn.take_brk (w := Ws) h1 (of_decide_eq_true Hbb.out) HlW.out)
        have hdt : (Ws.drop 1).take 7 = Ws.drop 1 := List.take_of_length_le (by rw [List.length_drop, HlW.out]; omega)
        have Hsub := HS.out.sub (k := 1) (m := 7) (by omega)
        rw [hdt] at Hsub
        have HA := Lib.hid (rints_c (some ⟨gs, 1, none⟩) 7 (cs - 1) (Ws.drop 1) w1 (by omega) Hsub (fun j => by have := Hz.out (1 + j); rw [wd_drop]; omega))
        have hc1 : ((cs : Int) == 1) = false := by simp; omega
        have hc2 : (1 : Int) ≤ (cs : Int) := by omega
        have hc3 : ¬ cs = 1 := by omega
        have hc4 : 1 ≤ cs := by omega
        clear hdt Hsub
        go_wp2_with fail
        refine HA.out.mono ?_
        rintro e w2 hA
        obtain ⟨⟨v, ok, rfl, hmm⟩, hb2⟩ := hA
        have hb2' := hb1.trans (hb2.mono (Nat.le_trans hB hb1.size))
        have hX2 := hX.below hb2 hX.lt
        cases hi : Fn.ints (Ws.drop 1) with
        | none =>
          rw [hi] at hmm
          obtain ⟨rfl, rfl⟩ := hmm
          have HN : Hid (Fn.take r Ws = none) := Lib.hid (by rw [Hd.out, hi])
          clear hi
          have y0 : w2.cell? ⟨rb, 0, none⟩ = some (.int .i64 (r.part : Int)) := hX2.cell 0
          have f0 : w2.frozen? ⟨rb, 0, none⟩ = false := hX2.frozen 0
          have hb3 := hb2'.setCell (p := ⟨rb, 0, none⟩) hBrb (.int .i64 2)
          go_wp2_with fail
          go_ret
          exact (Htk.out _ _).1 HN.out rfl hb3
        | some l =>
          rw [hi] at hmm
          obtain ⟨rfl, own⟩ := hmm
          obtain ⟨gv, cap, rfl, hcap⟩ := own.form (by omega)
          have hll : l.length = 7 := own_len own
          match l, hll with
          | [n0, n1, n2, n3, n4, n5, n6], _ =>
            have i0 : w2.cell? ⟨gv, 0, none⟩ = some (.int .i64 n0) := own_cell own (j := 0) (by omega)
            have i1 : w2.cell? ⟨gv, 1, none⟩ = some (.int .i64 n1) := own_cell own (j := 1) (by omega)
            have i2 : w2.cell? ⟨gv, 2, none⟩ = some (.int .i64 n2) := own_cell own (j := 2) (by omega)
            have i3 : w2.cell? ⟨gv, 3, none⟩ = some (.int .i64 n3) := own_cell own (j := 3) (by omega)
            have i4 : w2.cell? ⟨gv, 4, none⟩ = some (.int .i64 n4) := own_cell own (j := 4) (by omega)
            have i5 : w2.cell? ⟨gv, 5, none⟩ = some (.int .i64 n5) := own_cell own (j := 5) (by omega)
            have i6 : w2.cell? ⟨gv, 6, none⟩ = some (.int .i64 n6) := own_cell own (j := 6) (by omega)
            have oW2 := own_below oW hb2
            have oS2 := own_below oS hb2
            have HN : Hid (Fn.take r Ws = some { r with part := 2, f := { r.f with bk := [n0, n1, n2, n3, n4, n5, n6] } }) := Lib.hid (by rw [Hd.out, hi])
            have hX3 : Blk w2.drew rb 71 #[.int .i64 (r.part : Int), .string r.f.nm, vW, .int .i64 b0, .int .i64 b1, .int .i64 b2, .int .i64 b3, .int .i64 b4, .int .i64 b5, .int .i64 b6, vS, .int .i64 r.ck] := hX2
            have oW3 := own_drew oW2
            have oS3 := own_drew oS2
            have hb3 : Below B W w2.drew := hb2'.drew
            clear hX2 oW2 oS2 hb2' hi own
            go_wp2_with fail
            go_still_tail 26, (by kernel_rfl)
            change wpList _ _ _ _ _ w2.drew
            generalize w2.drew = w3 at hX3 oW3 oS3 hb3
            go_wp2_with ((with_reducible refine at_st 25 (.tmp 128) (.tmp 125) ?_); go_must (refine wpList_stB rfl 25 (.tmp 128) (.tmp 125) rfl rb 3 [.int .i64 n0, .int .i64 n1, .int .i64 n2, .int .i64 n3, .int .i64 n4, .int .i64 n5, .int .i64 n6] rfl rfl hX3 #[.int .i64 (r.part : Int), .string r.f.nm, vW, .int .i64 n0, .int .i64 n1, .int .i64 n2, .int .i64 n3, .int .i64 n4, .int .i64 n5, .int .i64 n6, vS, .int .i64 r.ck] rfl rfl (by kernel_rfl) rfl ?_; intro w4 hX4 hg4; have y0 : w4.cell? ⟨rb, 0, none⟩ = some (.int .i64 (r.part : Int)) := hX4.cell 0; have f0 : w4.frozen? ⟨rb, 0, none⟩ = false := hX4.frozen 0))
            have oW4 := oW3.kept hg4 (.inr (own_blk_ne oW3 hX3 (by decide)))
            have oS4 := oS3.kept hg4 (.inr (own_blk_ne oS3 hX3 (by decide)))
            have hb4 := below_row hb3 hg4 hBrb hX3.lt
            have oW5 := own_farB (j := 0) oW4 hX4 (by decide) (.int .i64 2)
            have oS5 := own_farB (j := 0) oS4 hX4 (by decide) (.int .i64 2)
            have hX5 : Blk (w4.setCell ⟨rb, 0, none⟩ (.int .i64 2)) rb 71 #[.int .i64 2, .string r.f.nm, vW, .int .i64 n0, .int .i64 n1, .int .i64 n2, .int .i64 n3, .int .i64 n4, .int .i64 n5, .int .i64 n6, vS, .int .i64 r.ck] := hX4.set_ 0 _
            have hb5 := hb4.setCell (p := ⟨rb, 0, none⟩) hBrb (.int .i64 2)
            go_ret
            exact (Htk.out _ _).2 _ HN.out rfl ⟨vW, vS, n0, n1, n2, n3, n4, n5, n6, hX5, oW5, oS5, rfl, hBrb⟩ hb5
end Go.Proofs.YtiegpkbollihgaaDoor
namespace Go.Proofs.YtiegpkbollihgaaDoor
open Go.RowKit
def sqQ (B rb : Nat) (W0 : World) (r : Fn.RS) (vW : Value) (b0 b1 b2 b3 b4 b5 b6 n0 n1 n2 : Int) (W : World) (v u : Value) : Prop := Below B W0 W ∧ Blk W rb 71 #[.int .i64 (r.part : Int), .string r.f.nm, vW, .int .i64 b0, .int .i64 b1, .int .i64 b2, .int .i64 b3, .int .i64 b4, .int .i64 b5, .int .i64 b6, u, .int .i64 r.ck] ∧ W.ownsRow B 39 3 v (r.f.so.length + 1) (flatS r.f.so ++ [.int .i64 n0, .int .i64 n1, .int .i64 n2]) ∧ W.ownsRow B 34 8 vW r.f.ws.length (flatW r.f.ws)
theorem sqQ_set {B rb : Nat} {W0 : World} {r : Fn.RS} {vW : Value} {b0 b1 b2 b3 b4 b5 b6 n0 n1 n2 : Int} {W : World} {v u : Value} (h : sqQ B rb W0 r vW b0 b1 b2 b3 b4 b5 b6 n0 n1 n2 W v u) (hB : B ≤ rb) (u2 : Value) : sqQ B rb W0 r vW b0 b1 b2 b3 b4 b5 b6 n0 n1 n2 (W.setCell ⟨rb, 10, none⟩ u2) v u2 :=
  ⟨h.1.setCell (p := ⟨rb, 10, none⟩) hB u2, h.2.1.set_ 10 u2, own_farB h.2.2.1 h.2.1 (by decide) u2, own_farB h.2.2.2 h.2.1 (by decide) u2⟩
def sqS : List (Nat × Nat) := [(159, 2), (160, 3), (161, 4), (162, 5), (164, 7), (165, 8), (167, 10), (168, 11), (170, 13), (171, 14), (172, 15), (173, 16), (174, 17), (175, 18), (176, 19), (177, 20)]
def sqPure : List Nat := [0, 1, 6, 9, 12]
def sqF (k : Nat) : Nat := match k with
  | 2 => 159
  | 3 => 160
  | 4 => 161
  | 5 => 162
  | 7 => 164
  | 8 => 165
  | 10 => 167
  | 11 => 168
  | 13 => 170
  | 14 => 171
  | 15 => 172
  | 16 => 173
  | 17 => 174
  | 18 => 175
  | 19 => 176
  | 20 => 177
  | _ => 0
def sqT (B rb : Nat) (W0 w2 : World) (r : Fn.RS) (vW : Value) (b0 b1 b2 b3 b4 b5 b6 : Int) (As : Option Addr) (cso gv : Nat) (n0 n1 n2 : Int) (k : Nat) (v : Value) (W : World) : Prop := match k with
  | 2 => v = .pointer (some ⟨rb, 0, none⟩)
  | 3 => v = .pointer (some ⟨rb, 1, none⟩)
  | 4 => v = .pointer (some ⟨rb, 10, none⟩)
  | 5 => v = .slice As r.f.so.length cso
  | 7 => v = .pointer (some ⟨gv, 0, none⟩)
  | 8 => v = .int .i64 n0
  | 10 => v = .pointer (some ⟨gv, 1, none⟩)
  | 11 => v = .int .i64 n1
  | 13 => v = .pointer (some ⟨gv, 2, none⟩)
  | 14 => v = .int .i64 n2
  | 15 => v = .agg #[.int .i64 n0, .int .i64 n1, .int .i64 n2]
  | 16 => ∃ g, v = .slice (some ⟨g, 0, none⟩) 1 1 ∧ SlN W w2.heap.size 3 (.slice (some ⟨g, 0, none⟩) 3 3) [n0, n1, n2]
  | 17 => (∃ A c, v = .slice A (r.f.so.length + 1) c) ∧ ∃ u, sqQ B rb W0 r vW b0 b1 b2 b3 b4 b5 b6 n0 n1 n2 W v u
  | 18 => v = .pointer (some ⟨rb, 0, none⟩)
  | 19 => v = .pointer (some ⟨rb, 1, none⟩)
  | 20 => v = .pointer (some ⟨rb, 10, none⟩)
  | _ => True
theorem sqPureT (B rb : Nat) (W0 w2 : World) (r : Fn.RS) (vW : Value) (b0 b1 b2 b3 b4 b5 b6 : Int) (As : Option Addr) (cso gv : Nat) (n0 n1 n2 : Int) : ∀ k, k ∈ sqPure → ∀ v W, sqT B rb W0 w2 r vW b0 b1 b2 b3 b4 b5 b6 As cso gv n0 n1 n2 k v W := by
  intro k hk v W
  simp only [sqPure, List.mem_cons, List.not_mem_nil, or_false] at hk
  rcases hk with rfl | rfl | rfl | rfl | rfl <;> exact trivial
theorem sqT_alloc (B rb : Nat) (W0 w2 : World) (r : Fn.RS) (vW : Value) (b0 b1 b2 b3 b4 b5 b6 : Int) (As : Option Addr) (cso gv : Nat) (n0 n1 n2 : Int) {W W' : World} (o : Obj) (hW : W' = W.alloc o) (k : Nat) (hk : k ≠ 17) (v : Value) (h : sqT B rb W0 w2 r vW b0 b1 b2 b3 b4 b5 b6 As cso gv n0 n1 n2 k v W) : sqT B rb W0 w2 r vW b0 b1 b2 b3 b4 b5 b6 As cso gv n0 n1 n2 k v W' := by
  unfold sqT at h ⊢
  split at h
  · exact h
  · exact h
  · exact h
  · exact h
  · exact h
  · exact h
  · exact h
  · exact h
  · exact h
  · exact h
  · exact h
  · obtain ⟨g, h1, h2⟩ := h
    exact ⟨g, h1, by rw [hW]; exact h2.alloc o⟩
  · exact absurd rfl hk
  · exact h
  · exact h
  · exact h
  · trivial
theorem sqT_grown (B rb : Nat) (W0 w2 : World) (r : Fn.RS) (vW : Value) (b0 b1 b2 b3 b4 b5 b6 : Int) (As : Option Addr) (cso gv : Nat) (n0 n1 n2 : Int) {W W' : World} {ob : Option Nat} (hg : W.grownBy W' ob) (ho : ∀ g, ob = some g → g < w2.heap.size) (k : Nat) (hk : k ≠ 17) (v : Value) (h : sqT B rb W0 w2 r vW b0 b1 b2 b3 b4 b5 b6 As cso gv n0 n1 n2 k v W) : sqT B rb W0 w2 r vW b0 b1 b2 b3 b4 b5 b6 As cso gv n0 n1 n2 k v W' := by
  unfold sqT at h ⊢
  split at h
  · exact h
  · exact h
  · exact h
  · exact h
  · exact h
  · exact h
  · exact h
  · exact h
  · exact h
  · exact h
  · exact h
  · obtain ⟨g, h1, h2⟩ := h
    exact ⟨g, h1, h2.grownO hg ho⟩
  · exact absurd rfl hk
  · exact h
  · exact h
  · exact h
  · trivial
theorem sqT_set (B rb : Nat) (W0 w2 : World) (r : Fn.RS) (vW : Value) (b0 b1 b2 b3 b4 b5 b6 : Int) (As : Option Addr) (cso gv : Nat) (n0 n1 n2 : Int) {W W' : World} (hB : B ≤ rb) (hr : rb < w2.heap.size) (u2 : Value) (hW : W' = W.setCell ⟨rb, 10, none⟩ u2) (k : Nat) (v : Value) (h : sqT B rb W0 w2 r vW b0 b1 b2 b3 b4 b5 b6 As cso gv n0 n1 n2 k v W) : sqT B rb W0 w2 r vW b0 b1 b2 b3 b4 b5 b6 As cso gv n0 n1 n2 k v W' := by
  unfold sqT at h ⊢
  split at h
  · exact h
  · exact h
  · exact h
  · exact h
  · exact h
  · exact h
  · exact h
  · exact h
  · exact h
  · exact h
  · exact h
  · obtain ⟨g, h1, h2⟩ := h
    exact ⟨g, h1, by rw [hW]; exact h2.set u2 hr⟩
  · obtain ⟨h1, u, h2⟩ := h
    exact ⟨h1, u2, by rw [hW]; exact sqQ_set h2 hB u2⟩
  · exact h
  · exact h
  · exact h
  · trivial
set_option maxRecDepth 100000 in
set_option maxHeartbeats 16000000 in
theorem rk_D (B rb : Nat) (p : List UInt8) (r : Fn.RS) (W : World) (h : RdQ B rb r W) (hB : B ≤ W.heap.size) (hp : p.length ≤ 20000) (hso : r.f.so.length ≤ 20000) (h2 : r.part = 2) (hw : Fn.wd (Tx.cutAt 32 p) 0 = Fn.wSetout):
    Calls Tryd.prog 31 #[.pointer (some ⟨rb, 0, none⟩), .string (baOf p)] W (ReadR B rb p r W) := by
  have hbz : (baOf p).size = p.length := by simp [baOf, ByteArray.size]
  have HSp := Lib.hid (words_c (baOf p) W (by rw [hbz]; omega))
  obtain ⟨vW, vS, b0, b1, b2, b3, b4, b5, b6, hX0, oW0, oS0, hbk, hBrb⟩ := h
  have Hbk := Lib.hid hbk
  have Hwz := Lib.hid (fun q (hq : q ∈ Tx.cutAt 32 p) => Tx.pieceLen 32 p q hq)
  clear hbk
  go_enter Tryd.func31, Tryd.ntmps31
  go_wp2_with fail
  refine HSp.out.mono ?_
  rintro e w1 ⟨L', n, v, rfl, oL, hL, hn2, hb1w⟩
  rw [baOf_data] at hL
  obtain ⟨Ws, hWs⟩ : ∃ Ws, Tx.cutAt 32 p = Ws := ⟨_, rfl⟩
  have HWs := Lib.hid hWs
  rw [hWs] at hL Hwz hw
  rw [hbz] at hn2
  rw [bytes_map hL] at oL
  have hlW : Ws.length = n := by have := oL.1; simpa using this
  have hn1 : 1 ≤ n := by rw [← hlW]; exact Nat.one_le_iff_ne_zero.2 (fun e => Tx.cutAt_ne 32 p (by rw [hWs]; exact List.eq_nil_of_length_eq_zero e))
  obtain ⟨gs, cs, rfl, _⟩ := oL.form (by omega)
  obtain ⟨Aq, cq, eq, hcs1, hcs2⟩ := own_form oL
  injection eq with eA _ eC
  subst eC
  have hX : Blk w1 rb 71 #[.int .i64 (r.part : Int), .string r.f.nm, vW, .int .i64 b0, .int .i64 b1, .int .i64 b2, .int .i64 b3, .int .i64 b4, .int .i64 b5, .int .i64 b6, vS, .int .i64 r.ck] := hX0.below hb1w hX0.lt
  have oW := own_below oW0 hb1w
  have oS := own_below oS0 hb1w
  have hb1 : Below B W w1 := hb1w.mono hB
  have hS : StrR w1 (some ⟨gs, 0, none⟩) n Ws := StrR.own oL
  have hz : ∀ j, (Fn.wd Ws j).length ≤ 20000 := fun j => by
    unfold Fn.wd
    rw [List.getD_eq_getElem?_getD]
    cases hq : Ws[j]? with
    | none => exact Nat.zero_le _
    | some q => have := Hwz.out q (List.mem_of_getElem? hq); simp only [Option.getD_some]; omega
  have Hz := Lib.hid hz
  have HlW := Lib.hid hlW
  obtain ⟨ad0, e0, _, hcc⟩ := hS.2 (by omega)
  obtain rfl := Option.some.inj e0
  have c0 : w1.cell? ⟨gs, 0, none⟩ = some (.string (baOf (Fn.wd Ws 0))) := hcc 0 (by omega)
  have HC1 : Hid (1 < n → w1.cell? ⟨gs, 1, none⟩ = some (.string (baOf (Fn.wd Ws 1)))) := Lib.hid (fun h => hcc 1 h)
  have HS := Lib.hid hS
  have hle1 := hb1.size
  have hn0i : (0 : Int) < (n : Int) := by omega
  have hlen : cs ≤ 9223372036854775807 := by unfold maxLen at hcs2; omega
  have hnci : (n : Int) ≤ (cs : Int) := by omega
  obtain ⟨bt, hbt⟩ : ∃ b, decide (Fn.wd Ws 0 = Fn.wTrain) = b := ⟨_, rfl⟩
  obtain ⟨bw, hbw⟩ : ∃ b, decide (Fn.wd Ws 0 = Fn.wWagon) = b := ⟨_, rfl⟩
  obtain ⟨bb, hbb⟩ : ∃ b, decide (Fn.wd Ws 0 = Fn.wBrakes) = b := ⟨_, rfl⟩
  obtain ⟨bs, hbs⟩ : ∃ b, decide (Fn.wd Ws 0 = Fn.wSetout) = b := ⟨_, rfl⟩
  obtain ⟨be, hbe⟩ : ∃ b, decide (Fn.wd Ws 0 = Fn.wEnd) = b := ⟨_, rfl⟩
  obtain ⟨s0, hs0⟩ : ∃ s, baOf (Fn.wd Ws 0) = s := ⟨_, rfl⟩
  have et : (s0.toList == [116, 114, 97, 105, 110]) = bt := by rw [← hs0, ba_eqW]; exact hbt
  have ew : (s0.toList == [119, 97, 103, 111, 110]) = bw := by rw [← hs0, ba_eqW]; exact hbw
  have eb : (s0.toList == [98, 114, 97, 107, 101, 115]) = bb := by rw [← hs0, ba_eqW]; exact hbb
  have es : (s0.toList == [115, 101, 116, 111, 117, 116]) = bs := by rw [← hs0, ba_eqW]; exact hbs
  have ee : (s0.toList == [101, 110, 100]) = be := by rw [← hs0, ba_eqW]; exact hbe
  rw [hs0] at c0
  have Hbt := Lib.hid hbt
  have Hbw := Lib.hid hbw
  have Hbb := Lib.hid hbb
  have Hbs := Lib.hid hbs
  have Hbe := Lib.hid hbe
  have x0 : w1.cell? ⟨rb, 0, none⟩ = some (.int .i64 (r.part : Int)) := hX.cell 0
  have Htk : Hid (∀ e W', (Fn.take r Ws = none → e = .returned (.bool false) → Below B W W' → ReadR B rb p r W e W') ∧ (∀ r', Fn.take r Ws = some r' → e = .returned (.bool true) → RdQ B rb r' W' → Below B W W' → ReadR B rb p r W e W')) := Lib.hid (fun e W' => ⟨fun h1 h2 h3 => by subst h2; exact readR_no (by rw [HWs.out]; exact h1) h3, fun r' h1 h2 h3 h4 => by subst h2; exact readR_ok (by rw [HWs.out]; exact h1) h3 h4⟩)
  clear hbt hbw hbb hbs hbe hs0 hcc e0 hWs hL hX0 oW0 oS0 hz hlW hS HSp HWs hbz Hwz hb1w oL hcs2 eA
  have e0 : ((r.part : Int) == 0) = false := by simp; omega
  have e1 : ((r.part : Int) == 1) = false := by simp; omega
  have e2 : ((r.part : Int) == 2) = true := by simp; omega
  cases bs with
  | false => exact absurd hw (of_decide_eq_false Hbs.out)
  | true =>
    by_cases hk : n = 4
    case neg =>
      have d4 : ((n : Int) == 4) = false := by simp; omega
      have HN := Lib.hid (Fn.take_no2 (w := Ws) h2 (fun e => hk (by rw [← HlW.out]; exact e.2)) (fun e => by have := of_decide_eq_true Hbs.out; rw [e.1] at this; exact absurd this (by decide)))
      have ne : be = false := by cases be with | false => rfl | true => exact absurd ((of_decide_eq_true Hbs.out).symm.trans (of_decide_eq_true Hbe.out)) (by decide)
      subst ne
      clear h2
      go_wp2_with fail
      go_ret
      exact (Htk.out _ _).1 HN.out rfl hb1
    case pos =>
      subst hk
      have Hd := Lib.hid (Fn.take_set (w := Ws) h2 (of_decide_eq_true Hbs.out) HlW.out)
      have hdt : (Ws.drop 1).take 3 = Ws.drop 1 := List.take_of_length_le (by rw [List.length_drop, HlW.out]; omega)
      have Hsub := HS.out.sub (k := 1) (m := 3) (by omega)
      rw [hdt] at Hsub
      have HA := Lib.hid (rints_c (some ⟨gs, 1, none⟩) 3 (cs - 1) (Ws.drop 1) w1 (by omega) Hsub (fun j => by have := Hz.out (1 + j); rw [wd_drop]; omega))
      have hc1 : ((cs : Int) == 1) = false := by simp; omega
      have hc2 : (1 : Int) ≤ (cs : Int) := by omega
      have hc3 : ¬ cs = 1 := by omega
      have hc4 : 1 ≤ cs := by omega
      clear hdt Hsub
      go_wp2_with fail
      refine HA.out.mono ?_
      rintro e w2 hA
      obtain ⟨⟨v, ok, rfl, hmm⟩, hb2⟩ := hA
      have hb2' := hb1.trans (hb2.mono (Nat.le_trans hB hb1.size))
      have hX2 := hX.below hb2 hX.lt
      cases hi : Fn.ints (Ws.drop 1) with
      | none =>
        rw [hi] at hmm
        obtain ⟨rfl, rfl⟩ := hmm
        have HN : Hid (Fn.take r Ws = none) := Lib.hid (by rw [Hd.out, hi])
        clear hi
        go_wp2_with fail
        go_ret
        exact (Htk.out _ _).1 HN.out rfl hb2'
      | some l =>
        rw [hi] at hmm
        obtain ⟨rfl, own⟩ := hmm
        obtain ⟨gv, cap, rfl, hcap⟩ := own.form (by omega)
        have hll : l.length = 3 := own_len own
        match l, hll with
        | [n0, n1, n2], _ =>
          have i0 : w2.cell? ⟨gv, 0, none⟩ = some (.int .i64 n0) := own_cell own (j := 0) (by omega)
          have i1 : w2.cell? ⟨gv, 1, none⟩ = some (.int .i64 n1) := own_cell own (j := 1) (by omega)
          have i2 : w2.cell? ⟨gv, 2, none⟩ = some (.int .i64 n2) := own_cell own (j := 2) (by omega)
          have oW2 := own_below oW hb2
          have oS2 := own_below oS hb2
          have HN : Hid (Fn.take r Ws = some { r with f := { r.f with so := r.f.so ++ [⟨n0, n1, n2⟩] } }) := Lib.hid (by rw [Hd.out, hi]; rfl)
          obtain ⟨As, cso, rfl, _, _⟩ := own_form oS2
          have y9 : w2.cell? ⟨rb, 10, none⟩ = some (.slice As r.f.so.length cso) := hX2.cell 10
          have h63 : r.f.so.length + 1 ≤ maxLen := by unfold maxLen; omega
          have h24 : (r.f.so.length + 1) * 24 ≤ 140737488355328 := by omega
          have hBw2 : B ≤ w2.heap.size := Nat.le_trans hB hb2'.size
          obtain ⟨Wo, hWo⟩ : ∃ V, V = W := ⟨_, rfl⟩
          have hbo : Below B Wo w2 := by rw [hWo]; exact hb2'
          clear hi own hb2
          go_wp2_with fail
          refine wp_region_any (by kernel_rfl) ?_
          change wpAny _ _ _ _ _ _ _ (World.drew _)
          refine wpAny_take (i := 0) (v := ?vsq0) rfl (by kernel_rfl) (by kernel_rfl) (by kernel_rfl) (fun _ _ _ h => h) (Or.inl ⟨by rfl, ?ysq0⟩) ?_
          case ysq0 => (intro w; go_simp; with_reducible rfl)
          refine wpAny_take (i := 1) (v := ?vsq1) rfl (by kernel_rfl) (by kernel_rfl) (by kernel_rfl) (fun _ _ _ h => h) (Or.inl ⟨by rfl, ?ysq1⟩) ?_
          case ysq1 => (intro w; go_simp; with_reducible rfl)
          refine wpAny_take (i := 6) (v := ?vsq6) rfl (by kernel_rfl) (by kernel_rfl) (by kernel_rfl) (fun _ _ _ h => h) (Or.inl ⟨by rfl, ?ysq6⟩) ?_
          case ysq6 => (intro w; go_simp; with_reducible rfl)
          refine wpAny_take (i := 9) (v := ?vsq9) rfl (by kernel_rfl) (by kernel_rfl) (by kernel_rfl) (fun _ _ _ h => h) (Or.inl ⟨by rfl, ?ysq9⟩) ?_
          case ysq9 => (intro w; go_simp; with_reducible rfl)
          refine wpAny_take (i := 12) (v := ?vsq12) rfl (by kernel_rfl) (by kernel_rfl) (by kernel_rfl) (fun _ _ _ h => h) (Or.inl ⟨by rfl, ?ysq12⟩) ?_
          case ysq12 => (intro w; go_simp; with_reducible rfl)
          refine with_act (φ := fun a => wpAny _ _ _ _ _ _ a _) ?_
          intro a0 ha0
          simp only [Act.put, List.setIfInBounds_toArray, List.set_cons_zero, List.set_cons_succ, List.getElem_toArray, List.getElem_cons_zero, List.getElem_cons_succ] at ha0
          refine wpAny_invC (by kernel_rfl) (fun L a W => RI (fun vs => putL a0 vs sqS) (sqT B rb Wo w2 r vW b0 b1 b2 b3 b4 b5 b6 As cso gv n0 n1 n2) (PG sqPure 17 21 (Below w2.heap.size w2) (fun V => ∃ v, (∃ A c, v = .slice A (r.f.so.length + 1) c) ∧ sqQ B rb Wo r vW b0 b1 b2 b3 b4 b5 b6 n0 n1 n2 V v v)) L a W) ?_ ?_ _ _ _ _ (by kernel_rfl) (by decide +kernel) (by kernel_rfl) ?_
          · rintro i L a W hi hC ⟨vs, rfl, hG, hT⟩
            obtain ⟨h0, hsz, hlt'⟩ := ready_at hi
            have hsz' : i < 22 := hsz
            have hnp : i ∉ sqPure := fun h => by rw [hG.pure i h] at h0; cases h0
            have hcs : i = 2 ∨ i = 3 ∨ i = 4 ∨ i = 5 ∨ i = 7 ∨ i = 8 ∨ i = 10 ∨ i = 11 ∨ i = 13 ∨ i = 14 ∨ i = 15 ∨ i = 16 ∨ i = 17 ∨ i = 18 ∨ i = 19 ∨ i = 20 ∨ i = 21 := by
              simp only [sqPure, List.mem_cons, List.not_mem_nil, or_false, not_or] at hnp
              omega
            clear hnp hsz hsz'
            rcases hcs with rfl | rfl | rfl | rfl | rfl | rfl | rfl | rfl | rfl | rfl | rfl | rfl | rfl | rfl | rfl | rfl | rfl
            · refine step_free rfl rfl (fun K' hK => ?_)
              have HT := Lib.hid hT
              have HG := Lib.hid hG
              clear hT hG h0 hi
              subst ha0
              simp only [sqS, putL, Act.put, List.setIfInBounds_toArray, List.set_cons_zero, List.set_cons_succ, List.getElem_toArray, List.getElem_cons_zero, List.getElem_cons_succ]
              go_simp
              refine RI.next (v := .pointer (some ⟨rb, 0, none⟩)) hK HT (fun _ _ h => h) (HG.out.same 2 (by decide) (by decide)) (show sqT B rb Wo w2 r vW b0 b1 b2 b3 b4 b5 b6 As cso gv n0 n1 n2 2 _ _ from rfl) ?_
              simp only [sqS, putL, Act.put, List.setIfInBounds_toArray, List.set_cons_zero, List.set_cons_succ]
              rfl
            · have e2 := hT 2 (ready_dep hi rfl 2 (by kernel_rfl))
              refine step_free rfl rfl (fun K' hK => ?_)
              have HT := Lib.hid hT
              have HG := Lib.hid hG
              clear hT hG h0 hi
              subst ha0
              simp only [sqS, putL, Act.put, List.setIfInBounds_toArray, List.set_cons_zero, List.set_cons_succ, List.getElem_toArray, List.getElem_cons_zero, List.getElem_cons_succ]
              rw [e2]
              go_simp
              refine RI.next (v := .pointer (some ⟨rb, 1, none⟩)) hK HT (fun _ _ h => h) (HG.out.same 3 (by decide) (by decide)) (show sqT B rb Wo w2 r vW b0 b1 b2 b3 b4 b5 b6 As cso gv n0 n1 n2 3 _ _ from rfl) ?_
              simp only [sqS, putL, Act.put, List.setIfInBounds_toArray, List.set_cons_zero, List.set_cons_succ]
              rw [← e2]
              rfl
            · have e3 := hT 3 (ready_dep hi rfl 3 (by kernel_rfl))
              refine step_free rfl rfl (fun K' hK => ?_)
              have HT := Lib.hid hT
              have HG := Lib.hid hG
              clear hT hG h0 hi
              subst ha0
              simp only [sqS, putL, Act.put, List.setIfInBounds_toArray, List.set_cons_zero, List.set_cons_succ, List.getElem_toArray, List.getElem_cons_zero, List.getElem_cons_succ]
              rw [e3]
              go_simp
              refine RI.next (v := .pointer (some ⟨rb, 10, none⟩)) hK HT (fun _ _ h => h) (HG.out.same 4 (by decide) (by decide)) (show sqT B rb Wo w2 r vW b0 b1 b2 b3 b4 b5 b6 As cso gv n0 n1 n2 4 _ _ from rfl) ?_
              simp only [sqS, putL, Act.put, List.setIfInBounds_toArray, List.set_cons_zero, List.set_cons_succ]
              rw [← e3]
              rfl
            · have q5 := h0
              have q17 := hC.not (k := 17) rfl 5 (by kernel_rfl) q5
              have hP := hG.one q17
              clear q5 q17
              have hc1 : W.cell? ⟨rb, 10, none⟩ = some (.slice As r.f.so.length cso) := keep_cell hP y9
              clear hP
              have e4 := hT 4 (ready_dep hi rfl 4 (by kernel_rfl))
              obtain ⟨_, o, ho, _⟩ := mem_ready.1 hi
              have ho2 := ho
              simp only [List.getElem?_toArray, List.getElem?_cons_succ, List.getElem?_cons_zero, Option.some.injEq] at ho2
              subst ho2
              refine step_free ho ?_ ?_
              · rfl
              intro K' hK
              clear ho
              have HT := Lib.hid hT
              have HG := Lib.hid hG
              clear hT hG h0 hi
              subst ha0
              simp only [sqS, putL, Act.put, List.setIfInBounds_toArray, List.set_cons_zero, List.set_cons_succ]
              rw [e4]
              go_simp
              refine RI.next (v := .slice As r.f.so.length cso) hK HT (fun _ _ h => h) (HG.out.same 5 (by decide) (by decide)) (show sqT B rb Wo w2 r vW b0 b1 b2 b3 b4 b5 b6 As cso gv n0 n1 n2 5 _ _ from rfl) ?_
              simp only [sqS, putL, Act.put, List.setIfInBounds_toArray, List.set_cons_zero, List.set_cons_succ]
              rw [← e4]
              rfl
            · refine step_free rfl rfl (fun K' hK => ?_)
              have HT := Lib.hid hT
              have HG := Lib.hid hG
              clear hT hG h0 hi
              subst ha0
              simp only [sqS, putL, Act.put, List.setIfInBounds_toArray, List.set_cons_zero, List.set_cons_succ, List.getElem_toArray, List.getElem_cons_zero, List.getElem_cons_succ]
              go_simp
              refine RI.next (v := .pointer (some ⟨gv, 0, none⟩)) hK HT (fun _ _ h => h) (HG.out.same 7 (by decide) (by decide)) (show sqT B rb Wo w2 r vW b0 b1 b2 b3 b4 b5 b6 As cso gv n0 n1 n2 7 _ _ from rfl) ?_
              simp only [sqS, putL, Act.put, List.setIfInBounds_toArray, List.set_cons_zero, List.set_cons_succ]
              rfl
            · have q8 := h0
              have q15 := hC.not (k := 15) rfl 8 (by kernel_rfl) q8
              have q16 := hC.not (k := 16) rfl 15 (by kernel_rfl) q15
              have q17 := hC.not (k := 17) rfl 16 (by kernel_rfl) q16
              have hP := hG.one q17
              clear q8 q15 q16 q17
              have hc1 : W.cell? ⟨gv, 0, none⟩ = some (.int .i64 n0) := keep_cell hP i0
              clear hP
              have e7 := hT 7 (ready_dep hi rfl 7 (by kernel_rfl))
              obtain ⟨_, o, ho, _⟩ := mem_ready.1 hi
              have ho2 := ho
              simp only [List.getElem?_toArray, List.getElem?_cons_succ, List.getElem?_cons_zero, Option.some.injEq] at ho2
              subst ho2
              refine step_free ho ?_ ?_
              · rfl
              intro K' hK
              clear ho
              have HT := Lib.hid hT
              have HG := Lib.hid hG
              clear hT hG h0 hi
              subst ha0
              simp only [sqS, putL, Act.put, List.setIfInBounds_toArray, List.set_cons_zero, List.set_cons_succ]
              rw [e7]
              go_simp
              refine RI.next (v := .int .i64 n0) hK HT (fun _ _ h => h) (HG.out.same 8 (by decide) (by decide)) (show sqT B rb Wo w2 r vW b0 b1 b2 b3 b4 b5 b6 As cso gv n0 n1 n2 8 _ _ from rfl) ?_
              simp only [sqS, putL, Act.put, List.setIfInBounds_toArray, List.set_cons_zero, List.set_cons_succ]
              rw [← e7]
              rfl
            · refine step_free rfl rfl (fun K' hK => ?_)
              have HT := Lib.hid hT
              have HG := Lib.hid hG
              clear hT hG h0 hi
              subst ha0
              simp only [sqS, putL, Act.put, List.setIfInBounds_toArray, List.set_cons_zero, List.set_cons_succ, List.getElem_toArray, List.getElem_cons_zero, List.getElem_cons_succ]
              go_simp
              refine RI.next (v := .pointer (some ⟨gv, 1, none⟩)) hK HT (fun _ _ h => h) (HG.out.same 10 (by decide) (by decide)) (show sqT B rb Wo w2 r vW b0 b1 b2 b3 b4 b5 b6 As cso gv n0 n1 n2 10 _ _ from rfl) ?_
              simp only [sqS, putL, Act.put, List.setIfInBounds_toArray, List.set_cons_zero, List.set_cons_succ]
              rfl
            · have q11 := h0
              have q15 := hC.not (k := 15) rfl 11 (by kernel_rfl) q11
              have q16 := hC.not (k := 16) rfl 15 (by kernel_rfl) q15
              have q17 := hC.not (k := 17) rfl 16 (by kernel_rfl) q16
              have hP := hG.one q17
              clear q11 q15 q16 q17
              have hc1 : W.cell? ⟨gv, 1, none⟩ = some (.int .i64 n1) := keep_cell hP i1
              clear hP
              have e10 := hT 10 (ready_dep hi rfl 10 (by kernel_rfl))
              obtain ⟨_, o, ho, _⟩ := mem_ready.1 hi
              have ho2 := ho
              simp only [List.getElem?_toArray, List.getElem?_cons_succ, List.getElem?_cons_zero, Option.some.injEq] at ho2
              subst ho2
              refine step_free ho ?_ ?_
              · rfl
              intro K' hK
              clear ho
              have HT := Lib.hid hT
              have HG := Lib.hid hG
              clear hT hG h0 hi
              subst ha0
              simp only [sqS, putL, Act.put, List.setIfInBounds_toArray, List.set_cons_zero, List.set_cons_succ]
              rw [e10]
              go_simp
              refine RI.next (v := .int .i64 n1) hK HT (fun _ _ h => h) (HG.out.same 11 (by decide) (by decide)) (show sqT B rb Wo w2 r vW b0 b1 b2 b3 b4 b5 b6 As cso gv n0 n1 n2 11 _ _ from rfl) ?_
              simp only [sqS, putL, Act.put, List.setIfInBounds_toArray, List.set_cons_zero, List.set_cons_succ]
              rw [← e10]
              rfl
            · refine step_free rfl rfl (fun K' hK => ?_)
              have HT := Lib.hid hT
              have HG := Lib.hid hG
              clear hT hG h0 hi
              subst ha0
              simp only [sqS, putL, Act.put, List.setIfInBounds_toArray, List.set_cons_zero, List.set_cons_succ, List.getElem_toArray, List.getElem_cons_zero, List.getElem_cons_succ]
              go_simp
              refine RI.next (v := .pointer (some ⟨gv, 2, none⟩)) hK HT (fun _ _ h => h) (HG.out.same 13 (by decide) (by decide)) (show sqT B rb Wo w2 r vW b0 b1 b2 b3 b4 b5 b6 As cso gv n0 n1 n2 13 _ _ from rfl) ?_
              simp only [sqS, putL, Act.put, List.setIfInBounds_toArray, List.set_cons_zero, List.set_cons_succ]
              rfl
            · have q14 := h0
              have q15 := hC.not (k := 15) rfl 14 (by kernel_rfl) q14
              have q16 := hC.not (k := 16) rfl 15 (by kernel_rfl) q15
              have q17 := hC.not (k := 17) rfl 16 (by kernel_rfl) q16
              have hP := hG.one q17
              clear q14 q15 q16 q17
              have hc1 : W.cell? ⟨gv, 2, none⟩ = some (.int .i64 n2) := keep_cell hP i2
              clear hP
              have e13 := hT 13 (ready_dep hi rfl 13 (by kernel_rfl))
              obtain ⟨_, o, ho, _⟩ := mem_ready.1 hi
              have ho2 := ho
              simp only [List.getElem?_toArray, List.getElem?_cons_succ, List.getElem?_cons_zero, Option.some.injEq] at ho2
              subst ho2
              refine step_free ho ?_ ?_
              · rfl
              intro K' hK
              clear ho
              have HT := Lib.hid hT
              have HG := Lib.hid hG
              clear hT hG h0 hi
              subst ha0
              simp only [sqS, putL, Act.put, List.setIfInBounds_toArray, List.set_cons_zero, List.set_cons_succ]
              rw [e13]
              go_simp
              refine RI.next (v := .int .i64 n2) hK HT (fun _ _ h => h) (HG.out.same 14 (by decide) (by decide)) (show sqT B rb Wo w2 r vW b0 b1 b2 b3 b4 b5 b6 As cso gv n0 n1 n2 14 _ _ from rfl) ?_
              simp only [sqS, putL, Act.put, List.setIfInBounds_toArray, List.set_cons_zero, List.set_cons_succ]
              rw [← e13]
              rfl
            · have e8 := hT 8 (ready_dep hi rfl 8 (by kernel_rfl))
              have e11 := hT 11 (ready_dep hi rfl 11 (by kernel_rfl))
              have e14 := hT 14 (ready_dep hi rfl 14 (by kernel_rfl))
              refine step_free rfl rfl (fun K' hK => ?_)
              have HT := Lib.hid hT
              have HG := Lib.hid hG
              clear hT hG h0 hi
              subst ha0
              simp only [sqS, putL, Act.put, List.setIfInBounds_toArray, List.set_cons_zero, List.set_cons_succ, List.getElem_toArray, List.getElem_cons_zero, List.getElem_cons_succ]
              rw [e8, e11, e14]
              go_simp
              refine RI.next (v := .agg #[.int .i64 n0, .int .i64 n1, .int .i64 n2]) hK HT (fun _ _ h => h) (HG.out.same 15 (by decide) (by decide)) (show sqT B rb Wo w2 r vW b0 b1 b2 b3 b4 b5 b6 As cso gv n0 n1 n2 15 _ _ from rfl) ?_
              simp only [sqS, putL, Act.put, List.setIfInBounds_toArray, List.set_cons_zero, List.set_cons_succ]
              rw [← e8, ← e11, ← e14]
              rfl
            · have q16 := h0
              have q17 := hC.not (k := 17) rfl 16 (by kernel_rfl) q16
              have hP := hG.one q17
              clear q16
              have q21 := hC.not (k := 21) rfl 17 (by kernel_rfl) q17
              have e15 := hT 15 (ready_dep hi rfl 15 (by kernel_rfl))
              refine step_free rfl rfl (fun K' hK => ?_)
              have HT := Lib.hid hT
              have HG := Lib.hid hG
              clear hT hG h0 hi
              subst ha0
              simp only [sqS, putL, Act.put, List.setIfInBounds_toArray, List.set_cons_zero, List.set_cons_succ, List.getElem_toArray, List.getElem_cons_zero, List.getElem_cons_succ]
              rw [e15]
              go_simp
              refine RI.nextL (v := .slice (some ⟨W.heap.size, 0, none⟩) 1 1) hK HT (fun k u hk hu => sqT_alloc B rb Wo w2 r vW b0 b1 b2 b3 b4 b5 b6 As cso gv n0 n1 n2 _ rfl k (fun e => by rw [e, q17] at hk; cases hk) u hu) (HG.out.step 16 (by decide) q21 (hP.alloc hP.size _)) (show sqT B rb Wo w2 r vW b0 b1 b2 b3 b4 b5 b6 As cso gv n0 n1 n2 16 _ _ from ⟨W.heap.size, rfl, W.heap.size, rfl, hP.size, IR.new [n0, n1, n2] 3 rfl rfl (by decide)⟩) ?_
              simp only [sqS, putL, Act.put, List.setIfInBounds_toArray, List.set_cons_zero, List.set_cons_succ]
              rw [← e15]
              rfl
            · have q21 := hC.not (k := 21) rfl 17 (by kernel_rfl) h0
              have hP := hG.one h0
              have q17 := h0
              have e5 := hT 5 (ready_dep hi rfl 5 (by kernel_rfl))
              obtain ⟨g16, e16, gb, hgb, hI⟩ := hT 16 (ready_dep hi rfl 16 (by kernel_rfl))
              cases hgb
              obtain ⟨hI1, hI2⟩ := hI
              have oSW := own_below oS2 hP
              have oWW := own_below oW2 hP
              have hZ2 := hX2.below hP hX2.lt
              have hBW : B ≤ W.heap.size := Nat.le_trans (Nat.le_trans hBrb (Nat.le_of_lt hX2.lt)) hP.size
              have hnews : ∀ j u, [Value.int .i64 n0, .int .i64 n1, .int .i64 n2][j]? = some u → W.cell? ((⟨g16, 0, none⟩ : Addr).add j) = some u := by
                obtain ⟨ad, ea, _, hc⟩ := hI2.2 (by decide)
                cases ea
                exact hc
              have HT := Lib.hid hT
              have HG := Lib.hid hG
              clear hT hG h0 hi
              subst ha0
              refine step_free rfl rfl (fun K' hK => ?_)
              simp only [sqS, putL, Act.put, List.setIfInBounds_toArray, List.set_cons_zero, List.set_cons_succ]
              rw [e5, e16]
              refine wp_pushc sl24 (.tmp 162) (.tmp 173) (by rfl) B (.slice As r.f.so.length cso) r.f.so.length (flatS r.f.so) (by rfl) oSW g16 1 1 (by rfl) [.int .i64 n0, .int .i64 n1, .int .i64 n2] (by rfl) hnews (by simp [Value.oneCell']) h63 h24 hBW ?_
              intro v' w9 own9 hgr
              obtain ⟨A9, c9, rfl, _, _⟩ := own_form own9
              have hQ9 : sqQ B rb Wo r vW b0 b1 b2 b3 b4 b5 b6 n0 n1 n2 w9 (.slice A9 (r.f.so.length + 1) c9) (.slice As r.f.so.length cso) := ⟨(hbo.trans (hP.mono hBw2)).trans (hgr.below (own_ge oSW) hBW), hZ2.grown hgr.grown (fun e => own_blk_ne oSW hZ2 (by decide) e.symm), own9, hgr.keep oWW (own_ne_type oWW oSW (by decide))⟩
              refine RI.nextL (v := .slice A9 (r.f.so.length + 1) c9) hK HT (fun k u hk hu => sqT_grown B rb Wo w2 r vW b0 b1 b2 b3 b4 b5 b6 As cso gv n0 n1 n2 hgr.grown (fun g e => own_lt oS2 g e) k (fun e => by rw [e, q17] at hk; cases hk) u hu) (HG.out.mid hlt' (by decide) q21) (show sqT B rb Wo w2 r vW b0 b1 b2 b3 b4 b5 b6 As cso gv n0 n1 n2 17 _ _ from ⟨⟨_, _, rfl⟩, _, hQ9⟩) ?_
              simp only [sqS, putL, Act.put, List.setIfInBounds_toArray, List.set_cons_zero, List.set_cons_succ]
              rw [← e5, ← e16]
              rfl
            · refine step_free rfl rfl (fun K' hK => ?_)
              have HT := Lib.hid hT
              have HG := Lib.hid hG
              clear hT hG h0 hi
              subst ha0
              simp only [sqS, putL, Act.put, List.setIfInBounds_toArray, List.set_cons_zero, List.set_cons_succ, List.getElem_toArray, List.getElem_cons_zero, List.getElem_cons_succ]
              go_simp
              refine RI.next (v := .pointer (some ⟨rb, 0, none⟩)) hK HT (fun _ _ h => h) (HG.out.same 18 (by decide) (by decide)) (show sqT B rb Wo w2 r vW b0 b1 b2 b3 b4 b5 b6 As cso gv n0 n1 n2 18 _ _ from rfl) ?_
              simp only [sqS, putL, Act.put, List.setIfInBounds_toArray, List.set_cons_zero, List.set_cons_succ]
              rfl
            · have e18 := hT 18 (ready_dep hi rfl 18 (by kernel_rfl))
              refine step_free rfl rfl (fun K' hK => ?_)
              have HT := Lib.hid hT
              have HG := Lib.hid hG
              clear hT hG h0 hi
              subst ha0
              simp only [sqS, putL, Act.put, List.setIfInBounds_toArray, List.set_cons_zero, List.set_cons_succ, List.getElem_toArray, List.getElem_cons_zero, List.getElem_cons_succ]
              rw [e18]
              go_simp
              refine RI.next (v := .pointer (some ⟨rb, 1, none⟩)) hK HT (fun _ _ h => h) (HG.out.same 19 (by decide) (by decide)) (show sqT B rb Wo w2 r vW b0 b1 b2 b3 b4 b5 b6 As cso gv n0 n1 n2 19 _ _ from rfl) ?_
              simp only [sqS, putL, Act.put, List.setIfInBounds_toArray, List.set_cons_zero, List.set_cons_succ]
              rw [← e18]
              rfl
            · have e19 := hT 19 (ready_dep hi rfl 19 (by kernel_rfl))
              refine step_free rfl rfl (fun K' hK => ?_)
              have HT := Lib.hid hT
              have HG := Lib.hid hG
              clear hT hG h0 hi
              subst ha0
              simp only [sqS, putL, Act.put, List.setIfInBounds_toArray, List.set_cons_zero, List.set_cons_succ, List.getElem_toArray, List.getElem_cons_zero, List.getElem_cons_succ]
              rw [e19]
              go_simp
              refine RI.next (v := .pointer (some ⟨rb, 10, none⟩)) hK HT (fun _ _ h => h) (HG.out.same 20 (by decide) (by decide)) (show sqT B rb Wo w2 r vW b0 b1 b2 b3 b4 b5 b6 As cso gv n0 n1 n2 20 _ _ from rfl) ?_
              simp only [sqS, putL, Act.put, List.setIfInBounds_toArray, List.set_cons_zero, List.set_cons_succ]
              rw [← e19]
              rfl
            · have hd17 := ready_dep hi rfl 17 (by kernel_rfl)
              obtain ⟨⟨A9, c9, e17⟩, u9, hQ⟩ := hT 17 hd17
              have e20 := hT 20 (ready_dep hi rfl 20 (by kernel_rfl))
              have hc1 : W.cell? ⟨rb, 10, none⟩ = some u9 := hQ.2.1.cell 10
              have hf1 : W.frozen? ⟨rb, 10, none⟩ = false := hQ.2.1.frozen 10
              rw [e17] at hQ
              have hQ2 := Lib.hid (sqQ_set hQ hBrb (.slice A9 (r.f.so.length + 1) c9))
              obtain ⟨_, o, ho, _⟩ := mem_ready.1 hi
              have ho2 := ho
              simp only [List.getElem?_toArray, List.getElem?_cons_succ, List.getElem?_cons_zero, Option.some.injEq] at ho2
              subst ho2
              refine step_free ho ?_ ?_
              · rfl
              intro K' hK
              clear ho hQ
              have HT := Lib.hid hT
              have HG := Lib.hid hG
              clear hT hG h0 hi
              subst ha0
              simp only [sqS, putL, Act.put, List.setIfInBounds_toArray, List.set_cons_zero, List.set_cons_succ]
              rw [e17, e20]
              go_simp
              refine RI.nextL (v := .slice A9 (r.f.so.length + 1) c9) hK HT (fun k u hk hu => sqT_set B rb Wo w2 r vW b0 b1 b2 b3 b4 b5 b6 As cso gv n0 n1 n2 hBrb hX2.lt _ rfl k u hu) (HG.out.last hd17 ⟨_, ⟨_, _, rfl⟩, hQ2.out⟩) (show sqT B rb Wo w2 r vW b0 b1 b2 b3 b4 b5 b6 As cso gv n0 n1 n2 21 _ _ from trivial) ?_
              simp only [sqS, putL, Act.put, List.setIfInBounds_toArray, List.set_cons_zero, List.set_cons_succ]
              rw [← e17, ← e20]
              rfl
          · rintro L a W3 hall ⟨vs, rfl, hG, hT⟩
            obtain ⟨v9, ⟨A9, c9, rfl⟩, hQ1, hQ2, hQ3, hQ4⟩ := hG.two (hall 21 (by decide))
            clear hG hT hall
            have HQ : Hid (RdQ B rb ⟨r.part, ⟨r.f.nm, r.f.ws, r.f.bk, r.f.so ++ [⟨n0, n1, n2⟩]⟩, r.ck⟩ W3) := Lib.hid ⟨vW, _, b0, b1, b2, b3, b4, b5, b6, hQ2, hQ4, by rw [List.length_append, flatS_snoc]; exact hQ3, Hbk.out, hBrb⟩
            have Hb : Hid (Below B W W3) := Lib.hid (by rw [← hWo]; exact hQ1)
            clear hQ1 hQ2 hQ3 hQ4
            subst ha0
            simp only [sqS, putL, Act.put, List.setIfInBounds_toArray, List.set_cons_zero, List.set_cons_succ]
            go_wp2_with fail
            go_ret
            exact (Htk.out _ _).2 _ HN.out rfl HQ.out Hb.out
          · exact RI.init3 sqPure (fun k hk v => sqPureT B rb Wo w2 r vW b0 b1 b2 b3 b4 b5 b6 As cso gv n0 n1 n2 k hk v _) (fun k => a0.tmps.getD (sqF k) undef) (putL_self a0 sqF sqS (by kernel_rfl)).symm (PG.init (by kernel_rfl) (below_todrew (Below.refl _ _)) (by kernel_rfl)) (by kernel_rfl)
end Go.Proofs.YtiegpkbollihgaaDoor
namespace Go.Proofs.YtiegpkbollihgaaDoor
open Go.RowKit
set_option maxRecDepth 100000 in
set_option maxHeartbeats 16000000 in
theorem rk_E (B rb : Nat) (p : List UInt8) (r : Fn.RS) (W : World) (h : RdQ B rb r W) (hB : B ≤ W.heap.size) (hp : p.length ≤ 20000) (h2 : r.part = 2) (hw : Fn.wd (Tx.cutAt 32 p) 0 ≠ Fn.wSetout):
    Calls Tryd.prog 31 #[.pointer (some ⟨rb, 0, none⟩), .string (baOf p)] W (ReadR B rb p r W) := by
  have hbz : (baOf p).size = p.length := by simp [baOf, ByteArray.size]
  have HSp := Lib.hid (words_c (baOf p) W (by rw [hbz]; omega))
  obtain ⟨vW, vS, b0, b1, b2, b3, b4, b5, b6, hX0, oW0, oS0, hbk, hBrb⟩ := h
  have Hbk := Lib.hid hbk
  have Hwz := Lib.hid (fun q (hq : q ∈ Tx.cutAt 32 p) => Tx.pieceLen 32 p q hq)
  clear hbk
  go_enter Tryd.func31, Tryd.ntmps31
  go_wp2_with fail
  refine HSp.out.mono ?_
  rintro e w1 ⟨L', n, v, rfl, oL, hL, hn2, hb1w⟩
  rw [baOf_data] at hL
  obtain ⟨Ws, hWs⟩ : ∃ Ws, Tx.cutAt 32 p = Ws := ⟨_, rfl⟩
  have HWs := Lib.hid hWs
  rw [hWs] at hL Hwz hw
  rw [hbz] at hn2
  rw [bytes_map hL] at oL
  have hlW : Ws.length = n := by have := oL.1; simpa using this
  have hn1 : 1 ≤ n := by rw [← hlW]; exact Nat.one_le_iff_ne_zero.2 (fun e => Tx.cutAt_ne 32 p (by rw [hWs]; exact List.eq_nil_of_length_eq_zero e))
  obtain ⟨gs, cs, rfl, _⟩ := oL.form (by omega)
  obtain ⟨Aq, cq, eq, hcs1, hcs2⟩ := own_form oL
  injection eq with eA _ eC
  subst eC
  have hX : Blk w1 rb 71 #[.int .i64 (r.part : Int), .string r.f.nm, vW, .int .i64 b0, .int .i64 b1, .int .i64 b2, .int .i64 b3, .int .i64 b4, .int .i64 b5, .int .i64 b6, vS, .int .i64 r.ck] := hX0.below hb1w hX0.lt
  have oW := own_below oW0 hb1w
  have oS := own_below oS0 hb1w
  have hb1 : Below B W w1 := hb1w.mono hB
  have hS : StrR w1 (some ⟨gs, 0, none⟩) n Ws := StrR.own oL
  have hz : ∀ j, (Fn.wd Ws j).length ≤ 20000 := fun j => by
    unfold Fn.wd
    rw [List.getD_eq_getElem?_getD]
    cases hq : Ws[j]? with
    | none => exact Nat.zero_le _
    | some q => have := Hwz.out q (List.mem_of_getElem? hq); simp only [Option.getD_some]; omega
  have Hz := Lib.hid hz
  have HlW := Lib.hid hlW
  obtain ⟨ad0, e0, _, hcc⟩ := hS.2 (by omega)
  obtain rfl := Option.some.inj e0
  have c0 : w1.cell? ⟨gs, 0, none⟩ = some (.string (baOf (Fn.wd Ws 0))) := hcc 0 (by omega)
  have HC1 : Hid (1 < n → w1.cell? ⟨gs, 1, none⟩ = some (.string (baOf (Fn.wd Ws 1)))) := Lib.hid (fun h => hcc 1 h)
  have HS := Lib.hid hS
  have hle1 := hb1.size
  have hn0i : (0 : Int) < (n : Int) := by omega
  have hlen : cs ≤ 9223372036854775807 := by unfold maxLen at hcs2; omega
  have hnci : (n : Int) ≤ (cs : Int) := by omega
  obtain ⟨bt, hbt⟩ : ∃ b, decide (Fn.wd Ws 0 = Fn.wTrain) = b := ⟨_, rfl⟩
  obtain ⟨bw, hbw⟩ : ∃ b, decide (Fn.wd Ws 0 = Fn.wWagon) = b := ⟨_, rfl⟩
  obtain ⟨bb, hbb⟩ : ∃ b, decide (Fn.wd Ws 0 = Fn.wBrakes) = b := ⟨_, rfl⟩
  obtain ⟨bs, hbs⟩ : ∃ b, decide (Fn.wd Ws 0 = Fn.wSetout) = b := ⟨_, rfl⟩
  obtain ⟨be, hbe⟩ : ∃ b, decide (Fn.wd Ws 0 = Fn.wEnd) = b := ⟨_, rfl⟩
  obtain ⟨s0, hs0⟩ : ∃ s, baOf (Fn.wd Ws 0) = s := ⟨_, rfl⟩
  have et : (s0.toList == [116, 114, 97, 105, 110]) = bt := by rw [← hs0, ba_eqW]; exact hbt
  have ew : (s0.toList == [119, 97, 103, 111, 110]) = bw := by rw [← hs0, ba_eqW]; exact hbw
  have eb : (s0.toList == [98, 114, 97, 107, 101, 115]) = bb := by rw [← hs0, ba_eqW]; exact hbb
  have es : (s0.toList == [115, 101, 116, 111, 117, 116]) = bs := by rw [← hs0, ba_eqW]; exact hbs
  have ee : (s0.toList == [101, 110, 100]) = be := by rw [← hs0, ba_eqW]; exact hbe
  rw [hs0] at c0
  have Hbt := Lib.hid hbt
  have Hbw := Lib.hid hbw
  have Hbb := Lib.hid hbb
  have Hbs := Lib.hid hbs
  have Hbe := Lib.hid hbe
  have x0 : w1.cell? ⟨rb, 0, none⟩ = some (.int .i64 (r.part : Int)) := hX.cell 0
  have Htk : Hid (∀ e W', (Fn.take r Ws = none → e = .returned (.bool false) → Below B W W' → ReadR B rb p r W e W') ∧ (∀ r', Fn.take r Ws = some r' → e = .returned (.bool true) → RdQ B rb r' W' → Below B W W' → ReadR B rb p r W e W')) := Lib.hid (fun e W' => ⟨fun h1 h2 h3 => by subst h2; exact readR_no (by rw [HWs.out]; exact h1) h3, fun r' h1 h2 h3 h4 => by subst h2; exact readR_ok (by rw [HWs.out]; exact h1) h3 h4⟩)
  clear hbt hbw hbb hbs hbe hs0 hcc e0 hWs hL hX0 oW0 oS0 hz hlW hS HSp HWs hbz Hwz hb1w oL hcs2 eA
  have e0 : ((r.part : Int) == 0) = false := by simp; omega
  have e1 : ((r.part : Int) == 1) = false := by simp; omega
  have e2 : ((r.part : Int) == 2) = true := by simp; omega
  cases bs with
  | true => exact absurd (of_decide_eq_true Hbs.out) hw
  | false =>
    cases be with
    | false =>
      have HN := Lib.hid (Fn.take_no2 h2 (fun e => of_decide_eq_false Hbs.out e.1) (fun e => of_decide_eq_false Hbe.out e.1))
      clear h2
      go_wp2_with fail
      go_ret
      exact (Htk.out _ _).1 HN.out rfl hb1
    | true =>
      by_cases hk : n = 2
      case neg =>
        have d2 : ((n : Int) == 2) = false := by simp; omega
        have HN := Lib.hid (Fn.take_no2 (w := Ws) h2 (fun e => of_decide_eq_false Hbs.out e.1) (fun e => hk (by rw [← HlW.out]; exact e.2)))
        clear h2
        go_wp2_with fail
        go_ret
        exact (Htk.out _ _).1 HN.out rfl hb1
      case pos =>
        subst hk
        have Hd := Lib.hid (Fn.take_endl (w := Ws) h2 (of_decide_eq_true Hbe.out) HlW.out)
        have hdt : (Ws.drop 1).take 1 = Ws.drop 1 := List.take_of_length_le (by rw [List.length_drop, HlW.out]; omega)
        have Hsub := HS.out.sub (k := 1) (m := 1) (by omega)
        rw [hdt] at Hsub
        have HA := Lib.hid (rints_c (some ⟨gs, 1, none⟩) 1 (cs - 1) (Ws.drop 1) w1 (by omega) Hsub (fun j => by have := Hz.out (1 + j); rw [wd_drop]; omega))
        have hc1 : ((cs : Int) == 1) = false := by simp; omega
        have hc2 : (1 : Int) ≤ (cs : Int) := by omega
        have hc3 : ¬ cs = 1 := by omega
        have hc4 : 1 ≤ cs := by omega
        clear hdt Hsub
        go_wp2_with fail
        refine HA.out.mono ?_
        rintro e w2 hA
        obtain ⟨⟨v, ok, rfl, hmm⟩, hb2⟩ := hA
        have hb2' := hb1.trans (hb2.mono (Nat.le_trans hB hb1.size))
        have hX2 := hX.below hb2 hX.lt
        cases hi : Fn.ints (Ws.drop 1) with
        | none =>
          rw [hi] at hmm
          obtain ⟨rfl, rfl⟩ := hmm
          have HN : Hid (Fn.take r Ws = none) := Lib.hid (by rw [Hd.out, hi])
          clear hi
          have y0 : w2.cell? ⟨rb, 0, none⟩ = some (.int .i64 (r.part : Int)) := hX2.cell 0
          have f0 : w2.frozen? ⟨rb, 0, none⟩ = false := hX2.frozen 0
          have hb3 := hb2'.setCell (p := ⟨rb, 0, none⟩) hBrb (.int .i64 3)
          go_wp2_with fail
          go_ret
          exact (Htk.out _ _).1 HN.out rfl hb3
        | some l =>
          rw [hi] at hmm
          obtain ⟨rfl, own⟩ := hmm
          obtain ⟨gv, cap, rfl, hcap⟩ := own.form (by omega)
          have hll : l.length = 1 := own_len own
          match l, hll with
          | [n0], _ =>
            have i0 : w2.cell? ⟨gv, 0, none⟩ = some (.int .i64 n0) := own_cell own (j := 0) (by omega)
            have oW2 := own_below oW hb2
            have oS2 := own_below oS hb2
            have HN : Hid (Fn.take r Ws = some { r with part := 3, ck := n0 }) := Lib.hid (by rw [Hd.out, hi]; rfl)
            clear hi own
            have yy0 : w2.cell? ⟨rb, 11, none⟩ = some (.int .i64 r.ck) := hX2.cell 11
            have ff0 : w2.frozen? ⟨rb, 11, none⟩ = false := hX2.frozen 11
            have oWq0 := own_farB (j := 11) oW2 hX2 (by decide) (.int .i64 n0)
            have oSq0 := own_farB (j := 11) oS2 hX2 (by decide) (.int .i64 n0)
            have hXq0 := hX2.set_ 11 (.int .i64 n0)
            have hbq0 := hb2'.setCell (p := ⟨rb, 11, none⟩) hBrb (.int .i64 n0)
            have yy1 : (w2.setCell ⟨rb, 11, none⟩ (.int .i64 n0)).cell? ⟨rb, 0, none⟩ = some (.int .i64 (r.part : Int)) := hXq0.cell 0
            have ff1 : (w2.setCell ⟨rb, 11, none⟩ (.int .i64 n0)).frozen? ⟨rb, 0, none⟩ = false := hXq0.frozen 0
            have oWq1 := own_farB (j := 0) oWq0 hXq0 (by decide) (.int .i64 3)
            have oSq1 := own_farB (j := 0) oSq0 hXq0 (by decide) (.int .i64 3)
            have hXq1 := hXq0.set_ 0 (.int .i64 3)
            have hbq1 := hbq0.setCell (p := ⟨rb, 0, none⟩) hBrb (.int .i64 3)
            have HQ : Hid (RdQ B rb ⟨3, r.f, n0⟩ ((w2.setCell ⟨rb, 11, none⟩ (.int .i64 n0)).setCell ⟨rb, 0, none⟩ (.int .i64 3))) := Lib.hid ⟨vW, vS, b0, b1, b2, b3, b4, b5, b6, hXq1, oWq1, oSq1, Hbk.out, hBrb⟩
            have Hb := Lib.hid hbq1
            clear hX2 oW2 oS2 hb2' oWq0 oSq0 hXq0 hbq0 oWq1 oSq1 hXq1 hbq1
            go_wp2_with fail
            go_ret
            exact (Htk.out _ _).2 _ HN.out rfl HQ.out Hb.out
end Go.Proofs.YtiegpkbollihgaaDoor
namespace Go.Proofs.YtiegpkbollihgaaDoor
open Go.RowKit
set_option maxRecDepth 100000 in
set_option maxHeartbeats 16000000 in
theorem rk_F (B rb : Nat) (p : List UInt8) (r : Fn.RS) (W : World) (h : RdQ B rb r W) (hB : B ≤ W.heap.size) (hp : p.length ≤ 20000) (h0 : r.part ≠ 0) (h1 : r.part ≠ 1) (h2 : r.part ≠ 2):
    Calls Tryd.prog 31 #[.pointer (some ⟨rb, 0, none⟩), .string (baOf p)] W (ReadR B rb p r W) := by
  have hbz : (baOf p).size = p.length := by simp [baOf, ByteArray.size]
  have HSp := Lib.hid (words_c (baOf p) W (by rw [hbz]; omega))
  obtain ⟨vW, vS, b0, b1, b2, b3, b4, b5, b6, hX0, oW0, oS0, hbk, hBrb⟩ := h
  have Hbk := Lib.hid hbk
  have Hwz := Lib.hid (fun q (hq : q ∈ Tx.cutAt 32 p) => Tx.pieceLen 32 p q hq)
  clear hbk
  go_enter Tryd.func31, Tryd.ntmps31
  go_wp2_with fail
  refine HSp.out.mono ?_
  rintro e w1 ⟨L', n, v, rfl, oL, hL, hn2, hb1w⟩
  rw [baOf_data] at hL
  obtain ⟨Ws, hWs⟩ : ∃ Ws, Tx.cutAt 32 p = Ws := ⟨_, rfl⟩
  have HWs := Lib.hid hWs
  rw [hWs] at hL Hwz
  rw [hbz] at hn2
  rw [bytes_map hL] at oL
  have hlW : Ws.length = n := by have := oL.1; simpa using this
  have hn1 : 1 ≤ n := by rw [← hlW]; exact Nat.one_le_iff_ne_zero.2 (fun e => Tx.cutAt_ne 32 p (by rw [hWs]; exact List.eq_nil_of_length_eq_zero e))
  obtain ⟨gs, cs, rfl, _⟩ := oL.form (by omega)
  obtain ⟨Aq, cq, eq, hcs1, hcs2⟩ := own_form oL
  injection eq with eA _ eC
  subst eC
  have hX : Blk w1 rb 71 #[.int .i64 (r.part : Int), .string r.f.nm, vW, .int .i64 b0, .int .i64 b1, .int .i64 b2, .int .i64 b3, .int .i64 b4, .int .i64 b5, .int .i64 b6, vS, .int .i64 r.ck] := hX0.below hb1w hX0.lt
  have oW := own_below oW0 hb1w
  have oS := own_below oS0 hb1w
  have hb1 : Below B W w1 := hb1w.mono hB
  have hS : StrR w1 (some ⟨gs, 0, none⟩) n Ws := StrR.own oL
  have hz : ∀ j, (Fn.wd Ws j).length ≤ 20000 := fun j => by
    unfold Fn.wd
    rw [List.getD_eq_getElem?_getD]
    cases hq : Ws[j]? with
    | none => exact Nat.zero_le _
    | some q => have := Hwz.out q (List.mem_of_getElem? hq); simp only [Option.getD_some]; omega
  have Hz := Lib.hid hz
  have HlW := Lib.hid hlW
  obtain ⟨ad0, e0, _, hcc⟩ := hS.2 (by omega)
  obtain rfl := Option.some.inj e0
  have c0 : w1.cell? ⟨gs, 0, none⟩ = some (.string (baOf (Fn.wd Ws 0))) := hcc 0 (by omega)
  have HC1 : Hid (1 < n → w1.cell? ⟨gs, 1, none⟩ = some (.string (baOf (Fn.wd Ws 1)))) := Lib.hid (fun h => hcc 1 h)
  have HS := Lib.hid hS
  have hle1 := hb1.size
  have hn0i : (0 : Int) < (n : Int) := by omega
  have hlen : cs ≤ 9223372036854775807 := by unfold maxLen at hcs2; omega
  have hnci : (n : Int) ≤ (cs : Int) := by omega
  obtain ⟨bt, hbt⟩ : ∃ b, decide (Fn.wd Ws 0 = Fn.wTrain) = b := ⟨_, rfl⟩
  obtain ⟨bw, hbw⟩ : ∃ b, decide (Fn.wd Ws 0 = Fn.wWagon) = b := ⟨_, rfl⟩
  obtain ⟨bb, hbb⟩ : ∃ b, decide (Fn.wd Ws 0 = Fn.wBrakes) = b := ⟨_, rfl⟩
  obtain ⟨bs, hbs⟩ : ∃ b, decide (Fn.wd Ws 0 = Fn.wSetout) = b := ⟨_, rfl⟩
  obtain ⟨be, hbe⟩ : ∃ b, decide (Fn.wd Ws 0 = Fn.wEnd) = b := ⟨_, rfl⟩
  obtain ⟨s0, hs0⟩ : ∃ s, baOf (Fn.wd Ws 0) = s := ⟨_, rfl⟩
  have et : (s0.toList == [116, 114, 97, 105, 110]) = bt := by rw [← hs0, ba_eqW]; exact hbt
  have ew : (s0.toList == [119, 97, 103, 111, 110]) = bw := by rw [← hs0, ba_eqW]; exact hbw
  have eb : (s0.toList == [98, 114, 97, 107, 101, 115]) = bb := by rw [← hs0, ba_eqW]; exact hbb
  have es : (s0.toList == [115, 101, 116, 111, 117, 116]) = bs := by rw [← hs0, ba_eqW]; exact hbs
  have ee : (s0.toList == [101, 110, 100]) = be := by rw [← hs0, ba_eqW]; exact hbe
  rw [hs0] at c0
  have Hbt := Lib.hid hbt
  have Hbw := Lib.hid hbw
  have Hbb := Lib.hid hbb
  have Hbs := Lib.hid hbs
  have Hbe := Lib.hid hbe
  have x0 : w1.cell? ⟨rb, 0, none⟩ = some (.int .i64 (r.part : Int)) := hX.cell 0
  have Htk : Hid (∀ e W', (Fn.take r Ws = none → e = .returned (.bool false) → Below B W W' → ReadR B rb p r W e W') ∧ (∀ r', Fn.take r Ws = some r' → e = .returned (.bool true) → RdQ B rb r' W' → Below B W W' → ReadR B rb p r W e W')) := Lib.hid (fun e W' => ⟨fun h1 h2 h3 => by subst h2; exact readR_no (by rw [HWs.out]; exact h1) h3, fun r' h1 h2 h3 h4 => by subst h2; exact readR_ok (by rw [HWs.out]; exact h1) h3 h4⟩)
  clear hbt hbw hbb hbs hbe hs0 hcc e0 hWs hL hX0 oW0 oS0 hz hlW hS HSp HWs hbz Hwz hb1w oL hcs2 eA
  have e0 : ((r.part : Int) == 0) = false := by simp; omega
  have e1 : ((r.part : Int) == 1) = false := by simp; omega
  have e2 : ((r.part : Int) == 2) = false := by simp; omega
  have HN := Lib.hid (Fn.take_no3 (w := Ws) h0 h1 h2)
  clear h1 h0 h2
  go_wp2_with fail
  go_ret
  exact (Htk.out _ _).1 HN.out rfl hb1
end Go.Proofs.YtiegpkbollihgaaDoor
namespace Go.Proofs.YtiegpkbollihgaaDoor
open Go.RowKit
theorem read_c (B rb : Nat) (p : List UInt8) (r : Fn.RS) (W : World) (h : RdQ B rb r W) (hB : B ≤ W.heap.size) (hp : p.length ≤ 20000) (hws : r.f.ws.length ≤ 20000) (hso : r.f.so.length ≤ 20000) :
    Calls Tryd.prog 31 #[.pointer (some ⟨rb, 0, none⟩), .string (baOf p)] W (ReadR B rb p r W) := by
  by_cases h0 : r.part = 0
  · exact rk_A B rb p r W h hB hp h0
  by_cases h1 : r.part = 1
  · by_cases hw : Fn.wd (Tx.cutAt 32 p) 0 = Fn.wWagon
    · exact rk_B B rb p r W h hB hp hws h1 hw
    · exact rk_C B rb p r W h hB hp h1 hw
  by_cases h2 : r.part = 2
  · by_cases hw : Fn.wd (Tx.cutAt 32 p) 0 = Fn.wSetout
    · exact rk_D B rb p r W h hB hp hso h2 hw
    · exact rk_E B rb p r W h hB hp h2 hw
  · exact rk_F B rb p r W h hB hp h0 h1 h2
end Go.Proofs.YtiegpkbollihgaaDoor
