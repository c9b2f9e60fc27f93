/- The walk of plant's Format. -/
import Derived.Test.YtkkpkekkaoccbaaDoorPlF1
import Derived.Test.YtkkpkekkaoccbaaDoorBuilder
import Derived.Test.YtkkpkekkaoccbaaDoorShelf
import Derived.Deep.DeepCutAuto
namespace Go.Proofs.YtkkpkekkaoccbaaDoor
open Go.RowKit
/-- The library's table of powers of ten. -/
def Tab10 (w : World) : Prop := Lib.TabIs Tryd.prog w "internal/strconv.uint64pow10" .u64 Lib.pow10Tab
theorem Tab10.below {w w' : World} (h : Tab10 w) (hb : Below w.heap.size w w') : Tab10 w' := by
  unfold Tab10 Lib.TabIs World.var? at h ⊢
  cases hg : Tryd.prog.globalNamed "internal/strconv.uint64pow10" with
  | none => rw [hg] at h; cases h
  | some g =>
    rw [hg] at h
    simp only [Option.bind_some] at h ⊢
    have hlt : g < w.heap.size := by
      rcases Nat.lt_or_ge g w.heap.size with h' | h'
      · exact h'
      · rw [Array.getElem?_eq_none h'] at h; cases h
    rw [hb.block g hlt]
    exact h
theorem below_grow (w : World) (k : Nat) (os : Array Obj) : Below w.heap.size w (Sort.grow (w.drewN k) os) := by
  refine ⟨rfl, rfl, rfl, ?_, fun i hi => ?_⟩
  · show w.heap.size ≤ (w.heap ++ os).size
    simp
  · show (w.heap ++ os)[i]? = w.heap[i]?
    rw [Array.getElem?_append_left hi]
theorem itoa_c (n : Int) (h0 : -9223372036854775808 ≤ n) (h1 : n ≤ 9223372036854775807) (w : World) (ht : Tab10 w) :
    Calls Tryd.prog 40 #[.int .i64 n] w fun e w' => e = .returned (.string (bOf (Lib.itoa n))) ∧ Below w.heap.size w w' :=
  (Tryd.strconv_Itoa n h0 h1 w ht).mono fun e w' ⟨he, k, os, hw⟩ => ⟨he, by rw [hw]; exact below_grow w k os⟩
theorem own_ne_type {w : World} {B B' e e' size size' n n' : Nat} {u v : Value} {xs ys : List Value} (h : w.ownsRow B e size u n xs) (k : w.ownsRow B' e' size' v n' ys) (hne : e ≠ e') : apart u v := by
  rcases h.2 with ⟨rfl, _⟩ | ⟨g, cap, cur, rfl, _, hh, _⟩
  · exact .inl rfl
  · rcases k.2 with ⟨rfl, _⟩ | ⟨g', cap', cur', rfl, _, hh', _⟩
    · exact .inr (by simp [Value.ownBlock])
    · refine .inr fun e1 => ?_
      simp only [Value.ownBlock, Option.some.injEq] at e1
      subst e1
      rw [hh] at hh'
      injection hh' with hh'
      injection hh' with _ ht
      exact hne ht
theorem Bd.grew {B b B' e size n : Nat} {bs : List UInt8} {w w' : World} {v v' : Value} {xs : List Value} (h : Bd B b bs w) (ho : w.ownsRow B' e size v n xs) (hg : Grew w v v' w') (h1 : e ≠ 5) (h2 : e ≠ 65) : Bd B b bs w' := by
  have key : ∀ p, Lib.BuilderAt 65 5 B b p (Lib.byteCells bs) w → Lib.BuilderAt 65 5 B b p (Lib.byteCells bs) w' := by
    rintro p ⟨k1, u, k2, k3, k4⟩
    refine ⟨k1, u, ?_, hg.keep k3 (own_ne_type k3 ho (fun e => h1 e.symm)), k4⟩
    rw [hg.grown.block b (heap_lt k2) (fun e1 => ?_)]
    · exact k2
    · exact own_blk_ne ho k2 h2 e1.symm
  rcases h with h | h
  · exact .inl (key _ h)
  · exact .inr (key _ h)
theorem word_size (k : Int) : (WordK k).1.size ≤ 8 := by
  have := Pl.kindW_len k
  unfold Pl.kindW at this
  simpa using this
theorem fmt_head (p : List UInt8) (x : PE) : p ++ ((WordK x.k).1 ++ ⟨#[32]⟩ ++ x.nm).data.toList = p ++ (Pl.kindW x.k ++ 32 :: x.nm.data.toList) := by
  simp [Pl.kindW]
theorem fmt_num (p : List UInt8) (L : List Int) (j : Nat) (hj : j < L.length) : p ++ (L.take j).flatMap Pl.sp ++ ((⟨#[32]⟩ : ByteArray) ++ bOf (Lib.itoa (L.getD j 0))).data.toList = p ++ (L.take (j + 1)).flatMap Pl.sp := by
  rw [List.take_succ_eq_append_getElem hj, List.flatMap_append, List.getD_eq_getElem?_getD, List.getElem?_eq_getElem hj]
  simp [Pl.sp, bOf, -List.take_append_getElem]
theorem fmt_tail (p : List UInt8) (x : PE) : p ++ (Pl.kindW x.k ++ 32 :: x.nm.data.toList) ++ (Pl.nums x).flatMap Pl.sp ++ [10] = p ++ Pl.lineF x := by
  simp [Pl.lineF]
theorem nums_len (x : PE) : (Pl.nums x).length ≤ 4 := by
  have := Pl.ends_len x
  unfold Pl.nums
  rw [List.length_append]
  split <;> simp <;> omega
theorem sp_flat_len : ∀ (L : List Int), (∀ y ∈ L, 0 ≤ y ∧ y ≤ 100000) → (L.flatMap Pl.sp).length ≤ 22 * L.length := by
  intro L
  induction L with
  | nil => intro _; simp
  | cons y r ih =>
    intro h
    have h1 := Pl.sp_len y (h y (by simp)).1 (h y (by simp)).2
    have h2 := ih (fun z hz => h z (by simp [hz]))
    simp only [List.flatMap_cons, List.length_append, List.length_cons]
    omega
theorem nums_bd {x : PE} (h : Pl.sound x = true) : ∀ y ∈ Pl.nums x, 0 ≤ y ∧ y ≤ 100000 := by
  obtain ⟨hk, hn, ⟨a0, a1⟩, ⟨b0, b1⟩, ⟨c0, c1⟩, l0, l1⟩ := Pl.sound_bd h
  intro y hy
  unfold Pl.nums Pl.ends at hy
  rcases hk with hk | hk | hk
  · rw [if_pos (by omega), if_pos hk] at hy
    simp at hy
    omega
  · rw [if_neg (by omega), if_pos hk, if_neg (by omega)] at hy
    simp at hy
    omega
  · rw [if_pos (by omega), if_neg (by omega)] at hy
    simp at hy
    omega
set_option maxRecDepth 100000 in
set_option maxHeartbeats 4000000 in
theorem format_c (A : Option Addr) (n c : Nat) (l : List PE) (w : World) (hn : n ≤ maxLen) (h : PR6 w A n l) (hs : ∀ x ∈ l, x.nm.size ≤ maxLen) (ht : Tab10 w) :
    Calls Tryd.prog 24 #[.slice A n c] w (FormatR l w) := by
  have hmx := hn
  unfold maxLen at hn
  have hl := h.len
  have HV := Lib.hid (valid_c A n c l w hmx h hs)
  clear hs
  by_cases h0 : Pl.vErr l = 0
  · have Hz := Lib.hid h0
    have hz := Pl.vErr_zero h0
    have hn96 : n ≤ 96 := by omega
    have Hs := Lib.hid hz.2
    have d3 : (Pl.vErr l != 0) = false := by simp [h0]
    clear h0 hz
    have HL := Lib.hid hl
    clear hl
    go_enter Tryd.func24, Tryd.ntmps24
    go_wp2_with fail
    refine HV.out.mono ?_
    rintro e w1 ⟨rfl, hb1⟩
    go_wp2_with fail
    go_loopw [20] (fun vi wr => ∃ i : Nat, i ≤ n ∧ vi = .int .i64 i ∧ Bd w1.heap.size w1.heap.size (Pl.fmtL (l.take i)) wr ∧ Below w1.heap.size w1 wr) (fun vi _ => n - (intOf vi).toNat)
    case atStart => exact ⟨0, by omega, rfl, Lib.fresh_isBuilder _ _ _, (Below.refl _ _).alloc (Nat.le_refl _) _⟩
    case round =>
      obtain ⟨i, hin, rfl, hbd, hbr⟩ := hrel
      have hbr0 := below_step hb1 hbr
      have htr := ht.below hbr0
      have hsz := hbr.size
      by_cases hlt : i < n
      · obtain ⟨ad, x, rfl, hba, hp, c0, c1, c2, c3, c4, c5⟩ := (h.below hbr0).at_ (i := i) hlt
        have hx := Hs.out x (List.mem_of_getElem? hp)
        obtain ⟨hk, hnm, ⟨a0, a1⟩, ⟨b0, b1⟩, ⟨e0, e1⟩, l0, l1⟩ := Pl.sound_bd hx
        have Hnb := Lib.hid (nums_bd hx)
        have zp : (Pl.fmtL (l.take i)).length ≤ 9600 := by
          have := Pl.fmtL_len (l.take i) (fun y hy => Hs.out y (List.mem_of_mem_take hy))
          have h2 : (l.take i).length ≤ i := List.length_take_le _ _
          omega
        have hws := word_size x.k
        have e32 : (⟨#[32]⟩ : ByteArray).size = 1 := rfl
        have hlti : (i : Int) < (n : Int) := by omega
        have Hp := Lib.hid hp
        have hB0 := Blk.new wr 40 #[.int .i64 x.k, .string x.nm, .int .i64 x.a, .int .i64 x.b, .int .i64 x.c, .int .i64 x.len]
        have hbA : Below w1.heap.size w1 (wr.alloc (.cells #[.int .i64 x.k, .string x.nm, .int .i64 x.a, .int .i64 x.b, .int .i64 x.c, .int .i64 x.len] 40)) := hbr.alloc hsz _
        have hbdA := hbd.below ((Below.refl wr.heap.size wr).alloc (Nat.le_refl _) (.cells #[.int .i64 x.k, .string x.nm, .int .i64 x.a, .int .i64 x.b, .int .i64 x.c, .int .i64 x.len] 40))
        clear hp hx h
        go_wp2_with fail
        refine (word_c x.k _).mono ?_
        rintro e w2 ⟨rfl, rfl⟩
        go_wp2_with fail
        refine (writeString_c w1.heap.size w1.heap.size (Pl.fmtL (l.take i)) _ _ hbdA (by simp; omega) (by simp; omega)).mono ?_
        rintro e w2 ⟨rfl, hbd2, hb2, hk2⟩
        rw [fmt_head] at hbd2
        have hB2 := hk2.blk hB0 (by decide) (by decide)
        have hb2' := hbA.trans hb2
        have g0 : w2.cell? ⟨wr.heap.size, 0, none⟩ = some (.int .i64 x.k) := hB2.cell 0
        have g1 : w2.cell? ⟨wr.heap.size, 1, none⟩ = some (.string x.nm) := hB2.cell 1
        have g2 : w2.cell? ⟨wr.heap.size, 2, none⟩ = some (.int .i64 x.a) := hB2.cell 2
        have g3 : w2.cell? ⟨wr.heap.size, 3, none⟩ = some (.int .i64 x.b) := hB2.cell 3
        have g4 : w2.cell? ⟨wr.heap.size, 4, none⟩ = some (.int .i64 x.c) := hB2.cell 4
        have g5 : w2.cell? ⟨wr.heap.size, 5, none⟩ = some (.int .i64 x.len) := hB2.cell 5
        clear hbdA hbd hB0 hk2 hb2 hbA
        go_wp2_with fail
        refine (ends_c x.k x.a x.b x.c x.len x.nm w2).mono ?_
        rintro e w3 ⟨v, rfl, own, hnil, hb3⟩
        have hB3 := hB2.below hb3 hB2.lt
        have hbd3 := hbd2.below hb3
        have hb3' := hb2'.trans (hb3.mono (by have := hb2'.size; omega))
        have g0 : w3.cell? ⟨wr.heap.size, 0, none⟩ = some (.int .i64 x.k) := hB3.cell 0
        have g5 : w3.cell? ⟨wr.heap.size, 5, none⟩ = some (.int .i64 x.len) := hB3.cell 5
        clear hnil
        have hsz2 := hb2'.size
        have hsz3 := hb3'.size
        go_upto_if 40 with fail
        go_cut [10] (fun v wx => ∃ M, M = (Pl.nums x).length ∧ wx.ownsRow w1.heap.size 3 1 v M ((Pl.nums x).map (Value.int .i64)) ∧ Bd w1.heap.size w1.heap.size (Pl.fmtL (l.take i) ++ (Pl.kindW x.k ++ 32 :: x.nm.data.toList)) wx ∧ Below w1.heap.size w1 wx)
        case first =>
          have own1 := own_more own (B' := w1.heap.size) hsz2
          have hel : (Pl.ends x).length ≤ 3 := Pl.ends_len x
          by_cases hk1 : x.k = 1
          · have d5 : (x.k == 1) = true := by simp [hk1]
            have Hnum := Lib.hid (show Pl.nums x = Pl.ends x ++ [x.len] by unfold Pl.nums; rw [if_pos hk1])
            clear hk1
            rw [d5]
            have h8 : ((Pl.ends x).length + 1) * 8 ≤ 140737488355328 := by omega
            have h63 : (Pl.ends x).length + 1 ≤ maxLen := by unfold maxLen; omega
            go_wp2_with (at_builtin
                         go_must (
                         refine wpList_push sl_int rfl (.tmp 41) (.tmp 44) rfl w1.heap.size _ _ _ rfl own1 1 1 rfl rfl rfl h63 h8 hsz3 ?_
                         intro v' w4 own4 hgr
                         have hbd4 := hbd3.grew own1 hgr (by decide) (by decide)
                         have hb4 := hb3'.trans (hgr.below (own_ge own1) hsz3)))
            go_meet
            exact ⟨(Pl.ends x).length + 1, by rw [Hnum.out, List.length_append]; rfl, by rw [Hnum.out, List.map_append]; exact own4, hbd4, hb4⟩
          · have d5 : (x.k == 1) = false := by simp [hk1]
            have Hnum := Lib.hid (show Pl.nums x = Pl.ends x by unfold Pl.nums; rw [if_neg hk1, List.append_nil])
            clear hk1
            rw [d5]
            go_wp2_with fail
            go_meet
            exact ⟨(Pl.ends x).length, by rw [Hnum.out], by rw [Hnum.out]; exact own1, hbd3, hb3'⟩
        case rest =>
          obtain ⟨M, hM, ownN, hbdN, hbN⟩ := hcut
          have hM4 : M ≤ 4 := by rw [hM]; exact nums_len x
          have HM := Lib.hid hM
          clear hM own hbd3 hb3' hbd2 hb2' hB2 hB3 hb3 hbr hbr0
          obtain ⟨An, cn, rfl, hcn1, hcn2⟩ := own_form ownN
          obtain ⟨wo, rfl⟩ : ∃ wo : World, wo = wr := ⟨_, rfl⟩
          go_wp2_with fail
          go_loopw [48] (fun vj wr => ∃ j : Nat, j ≤ M ∧ vj = .int .i64 j ∧ wr.ownsRow w1.heap.size 3 1 (.slice An M cn) M ((Pl.nums x).map (Value.int .i64)) ∧ Bd w1.heap.size w1.heap.size (Pl.fmtL (l.take i) ++ (Pl.kindW x.k ++ 32 :: x.nm.data.toList) ++ ((Pl.nums x).take j).flatMap Pl.sp) wr ∧ Below w1.heap.size w1 wr) (fun vj _ => M - (intOf vj).toNat)
          case atStart => exact ⟨0, by omega, rfl, ownN, by simpa using hbdN, hbN⟩
          case round =>
            obtain ⟨j, hjM, rfl, ownj, hbdj, hbj⟩ := hrel
            have htj := ht.below (below_step hb1 hbj)
            have hszj := hbj.size
            have hbs : (Pl.fmtL (l.take i) ++ (Pl.kindW x.k ++ 32 :: x.nm.data.toList) ++ ((Pl.nums x).take j).flatMap Pl.sp).length ≤ 10000 := by
              have h1 := Pl.kindW_len x.k
              have h2 : x.nm.data.toList.length = x.nm.size := by simp
              have h3 := sp_flat_len ((Pl.nums x).take j) (fun y hy => Hnb.out y (List.mem_of_mem_take hy))
              have h4 : ((Pl.nums x).take j).length ≤ j := List.length_take_le _ _
              simp only [List.length_append, List.length_cons]
              omega
            by_cases hjlt : j < M
            · have hIR := own_IR ownj
              obtain ⟨an, rfl, hab, hac⟩ := hIR.at_ (i := j) hjlt
              have hjl : j < (Pl.nums x).length := by have := HM.out; omega
              have hjb := Hnb.out ((Pl.nums x).getD j 0) (by rw [List.getD_eq_getElem?_getD, List.getElem?_eq_getElem hjl]; exact List.getElem_mem _)
              have Hst := Lib.hid (fmt_num (Pl.fmtL (l.take i) ++ (Pl.kindW x.k ++ 32 :: x.nm.data.toList)) (Pl.nums x) j hjl)
              have hjM1 : (j : Int) < (M : Int) := by omega
              obtain ⟨y, hy⟩ : ∃ y, (Pl.nums x).getD j 0 = y := ⟨_, rfl⟩
              rw [hy] at hac hjb Hst
              clear hy hIR hjl
              obtain ⟨hy0, hy1⟩ := hjb
              have zy := itoa_size y hy0 hy1
              have HI := Lib.hid (fun W hW => itoa_c y (by omega) (by omega) W hW)
              go_wp2_with fail
              refine (HI.out _ htj).mono ?_
              rintro e w5 ⟨rfl, hb5⟩
              have hbd5 := hbdj.below hb5
              have hb5' := hbj.trans (hb5.mono hszj)
              have hsz5 := hb5'.size
              have own5 := own_below ownj hb5
              go_wp2_with fail
              refine (writeString_c w1.heap.size w1.heap.size _ _ _ hbd5 (by simp only [ByteArray.size_append]; omega) hsz5).mono ?_
              rintro e w6 ⟨rfl, hbd6, hb6, hk6⟩
              rw [Hst.out] at hbd6
              have own6 := hk6.own own5 (by decide) (by decide)
              have hb6' := hb5'.trans hb6
              go_wp2_with fail
              go_roundw
              case rel => exact ⟨j + 1, by omega, by go_num, own6, hbd6, hb6'⟩
              case measure => simp [intOf]; omega
            · obtain rfl : j = M := by omega
              have Hend := Lib.hid (show Pl.fmtL (l.take i) ++ (Pl.kindW x.k ++ 32 :: x.nm.data.toList) ++ ((Pl.nums x).take j).flatMap Pl.sp ++ (⟨#[10]⟩ : ByteArray).data.toList = Pl.fmtL (l.take (i + 1)) by
                rw [List.take_of_length_le (Nat.le_of_eq HM.out.symm), take_snoc6 Hp.out, Pl.fmtL_snoc]
                exact fmt_tail _ x)
              have e10 : (⟨#[10]⟩ : ByteArray).size = 1 := rfl
              go_wp2_with fail
              refine (writeString_c w1.heap.size w1.heap.size _ _ _ hbdj (by omega) hszj).mono ?_
              rintro e w6 ⟨rfl, hbd6, hb6, hk6⟩
              rw [Hend.out] at hbd6
              have hb6' := hbj.trans hb6
              go_wp2_with fail
              go_roundw
              case rel => exact ⟨i + 1, by omega, by go_num, hbd6, hb6'⟩
              case measure => simp [intOf]; omega
      · obtain rfl : i = n := by omega
        have HT := Lib.hid (show bOf (Pl.fmtL (l.take i)) = bOf (Pl.fmtL l) by rw [List.take_of_length_le (by rw [HL.out]; exact Nat.le_refl _)])
        have hin' : decide ((i : Int) < (i : Int)) = false := by simp
        go_wp2_with fail
        refine (Tryd.Builder_String_any w1.heap.size w1.heap.size _ _ hbd hsz).mono ?_
        rintro e w6 ⟨rfl, hb6⟩
        have hb6' := below_step hb1 (hbr.trans hb6)
        go_wp2_with fail
        go_ret2
        exact formatR_ok Hz.out HT.out hb6'
  · have d3 : (Pl.vErr l != 0) = true := by simp [h0]
    have Hz := Lib.hid h0
    clear h0
    go_enter Tryd.func24, Tryd.ntmps24
    go_wp2_with fail
    refine HV.out.mono ?_
    rintro e w1 ⟨rfl, hb1⟩
    go_wp2_with fail
    go_ret2
    exact formatR_bad Hz.out hb1
end Go.Proofs.YtkkpkekkaoccbaaDoor
