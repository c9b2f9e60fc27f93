/- The walk of the reference's Parse of a layout. -/
import Derived.Test.YtmjdjcpmkdninaaDoorLyT4
import Derived.Test.YtmjdjcpmkdninaaDoorLyP4
import Derived.Test.YtmjdjcpmkdninaaDoorLyR4
namespace Go.Proofs.YtmjdjcpmkdninaaDoor
open Go.RowKit
namespace Ly
/-- What stands behind a line. -/
def Rest (s : ByteArray) (i : Nat) (R : List (List UInt8)) : Prop := (i < s.size ∧ R = Tx.cutAt 10 (s.data.toList.drop (i + 1))) ∨ (i = s.size ∧ R = [])
theorem cons_skip {q : List UInt8} {R : List (List UInt8)} {j : Nat} {l : List LE} (hs : skip (Tx.words q) = true) : parseGo (q :: R) j l = parseGo R (j + 1) l := by
  rw [parseGo, if_pos hs]
theorem cons_bad {q : List UInt8} {R : List (List UInt8)} {j : Nat} {l : List LE} {e : Int} (hs : skip (Tx.words q) = false) (he : elemB l (Tx.words q) = .inl e) : parseS (parseGo (q :: R) j l) = ([], (j : Int) + 1, e) := by
  rw [parseGo, if_neg (by rw [hs]; decide), he]
  rfl
theorem cons_good {q : List UInt8} {R : List (List UInt8)} {j : Nat} {l : List LE} {x : LE} (hs : skip (Tx.words q) = false) (he : elemB l (Tx.words q) = .inr x) : parseGo (q :: R) j l = parseGo R (j + 1) (l ++ [x]) := by
  rw [parseGo, if_neg (by rw [hs]; decide), he]
end Ly
def RPS (s : ByteArray) (l : List LE) (f j i : Nat) : Prop := (i ≤ s.size ∧ f ≤ i ∧ Hid ((10 : UInt8) ∉ (s.data.toList.drop f).take (i - f)) ∧ Hid (Ly.parse s = Ly.parseS (Ly.parseGo (Tx.cutAt 10 (s.data.toList.drop f)) j l))) ∨ (i = s.size + 1 ∧ Hid (Ly.parse s = Ly.parseS (.inr l)))
theorem RPS.next {s : ByteArray} {l : List LE} {j i : Nat} {R : List (List UInt8)} (h : Ly.Rest s i R) (hp : Ly.parse s = Ly.parseS (Ly.parseGo R (j + 1) l)) : RPS s l (i + 1) (j + 1) (i + 1) := by
  rcases h with ⟨h1, rfl⟩ | ⟨h1, rfl⟩
  · exact .inl ⟨by omega, by omega, Lib.hid (by simp), Lib.hid hp⟩
  · exact .inr ⟨by omega, Lib.hid (by rw [hp]; rfl)⟩
theorem rest_hit {s : ByteArray} {l : List LE} {f j i : Nat} {b : UInt8} (hf : f ≤ i) (hn : (10 : UInt8) ∉ (s.data.toList.drop f).take (i - f)) (hp : Ly.parse s = Ly.parseS (Ly.parseGo (Tx.cutAt 10 (s.data.toList.drop f)) j l)) (hb : s.data.toList[i]? = some b) (h10 : b = 10) :
    ∃ R, Ly.Rest s i R ∧ Ly.parse s = Ly.parseS (Ly.parseGo ((s.extract f i).data.toList :: R) j l) := by
  subst h10
  refine ⟨_, .inl ⟨by have := (List.getElem?_eq_some_iff.1 hb).1; simpa using this, rfl⟩, ?_⟩
  rw [hp, Tx.piece_hit hf hb hn, extract_take]
theorem rest_end {s : ByteArray} {l : List LE} {f j i : Nat} (hi : i = s.size) (hn : (10 : UInt8) ∉ (s.data.toList.drop f).take (i - f)) (hp : Ly.parse s = Ly.parseS (Ly.parseGo (Tx.cutAt 10 (s.data.toList.drop f)) j l)) :
    ∃ R, Ly.Rest s i R ∧ Ly.parse s = Ly.parseS (Ly.parseGo ((s.extract f i).data.toList :: R) j l) := by
  refine ⟨[], .inr ⟨hi, rfl⟩, ?_⟩
  rw [hp, Tx.piece_end (i := i) (by simp; omega) hn, extract_take, List.take_of_length_le (by simp; omega)]
def RPI (s : ByteArray) (w : World) (vl vf vn vi : Value) (wr : World) : Prop := ∃ (l : List LE) (f j i : Nat), vi = .int .i64 (i : Int) ∧ vf = .int .i64 (f : Int) ∧ vn = .int .i64 (j : Int) ∧ l.length ≤ j ∧ j ≤ i ∧ f ≤ i ∧ i ≤ s.size + 1 ∧ wr.ownsRow w.heap.size 48 8 vl l.length (flat8 l) ∧ Hid (∀ x ∈ l, Ly.LeOk x) ∧ Below w.heap.size w wr ∧ RPS s l f j i
set_option maxRecDepth 100000 in
set_option maxHeartbeats 16000000 in
theorem rlparse_c (s : ByteArray) (w : World) (hs : s.size ≤ maxLen) :
    Calls Tryd.prog 41 #[.string s] w (LParseR s w) := by
  unfold maxLen at hs
  have hsi : (s.size : Int) ≤ 9223372036854775807 := by omega
  by_cases hbig : 16384 < s.size
  · have d1 : decide (16384 < (s.size : Int)) = true := by simp; omega
    have d1' : decide (16384 < s.size) = true := by simp; omega
    have HE := Lib.hid (Ly.parse_long hbig)
    clear hbig
    go_enter Tryd.func41, Tryd.ntmps41
    go_wp2_with fail
    go_ret3
    exact lparseR_nil HE.out (Below.refl _ _)
  · have d1 : decide (16384 < (s.size : Int)) = false := by simp; omega
    have d1' : decide (16384 < s.size) = false := by simp; omega
    have HE := Lib.hid (Ly.parse_start hbig)
    have hs4 : s.size ≤ 16384 := by omega
    clear hbig
    go_enter Tryd.func41, Tryd.ntmps41
    go_wp2_with fail
    go_loopw [5, 6, 7, 8] (fun vl vf vn vi wr => RPI s w vl vf vn vi wr) (fun _ _ _ vi _ => s.size + 1 - (intOf vi).toNat)
    case atStart => exact (show RPI _ _ _ _ _ _ _ from ⟨[], 0, 0, 0, rfl, rfl, rfl, by simp, by omega, by omega, by omega, World.ownsRow_nil _ _ _ _, Lib.hid (by simp), Below.refl _ _, .inl ⟨by omega, by omega, Lib.hid (by simp), Lib.hid HE.out⟩⟩)
    case round =>
      obtain ⟨l, f, j, i, rfl, rfl, rfl, hlj, hji, hfi, hi1, own, HO, hbr, hst⟩ := hrel
      obtain ⟨Al, cl, rfl, hcl1, hcl2⟩ := own_form own
      have hle := hbr.size
      rcases hst with ⟨hi, _, Hno, HP⟩ | ⟨rfl, HP⟩
      · have hfii : (f : Int) ≤ (i : Int) := by omega
        have his : (i : Int) ≤ (s.size : Int) := by omega
        by_cases he : i = s.size
        · have d3 : decide ((i : Int) < (s.size : Int)) = false := decide_eq_false (by omega)
          have d3' : decide (i < s.size) = false := decide_eq_false (by omega)
          obtain ⟨R, hR, hP⟩ := rest_end he Hno.out HP.out
          have hst0 := he
          clear he
          have HRest := Lib.hid hR
          have HP1 := Lib.hid hP
          obtain ⟨t, ht⟩ : ∃ t, s.extract f i = t := ⟨_, rfl⟩
          rw [ht] at HP1
          have hts : t.size ≤ 16384 := by rw [← ht]; simp; omega
          clear hR hP hst0
          go_wp2_with fail
          refine (rlwords_c t wr (by omega)).mono ?_
          rintro e w2 ⟨M, k, v, rfl, own2, hM2, hk2, hb2⟩
          obtain rfl := words_map hM2
          have hb2' := below_step hbr hb2
          have hk3 : k ≤ 1000000 := by omega
          have Hsk := Lib.hid (fun h => Ly.cons_skip (q := t.data.toList) (R := R) (j := j) (l := l) h)
          have Hbad := Lib.hid (fun e h1 h2 => Ly.cons_bad (q := t.data.toList) (R := R) (j := j) (l := l) (e := e) h1 h2)
          have Hgood := Lib.hid (fun x h1 h2 => Ly.cons_good (q := t.data.toList) (R := R) (j := j) (l := l) (x := x) h1 h2)
          have Hwq := Lib.hid (fun j => wd_le t.data.toList j)
          have Hwd := Lib.hid (fun j h => wd_word (q := t.data.toList) (j := j) h)
          have Htl := Lib.hid (show t.data.toList.length = t.size by simp)
          obtain ⟨W, hW⟩ : ∃ W, Tx.words t.data.toList = W := ⟨_, rfl⟩
          rw [hW] at own2 Hsk Hbad Hgood Hwq Hwd
          have hWk : W.length = k := by have := own2.1; simpa using this
          have HWk := Lib.hid hWk
          obtain ⟨A, cc, rfl, hc1, hc2⟩ := own_form own2
          have hownl2 := own_below own hb2
          clear hM2 hW hWk own
          by_cases hk0 : k = 0
          · have dk : ((k : Int) == 0) = true := by simp [hk0]
            have HP2 := Lib.hid (HP1.out.trans (congrArg Ly.parseS (Hsk.out (by
              have : W = [] := List.eq_nil_of_length_eq_zero (by rw [HWk.out, hk0])
              rw [this]; rfl))))
            clear hk0
            go_wp2_with fail
            go_roundw
            case rel => exact (show RPI _ _ _ _ _ _ _ from ⟨l, i + 1, j + 1, i + 1, by go_num, by go_num, by go_num, by omega, by omega, by omega, by omega, hownl2, HO, hb2', RPS.next HRest.out HP2.out⟩)
            case measure => simp [intOf]; omega
          · have dk : ((k : Int) == 0) = false := by simp [hk0]
            obtain ⟨g, rfl⟩ : ∃ g, A = some ⟨g, 0, none⟩ := by
              obtain ⟨g', cap', hv, _⟩ := own2.form (by omega)
              injection hv with hv
              exact ⟨g', hv⟩
            have hk0i : (0 : Int) < (k : Int) := by omega
            have c0 := own_wd own2 (j := 0) (by omega)
            obtain ⟨hp, hby⟩ := first_byte (Hwd.out 0 (by rw [HWk.out]; omega)).2
            obtain ⟨c9, hc9⟩ : ∃ c9, ((Ly.wd W 0).headD 0).toNat = c9 := ⟨_, rfl⟩
            rw [hc9] at hby
            have Hs := Lib.hid (skip_hash (W := W) (by rw [HWk.out]; omega) hc9)
            clear hc9
            by_cases hc35 : c9 = 35
            · have e35 : ((c9 : Int) == 35) = true := by simp [hc35]
              have HP2 := Lib.hid (HP1.out.trans (congrArg Ly.parseS (Hsk.out (by rw [Hs.out]; exact decide_eq_true hc35))))
              clear hc35
              go_wp2_with fail
              go_roundw
              case rel => exact (show RPI _ _ _ _ _ _ _ from ⟨l, i + 1, j + 1, i + 1, by go_num, by go_num, by go_num, by omega, by omega, by omega, by omega, hownl2, HO, hb2', RPS.next HRest.out HP2.out⟩)
              case measure => simp [intOf]; omega
            · have e35 : ((c9 : Int) == 35) = false := by simp; omega
              have Hs0 := Lib.hid (Hs.out.trans (decide_eq_false hc35))
              have hR2 := own_LR hownl2
              clear hc35
              go_wp2_with fail
              refine (rlline_c g k cc wr.heap.size l W w2 (by omega) hk3 own2 (fun j => by have := Hwq.out j; rw [Htl.out] at this; omega) (by omega) hR2).mono ?_
              rintro e w3 ⟨x, er, rfl, hq3, hb3⟩
              have hb3' := below_step hb2' hb3
              have own3 := own_below hownl2 hb3
              clear hownl2 own2 c0 hR2
              obtain ⟨o, ho⟩ : ∃ o, Ly.elemB l W = o := ⟨_, rfl⟩
              rw [ho] at hq3
              cases o with
              | inl e' =>
                obtain ⟨rfl, her⟩ := hq3
                have der : (er != 0) = true := by simpa using her
                have HE2 := Lib.hid (HP1.out.trans (Hbad.out er Hs0.out ho))
                clear ho her
                unfold leV
                go_wp2_with fail
                go_ret3
                exact lparseR_nil HE2.out (hb3'.alloc hb3'.size _)
              | inr y =>
                obtain ⟨rfl, rfl⟩ := hq3
                have HP2 := Lib.hid (HP1.out.trans (congrArg Ly.parseS (Hgood.out x Hs0.out ho)))
                have hxo := Ly.elem_ok (by omega) ho
                have HO2 : Hid (∀ y ∈ l ++ [x], Ly.LeOk y) := Lib.hid (fun y hy => by
                  rcases List.mem_append.1 hy with h | h
                  · exact HO.out y h
                  · rw [List.mem_singleton] at h
                    subst h
                    exact hxo)
                clear ho hxo
                have own4 := own3.alloc (.cells #[.int .i64 x.k, .string x.nm, .int .i64 x.p, .int .i64 x.sd, .int .i64 x.len, .int .i64 x.g, .int .i64 x.c, .int .i64 x.pw] 48)
                have hb4 := hb3'.alloc hb3'.size (.cells #[.int .i64 x.k, .string x.nm, .int .i64 x.p, .int .i64 x.sd, .int .i64 x.len, .int .i64 x.g, .int .i64 x.c, .int .i64 x.pw] 48)
                have hsz3 := hb3'.size
                have hl72 : (l.length + 1) * 72 ≤ 140737488355328 := by omega
                unfold leV
                go_wp2_with (at_builtin
                             go_must (
                             refine wpList_pushb sl72 rfl (.tmp 61) (.tmp 63) rfl w.heap.size _ _ _ rfl own4 1 1 (w3.heap.size + 1) (by simp) rfl rfl rfl (by simp only [maxLen]; omega) hl72 (by simp; omega) ?_
                             intro v' w5 own5 hgr
                             have hge4 := own_ge own4
                             have hb5 := hb4.trans ((hgr.below hge4 (by simp; omega)).mono (by omega))))
                go_roundw
                case rel => exact (show RPI _ _ _ _ _ _ _ from ⟨l ++ [x], i + 1, j + 1, i + 1, by go_num, by go_num, by go_num, by simp; omega, by omega, by omega, by omega, by rw [List.length_append, flat8_snoc]; exact own5, HO2, hb5, RPS.next HRest.out HP2.out⟩)
                case measure => simp [intOf]; omega
        · have d3 : decide ((i : Int) < (s.size : Int)) = true := decide_eq_true (by omega)
          have d3' : decide (i < s.size) = true := decide_eq_true (by omega)
          have hlt : i < s.size := by omega
          obtain ⟨b, hb⟩ : ∃ b, s[i] = b := ⟨_, rfl⟩
          have hli : s.data.toList[i]? = some b := by
            have hk' : i < s.data.toList.length := by simpa using hlt
            rw [List.getElem?_eq_getElem hk']
            exact congrArg some hb
          have Hli := Lib.hid hli
          obtain ⟨c, hc⟩ : ∃ c, s[i].toNat = c := ⟨_, rfl⟩
          have hbc : b.toNat = c := by rw [← hb, hc]
          have Hbc := Lib.hid hbc
          clear hli hb hbc he
          by_cases h10 : c = 10
          · have d4 : ((c : Int) != 10) = false := by simp; omega
            obtain ⟨R, hR, hP⟩ := rest_hit hfi Hno.out HP.out Hli.out (UInt8.toNat_inj.1 (by rw [Hbc.out, h10]; rfl))
            have hst0 := h10
            clear h10
            have HRest := Lib.hid hR
            have HP1 := Lib.hid hP
            obtain ⟨t, ht⟩ : ∃ t, s.extract f i = t := ⟨_, rfl⟩
            rw [ht] at HP1
            have hts : t.size ≤ 16384 := by rw [← ht]; simp; omega
            clear hR hP hst0
            go_wp2_with fail
            refine (rlwords_c t wr (by omega)).mono ?_
            rintro e w2 ⟨M, k, v, rfl, own2, hM2, hk2, hb2⟩
            obtain rfl := words_map hM2
            have hb2' := below_step hbr hb2
            have hk3 : k ≤ 1000000 := by omega
            have Hsk := Lib.hid (fun h => Ly.cons_skip (q := t.data.toList) (R := R) (j := j) (l := l) h)
            have Hbad := Lib.hid (fun e h1 h2 => Ly.cons_bad (q := t.data.toList) (R := R) (j := j) (l := l) (e := e) h1 h2)
            have Hgood := Lib.hid (fun x h1 h2 => Ly.cons_good (q := t.data.toList) (R := R) (j := j) (l := l) (x := x) h1 h2)
            have Hwq := Lib.hid (fun j => wd_le t.data.toList j)
            have Hwd := Lib.hid (fun j h => wd_word (q := t.data.toList) (j := j) h)
            have Htl := Lib.hid (show t.data.toList.length = t.size by simp)
            obtain ⟨W, hW⟩ : ∃ W, Tx.words t.data.toList = W := ⟨_, rfl⟩
            rw [hW] at own2 Hsk Hbad Hgood Hwq Hwd
            have hWk : W.length = k := by have := own2.1; simpa using this
            have HWk := Lib.hid hWk
            obtain ⟨A, cc, rfl, hc1, hc2⟩ := own_form own2
            have hownl2 := own_below own hb2
            clear hM2 hW hWk own
            by_cases hk0 : k = 0
            · have dk : ((k : Int) == 0) = true := by simp [hk0]
              have HP2 := Lib.hid (HP1.out.trans (congrArg Ly.parseS (Hsk.out (by
                have : W = [] := List.eq_nil_of_length_eq_zero (by rw [HWk.out, hk0])
                rw [this]; rfl))))
              clear hk0
              go_wp2_with fail
              go_roundw
              case rel => exact (show RPI _ _ _ _ _ _ _ from ⟨l, i + 1, j + 1, i + 1, by go_num, by go_num, by go_num, by omega, by omega, by omega, by omega, hownl2, HO, hb2', RPS.next HRest.out HP2.out⟩)
              case measure => simp [intOf]; omega
            · have dk : ((k : Int) == 0) = false := by simp [hk0]
              obtain ⟨g, rfl⟩ : ∃ g, A = some ⟨g, 0, none⟩ := by
                obtain ⟨g', cap', hv, _⟩ := own2.form (by omega)
                injection hv with hv
                exact ⟨g', hv⟩
              have hk0i : (0 : Int) < (k : Int) := by omega
              have c0 := own_wd own2 (j := 0) (by omega)
              obtain ⟨hp, hby⟩ := first_byte (Hwd.out 0 (by rw [HWk.out]; omega)).2
              obtain ⟨c9, hc9⟩ : ∃ c9, ((Ly.wd W 0).headD 0).toNat = c9 := ⟨_, rfl⟩
              rw [hc9] at hby
              have Hs := Lib.hid (skip_hash (W := W) (by rw [HWk.out]; omega) hc9)
              clear hc9
              by_cases hc35 : c9 = 35
              · have e35 : ((c9 : Int) == 35) = true := by simp [hc35]
                have HP2 := Lib.hid (HP1.out.trans (congrArg Ly.parseS (Hsk.out (by rw [Hs.out]; exact decide_eq_true hc35))))
                clear hc35
                go_wp2_with fail
                go_roundw
                case rel => exact (show RPI _ _ _ _ _ _ _ from ⟨l, i + 1, j + 1, i + 1, by go_num, by go_num, by go_num, by omega, by omega, by omega, by omega, hownl2, HO, hb2', RPS.next HRest.out HP2.out⟩)
                case measure => simp [intOf]; omega
              · have e35 : ((c9 : Int) == 35) = false := by simp; omega
                have Hs0 := Lib.hid (Hs.out.trans (decide_eq_false hc35))
                have hR2 := own_LR hownl2
                clear hc35
                go_wp2_with fail
                refine (rlline_c g k cc wr.heap.size l W w2 (by omega) hk3 own2 (fun j => by have := Hwq.out j; rw [Htl.out] at this; omega) (by omega) hR2).mono ?_
                rintro e w3 ⟨x, er, rfl, hq3, hb3⟩
                have hb3' := below_step hb2' hb3
                have own3 := own_below hownl2 hb3
                clear hownl2 own2 c0 hR2
                obtain ⟨o, ho⟩ : ∃ o, Ly.elemB l W = o := ⟨_, rfl⟩
                rw [ho] at hq3
                cases o with
                | inl e' =>
                  obtain ⟨rfl, her⟩ := hq3
                  have der : (er != 0) = true := by simpa using her
                  have HE2 := Lib.hid (HP1.out.trans (Hbad.out er Hs0.out ho))
                  clear ho her
                  unfold leV
                  go_wp2_with fail
                  go_ret3
                  exact lparseR_nil HE2.out (hb3'.alloc hb3'.size _)
                | inr y =>
                  obtain ⟨rfl, rfl⟩ := hq3
                  have HP2 := Lib.hid (HP1.out.trans (congrArg Ly.parseS (Hgood.out x Hs0.out ho)))
                  have hxo := Ly.elem_ok (by omega) ho
                  have HO2 : Hid (∀ y ∈ l ++ [x], Ly.LeOk y) := Lib.hid (fun y hy => by
                    rcases List.mem_append.1 hy with h | h
                    · exact HO.out y h
                    · rw [List.mem_singleton] at h
                      subst h
                      exact hxo)
                  clear ho hxo
                  have own4 := own3.alloc (.cells #[.int .i64 x.k, .string x.nm, .int .i64 x.p, .int .i64 x.sd, .int .i64 x.len, .int .i64 x.g, .int .i64 x.c, .int .i64 x.pw] 48)
                  have hb4 := hb3'.alloc hb3'.size (.cells #[.int .i64 x.k, .string x.nm, .int .i64 x.p, .int .i64 x.sd, .int .i64 x.len, .int .i64 x.g, .int .i64 x.c, .int .i64 x.pw] 48)
                  have hsz3 := hb3'.size
                  have hl72 : (l.length + 1) * 72 ≤ 140737488355328 := by omega
                  unfold leV
                  go_wp2_with (at_builtin
                               go_must (
                               refine wpList_pushb sl72 rfl (.tmp 61) (.tmp 63) rfl w.heap.size _ _ _ rfl own4 1 1 (w3.heap.size + 1) (by simp) rfl rfl rfl (by simp only [maxLen]; omega) hl72 (by simp; omega) ?_
                               intro v' w5 own5 hgr
                               have hge4 := own_ge own4
                               have hb5 := hb4.trans ((hgr.below hge4 (by simp; omega)).mono (by omega))))
                  go_roundw
                  case rel => exact (show RPI _ _ _ _ _ _ _ from ⟨l ++ [x], i + 1, j + 1, i + 1, by go_num, by go_num, by go_num, by simp; omega, by omega, by omega, by omega, by rw [List.length_append, flat8_snoc]; exact own5, HO2, hb5, RPS.next HRest.out HP2.out⟩)
                  case measure => simp [intOf]; omega
          · have d4 : ((c : Int) != 10) = true := by simp; omega
            have hb10 : b ≠ 10 := fun e => h10 (by rw [← Hbc.out, e]; rfl)
            have hnn : Hid ((10 : UInt8) ∉ (s.data.toList.drop f).take (i + 1 - f)) := Lib.hid (by
              rw [Tx.take_drop_snoc hfi Hli.out]
              simp only [List.mem_append, List.mem_singleton, not_or]
              exact ⟨Hno.out, fun e => hb10 e.symm⟩)
            clear h10 hb10
            go_wp2_with fail
            go_roundw
            case rel => exact (show RPI _ _ _ _ _ _ _ from ⟨l, f, j, i + 1, by go_num, rfl, rfl, by omega, by omega, by omega, by omega, own, HO, hbr, .inl ⟨by omega, by omega, hnn, HP⟩⟩)
            case measure => simp [intOf]; omega
      · have d2 : decide (((s.size + 1 : Nat) : Int) ≤ (s.size : Int)) = false := decide_eq_false (by omega)
        have hR := own_LR own
        have hmx : l.length ≤ maxLen := by unfold maxLen; omega
        have hHs : Hid (∀ x ∈ l, x.nm.size ≤ maxLen) := Lib.hid (fun x hx => by have := (HO.out x hx).size; unfold maxLen; omega)
        have HE2 := Lib.hid (HP.out.trans (show Ly.parseS (.inr l) = Ly.fin l from rfl))
        go_wp2_with fail
        refine (rlvalid_c Al l.length cl l wr hmx hR hHs.out).mono ?_
        rintro e w2 ⟨rfl, hb2⟩
        have hbr2 := below_step hbr hb2
        by_cases h0 : Ly.vErr l = 0
        · have d3 : (Ly.vErr l != 0) = false := by simp [h0]
          have H3 := Lib.hid (HE2.out.trans (if_pos h0))
          have hR2 := hR.below hb2
          clear h0
          go_wp2_with fail
          go_ret3
          exact lparseR_ok H3.out hR2 (by omega) HO.out hbr2
        · have d3 : (Ly.vErr l != 0) = true := by simp [h0]
          have H3 := Lib.hid (HE2.out.trans (if_neg h0))
          clear h0
          go_wp2_with fail
          go_ret3
          exact lparseR_nil H3.out hbr2
end Go.Proofs.YtmjdjcpmkdninaaDoor
