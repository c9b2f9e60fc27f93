/- The walk of the reference's Parse. -/
import Derived.Test.YtkkpkekkaoccbaaDoorPlL3
namespace Go.Proofs.YtkkpkekkaoccbaaDoor
open Go.RowKit
namespace Pl
/-- What Parse returns once l has been read and the rest is r. -/
def parseS (l : List PE) : Nat ⊕ List PE → List PE × Int × Int
  | .inl n => ([], (n : Int), 6)
  | .inr r => if vErr (l ++ r) = 0 then (l ++ r, 0, 0) else ([], 0, vErr (l ++ r))
theorem parse_start {s : ByteArray} (h : ¬ 16384 < s.size) : parse s = parseS [] (parseGo (linesB s) 0) := by
  unfold parse
  rw [if_neg h]
  cases parseGo (linesB s) 0 <;> rfl
theorem parse_big {s : ByteArray} (h : 16384 < s.size) : parse s = ([], 0, 3) := by unfold parse; rw [if_pos h]
theorem drop_at {L : List ByteArray} {i : Nat} (h : i < L.length) : L.drop i = wd L i :: L.drop (i + 1) := by
  rw [List.drop_eq_getElem_cons h, wd, List.getD_eq_getElem?_getD, List.getElem?_eq_getElem h]
  rfl
theorem parseS_bad {L : List ByteArray} {i : Nat} {l : List PE} (h : i < L.length) (hb : lineB (wordsB (wd L i)) = none) : parseS l (parseGo (L.drop i) i) = ([], (i : Int) + 1, 6) := by
  rw [drop_at h]
  unfold parseGo
  rw [hb]
  simp [parseS]
theorem parseS_good {L : List ByteArray} {i : Nat} {l : List PE} {x : PE} (h : i < L.length) (hb : lineB (wordsB (wd L i)) = some x) : parseS l (parseGo (L.drop i) i) = parseS (l ++ [x]) (parseGo (L.drop (i + 1)) (i + 1)) := by
  rw [drop_at h]
  conv => lhs; unfold parseGo
  rw [hb]
  show parseS l (match parseGo (L.drop (i + 1)) (i + 1) with | .inl n => .inl n | .inr l => .inr (x :: l)) = _
  cases parseGo (L.drop (i + 1)) (i + 1) with
  | inl n => rfl
  | inr r => simp [parseS]
theorem parseS_end {L : List ByteArray} {l : List PE} {i : Nat} (h : L.length ≤ i) : parseS l (parseGo (L.drop i) i) = if vErr l = 0 then (l, 0, 0) else ([], 0, vErr l) := by
  rw [List.drop_of_length_le h]
  simp [parseGo, parseS]
theorem lineB_nm {L : List ByteArray} {x : PE} (h : lineB L = some x) : x.nm = wd L 1 := by
  unfold lineB at h
  split at h
  · cases h
  · split at h
    · injection h with h; rw [← h]
    · cases h
end Pl
theorem linesP_piece (l : List UInt8) : ∀ p ∈ linesP l, p.length ≤ l.length := by
  intro p hp
  refine Tx.piece_len 10 l p ?_
  unfold linesP at hp
  split at hp
  · exact List.dropLast_subset _ hp
  · exact hp
theorem line_size (s : ByteArray) (i : Nat) : (Pl.wd (Pl.linesB s) i).size ≤ s.size := by
  unfold Pl.wd
  rw [List.getD_eq_getElem?_getD]
  cases h : (Pl.linesB s)[i]? with
  | none => exact Nat.zero_le _
  | some p =>
    have hm := List.mem_of_getElem? h
    unfold Pl.linesB at hm
    obtain ⟨q, hq, rfl⟩ := List.mem_map.1 hm
    have := linesP_piece _ q hq
    show (baOf q).size ≤ s.size
    have h1 : (baOf q).size = q.length := by simp [baOf, ByteArray.size]
    have h2 : s.data.toList.length = s.size := by simp
    omega
theorem sl6 : SlT Tryd.prog 28 40 6 56 := slT_of (z := .agg #[.int .i64 0, .string ⟨#[]⟩, .int .i64 0, .int .i64 0, .int .i64 0, .int .i64 0]) Tryd.underlying28 (by kernel_rfl) (by rfl) (by omega)
def ParseR (s : ByteArray) (w : World) (e : Ending) (w' : World) : Prop := ∃ A n c, e = .returned (.tuple #[.slice A n c, .int .i64 (Pl.parse s).2.1, .int .i64 (Pl.parse s).2.2]) ∧ PR6 w' A n (Pl.parse s).1 ∧ n ≤ maxLen ∧ (∀ x ∈ (Pl.parse s).1, x.nm.size ≤ s.size) ∧ Below w.heap.size w w'
theorem parseR_nil {s : ByteArray} {w w' : World} {a b : Int} (h : Pl.parse s = ([], a, b)) (hb : Below w.heap.size w w') : ParseR s w (.returned (.tuple #[.slice none 0 0, .int .i64 a, .int .i64 b])) w' := by
  unfold ParseR
  rw [h]
  exact ⟨none, 0, 0, rfl, PR6.nil_, by simp [maxLen], by simp, hb⟩
theorem parseR_ok {s : ByteArray} {w w' : World} {A : Option Addr} {n c : Nat} {l : List PE} (h : Pl.parse s = (l, 0, 0)) (hr : PR6 w' A n l) (hn : n ≤ maxLen) (hs : ∀ x ∈ l, x.nm.size ≤ s.size) (hb : Below w.heap.size w w') : ParseR s w (.returned (.tuple #[.slice A n c, .int .i64 0, .int .i64 0])) w' := by
  unfold ParseR
  rw [h]
  exact ⟨A, n, c, rfl, hr, hn, hs, hb⟩
theorem own_str_any {w0 : World} {B e n cap : Nat} {A : Option Addr} {L : List ByteArray} (h : w0.ownsRow B e 1 (.slice A n cap) n (L.map Value.string)) {j : Nat} (hj : j < n) : ∃ ad : Addr, A = some ad ∧ w0.cell? (ad.add j) = some (.string (Pl.wd L j)) := by
  obtain ⟨g, c, hv, _⟩ := h.form (by omega)
  have hA : A = some ⟨g, 0, none⟩ := by injection hv
  subst hA
  refine ⟨_, rfl, ?_⟩
  have h2 : ((⟨g, 0, none⟩ : Addr).add j) = ⟨g, j, none⟩ := by
    unfold Addr.add
    by_cases hj : j = 0 <;> simp [hj]
  rw [h2]
  exact own_str h hj
set_option maxRecDepth 100000 in
set_option maxHeartbeats 4000000 in
theorem rparse_c (s : ByteArray) (w : World) (hs : s.size ≤ maxLen) :
    Calls Tryd.prog 14 #[.string s] w (ParseR s w) := by
  unfold maxLen at hs
  have hsi : (s.size : Int) ≤ 9223372036854775807 := by omega
  by_cases hbig : 16384 < s.size
  · have d1 : decide (16384 < (s.size : Int)) = true := by simp; omega
    have d1' : decide (16384 < s.size) = true := by simp; omega
    have HE := Lib.hid (Pl.parse_big hbig)
    clear hbig
    go_enter Tryd.func14, Tryd.ntmps14
    go_wp2_with fail
    go_ret3
    exact parseR_nil HE.out (Below.refl _ _)
  · have d1 : decide (16384 < (s.size : Int)) = false := by simp; omega
    have d1' : decide (16384 < s.size) = false := by simp; omega
    have HE := Lib.hid (Pl.parse_start hbig)
    have hs4 : s.size ≤ 16384 := by omega
    clear hbig
    go_enter Tryd.func14, Tryd.ntmps14
    go_wp2_with fail
    refine (lines_c s _ (by omega)).mono ?_
    rintro e w1 ⟨L', n, v, rfl, own, hcut, hn, hb⟩
    have hLL := linesB_of hcut
    have HL := Lib.hid hLL
    have Hnl := Lib.hid (show L'.length = n by have := own.1; simpa using this)
    obtain ⟨g, cap, rfl, hncap, hcm⟩ := own_form own
    clear hcut hLL
    go_wp2_with fail
    go_loopw [5, 7] (fun vl vi wr => ∃ (l : List PE) (i : Nat), i ≤ n ∧ vi = .int .i64 i ∧ wr.ownsRow w.heap.size 40 6 vl i (flat6 l) ∧ wr.ownsRow w.heap.size 9 1 (.slice g n cap) n (L'.map Value.string) ∧ apart (.slice g n cap) vl ∧ Hid (Pl.parse s = Pl.parseS l (Pl.parseGo (L'.drop i) i)) ∧ Hid (∀ x ∈ l, x.nm.size ≤ s.size) ∧ Below w.heap.size w wr) (fun _ vi _ => n - (intOf vi).toNat)
    case atStart => exact ⟨[], 0, by omega, rfl, World.ownsRow_nil _ _ _ _, own, apart.symm (.inl rfl), Lib.hid (by rw [HE.out, HL.out]; rfl), Lib.hid (by simp), hb⟩
    case round =>
      obtain ⟨l, i, hin, rfl, ownl, own', hap, HP, HN, hbr⟩ := hrel
      have hil : l.length = i := own6_len ownl
      have HL6 := Lib.hid hil
      clear hil
      by_cases hlt : i < n
      · have hcell := own_str_any own' hlt
        have hlti : (i : Int) < (n : Int) := by omega
        have Hli := Lib.hid (show i < L'.length by rw [Hnl.out]; exact hlt)
        have HLs := Lib.hid (show (Pl.wd L' i).size ≤ 16384 by have := line_size s i; rw [← HL.out] at this; omega)
        obtain ⟨ad, rfl, hcell⟩ := hcell
        go_wp2_with fail
        refine (rline_c (Pl.wd L' i) wr (by have := HLs.out; omega)).mono ?_
        rintro e w2 ⟨⟨p, rfl, hp⟩, hb2⟩
        obtain ⟨o, ho⟩ : ∃ o, Pl.lineB (Pl.wordsB (Pl.wd L' i)) = o := ⟨_, rfl⟩
        rw [ho] at hp ⊢
        have Ho := Lib.hid ho
        clear ho
        cases o with
        | none =>
          have HE2 := Lib.hid (HP.out.trans (Pl.parseS_bad Hli.out Ho.out))
          have hbr2 := below_step hbr hb2
          unfold peV
          clear hp
          go_wp2_with fail
          go_ret3
          exact parseR_nil HE2.out (hbr2.alloc hbr2.size _)
        | some x =>
          obtain rfl := hp x rfl
          have HP2 := Lib.hid (HP.out.trans (Pl.parseS_good Hli.out Ho.out))
          have HN2 : Hid (∀ y ∈ l ++ [p], y.nm.size ≤ s.size) := Lib.hid (fun y hy => by
            rcases List.mem_append.1 hy with h | h
            · exact HN.out y h
            · rw [List.mem_singleton] at h
              subst h
              rw [Pl.lineB_nm Ho.out]
              have h1 := wd_size (Pl.wd L' i) 1
              have h2 := line_size s i
              rw [← HL.out] at h2
              omega)
          have hbr2 := below_step hbr hb2
          have ownl2 := (own_below ownl hb2).alloc (.cells #[.int .i64 p.k, .string p.nm, .int .i64 p.a, .int .i64 p.b, .int .i64 p.c, .int .i64 p.len] 40)
          have own2 := (own_below own' hb2).alloc (.cells #[.int .i64 p.k, .string p.nm, .int .i64 p.a, .int .i64 p.b, .int .i64 p.c, .int .i64 p.len] 40)
          unfold peV
          clear hp
          have hbsz := hbr2.size
          have h56 : (i + 1) * 56 ≤ 140737488355328 := by omega
          go_wp2_with (at_builtin
                       go_must (
                       refine wpList_pushb sl6 rfl (.tmp 34) (.tmp 36) rfl w.heap.size _ _ _ rfl ownl2 1 1 (w2.heap.size + 1) (by simp) rfl rfl rfl (by simp only [maxLen]; omega) h56 (by simp; omega) ?_
                       intro v' w3 own3 hgr
                       have hap3 := hgr.apart_l own2 hap
                       have own3' := hgr.keep own2 hap
                       have hb3 := (hbr2.alloc hbr2.size (.cells #[.int .i64 p.k, .string p.nm, .int .i64 p.a, .int .i64 p.b, .int .i64 p.c, .int .i64 p.len] 40)).trans (hgr.below (own_ge ownl2) (by simp; omega))))
          go_roundw
          case rel => exact ⟨l ++ [p], i + 1, by omega, by go_num, by rw [flat6_snoc]; exact own3, own3', hap3, HP2, HN2, hb3⟩
          case measure => simp [intOf]; omega
      · obtain rfl : i = n := by omega
        have HE2 := Lib.hid (HP.out.trans (Pl.parseS_end (Nat.le_of_eq Hnl.out)))
        obtain ⟨A, c, rfl, hc1, hc2⟩ := own_form ownl
        have hR := own_PR6 ownl
        have hmx : i ≤ maxLen := by omega
        have HNm : Hid (∀ x ∈ l, x.nm.size ≤ maxLen) := Lib.hid (fun x hx => by have := HN.out x hx; unfold maxLen; omega)
        have hdd : decide ((i : Int) < (i : Int)) = false := by simp
        go_wp2_with fail
        refine (rvalid_c A i c l wr hmx hR HNm.out).mono ?_
        rintro e w2 ⟨rfl, hb2⟩
        by_cases h0 : Pl.vErr l = 0
        · have d3 : (Pl.vErr l != 0) = false := by simp [h0]
          have H3 := Lib.hid (HE2.out.trans (if_pos h0))
          clear h0
          have hbr2 := below_step hbr hb2
          have hR2 := hR.below hb2
          go_wp2_with fail
          go_ret3
          exact parseR_ok H3.out hR2 hmx HN.out hbr2
        · have d3 : (Pl.vErr l != 0) = true := by simp [h0]
          have H3 := Lib.hid (HE2.out.trans (if_neg h0))
          clear h0
          have hbr2 := below_step hbr hb2
          go_wp2_with fail
          go_ret3
          exact parseR_nil H3.out hbr2
end Go.Proofs.YtkkpkekkaoccbaaDoor
