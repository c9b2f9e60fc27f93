/- The walk of layout's Parse. -/
import Derived.Test.YtmjdjcpmkdninaaDoorLyP3
import Derived.Test.YtmjdjcpmkdninaaDoorLyLine
import Derived.Test.YtmjdjcpmkdninaaDoorTxLen
import Derived.Test.YtmjdjcpmkdninaaDoorLyW4
namespace Go.Proofs.YtmjdjcpmkdninaaDoor
open Go.RowKit
namespace Ly
def parseS (o : (Nat × Int) ⊕ List LE) : List LE × Int × Int := match o with
  | .inl (n, e) => ([], (n : Int), e)
  | .inr l => fin l
theorem parse_start {s : ByteArray} (h : ¬ 16384 < s.size) : parse s = parseS (parseGo (Tx.cutAt 10 s.data.toList) 0 []) := by
  unfold parse
  rw [if_neg h]
  cases parseGo (Tx.cutAt 10 s.data.toList) 0 [] with
  | inl q => obtain ⟨n, e⟩ := q; rfl
  | inr l => rfl
theorem drop_at {L : List (List UInt8)} {i : Nat} (h : i < L.length) : L.drop i = wd L i :: L.drop (i + 1) := by
  rw [List.drop_eq_getElem_cons h, wd, List.getD_eq_getElem?_getD, List.getElem?_eq_getElem h]
  rfl
theorem go_skip {L : List (List UInt8)} {i : Nat} {l : List LE} (h : i < L.length) (hs : skip (Tx.words (wd L i)) = true) : parseGo (L.drop i) i l = parseGo (L.drop (i + 1)) (i + 1) l := by
  rw [drop_at h, parseGo, if_pos hs]
theorem go_bad {L : List (List UInt8)} {i : Nat} {l : List LE} {e : Int} (h : i < L.length) (hs : skip (Tx.words (wd L i)) = false) (he : elemB l (Tx.words (wd L i)) = .inl e) : parseS (parseGo (L.drop i) i l) = ([], (i : Int) + 1, e) := by
  rw [drop_at h, parseGo, if_neg (by rw [hs]; decide), he]
  rfl
theorem go_good {L : List (List UInt8)} {i : Nat} {l : List LE} {x : LE} (h : i < L.length) (hs : skip (Tx.words (wd L i)) = false) (he : elemB l (Tx.words (wd L i)) = .inr x) : parseGo (L.drop i) i l = parseGo (L.drop (i + 1)) (i + 1) (l ++ [x]) := by
  rw [drop_at h, parseGo, if_neg (by rw [hs]; decide), he]
theorem go_end {L : List (List UInt8)} {i : Nat} {l : List LE} (h : L.length ≤ i) : parseS (parseGo (L.drop i) i l) = fin l := by
  rw [List.drop_of_length_le h]
  rfl
theorem idxGo_lt (q : List UInt8) : ∀ (r : List LE) (a i : Nat), idxGo q r a = some i → a ≤ i ∧ i < a + r.length := by
  intro r
  induction r with
  | nil => intro a i h; cases h
  | cons y t ih =>
    intro a i h
    unfold idxGo at h
    split at h
    · injection h with h; simp; omega
    · have := ih (a + 1) i h
      simp; omega
theorem idxGo_snoc (q : List UInt8) (x : LE) : ∀ (r : List LE) (a : Nat), idxGo q (r ++ [x]) a = match idxGo q r a with | some i => some i | none => if x.nm.data.toList = q then some (a + r.length) else none := by
  intro r
  induction r with
  | nil => intro a; simp [idxGo]
  | cons y t ih =>
    intro a
    rw [List.cons_append, idxGo, idxGo]
    split
    · rfl
    · rw [ih (a + 1), List.length_cons, show a + 1 + t.length = a + (t.length + 1) by omega]
/-- What an element that was read is. -/
def LeOk (x : LE) : Prop := Pl.nameOk x.nm = true ∧ (-1 ≤ x.p ∧ x.p ≤ 1000000000) ∧ (0 ≤ x.sd ∧ x.sd ≤ 2)
theorem elem_ok {l : List LE} {W : List (List UInt8)} {x : LE} (hl : l.length ≤ 1000000) (h : elemB l W = .inr x) : LeOk x := by
  unfold elemB at h
  split at h
  · cases h
  · split at h
    · cases h
    · split at h
      · cases h
      · split at h
        · cases h
        · split at h
          · cases h
          · rename_i hn
            have hn' : Pl.nameOk (baOf (wd W 1)) = true := by simpa using hn
            split at h
            · injection h with h
              subst h
              exact ⟨hn', by simp, by simp⟩
            · split at h
              · cases h
              · rename_i i hi
                injection h with h
                subst h
                have h1 := idxGo_lt _ _ _ _ hi
                have h2 := (sufOf_split (wd W 2)).2
                exact ⟨hn', ⟨by simp only; omega, by simp only; omega⟩, h2⟩
theorem LeOk.size {x : LE} (h : LeOk x) : x.nm.size ≤ 12 := (nameOk_size h.1).2
end Ly
theorem idxOf_snoc (l : List LE) (x : LE) (q : ByteArray) : idxOf (l ++ [x]) q = match idxOf l q with | some i => some i | none => if x.nm = q then some (l.length : Int) else none := by
  unfold idxOf
  rw [Ly.idxGo_snoc]
  cases h : Ly.idxGo q.data.toList l 0 with
  | some i => rfl
  | none =>
    simp only [Nat.zero_add]
    by_cases e : x.nm = q
    · subst e; rw [if_pos rfl, if_pos rfl]; rfl
    · rw [if_neg (fun e' => e (Ly.nm_ext e')), if_neg e]; rfl
theorem idx_old {l : List LE} {x : LE} {i : Int} (h : idxOf l x.nm = some i) : idxOf (l ++ [x]) = idxOf l := by
  funext q
  rw [idxOf_snoc]
  cases hq : idxOf l q with
  | some j => rfl
  | none =>
    simp only
    rw [if_neg]
    intro e
    rw [e, hq] at h; cases h
theorem idx_new {l : List LE} {x : LE} (h : idxOf l x.nm = none) : idxOf (l ++ [x]) x.nm = some (l.length : Int) := by
  rw [idxOf_snoc, h]
  simp
theorem idx_other {l : List LE} {x : LE} {q : ByteArray} (h : q ≠ x.nm) : idxOf (l ++ [x]) q = idxOf l q := by
  rw [idxOf_snoc]
  cases hq : idxOf l q with
  | some j => rfl
  | none => simp only; rw [if_neg (fun e => h e.symm)]
theorem wf_small {n : Int} (h : -1000000000000 ≤ n ∧ n ≤ 1000000000000) : (Lit.int .i64 n).wf = true := by
  have h1 : IntKind.i64.min = -9223372036854775808 := rfl
  have h2 : IntKind.i64.max = 9223372036854775807 := rfl
  show (decide (IntKind.i64.min ≤ n) && decide (n ≤ IntKind.i64.max)) = true
  rw [h1, h2]
  simp
  omega
theorem sl72 : SlT Tryd.prog 22 48 8 72 := slT_of (z := .agg #[.int .i64 0, .string ⟨#[]⟩, .int .i64 0, .int .i64 0, .int .i64 0, .int .i64 0, .int .i64 0, .int .i64 0]) Tryd.underlying22 (by kernel_rfl) (by rfl) (by omega)
/-- The cells of a block are these lines. -/
def LinesAt (w : World) (g n : Nat) (L : List (List UInt8)) : Prop := g < w.heap.size ∧ ∀ j, j < n → w.cell? ⟨g, j, none⟩ = some (.string (baOf (Ly.wd L j)))
theorem LinesAt.kept {w w' : World} {g n : Nat} {L : List (List UInt8)} (h : LinesAt w g n L) {row : Option Nat} (hg : w.grownBy w' row) (hne : some g ≠ row) : LinesAt w' g n L :=
  ⟨Nat.lt_of_lt_of_le h.1 hg.size, fun j hj => (World.cell?_of_block (a := ⟨g, j, none⟩) (hg.block g h.1 hne)).trans (h.2 j hj)⟩
theorem LinesAt.below {w w' : World} {g n : Nat} {L : List (List UInt8)} (h : LinesAt w g n L) (hb : Below w.heap.size w w') : LinesAt w' g n L := h.kept (below_grown hb none) (by simp)
theorem LinesAt.new (w : World) (L : List (List UInt8)) (t : TypeId) : LinesAt (w.alloc (.cells ((L.map baOf).map Value.string).toArray t)) w.heap.size L.length L := by
  have hB := Blk.new w t ((L.map baOf).map Value.string).toArray
  refine ⟨by simp, fun j hj => ?_⟩
  rw [hB.cell]
  simp [Ly.wd, hj]
def LParseR (s : ByteArray) (w : World) (e : Ending) (w' : World) : Prop := ∃ A n c, e = .returned (.tuple #[.slice A n c, .int .i64 (Ly.parse s).2.1, .int .i64 (Ly.parse s).2.2]) ∧ LR w' A n (Ly.parse s).1 ∧ n ≤ 1000000 ∧ (∀ x ∈ (Ly.parse s).1, Ly.LeOk x) ∧ Below w.heap.size w w'
theorem lparseR_nil {s : ByteArray} {w w' : World} {a b : Int} (h : Ly.parse s = ([], a, b)) (hb : Below w.heap.size w w') : LParseR s w (.returned (.tuple #[.slice none 0 0, .int .i64 a, .int .i64 b])) w' := by
  unfold LParseR
  rw [h]
  exact ⟨none, 0, 0, rfl, LR.nil_, by omega, by simp, hb⟩
theorem lparseR_ok {s : ByteArray} {w w' : World} {A : Option Addr} {n c : Nat} {l : List LE} (h : Ly.parse s = (l, 0, 0)) (hr : LR w' A n l) (hn : n ≤ 1000000) (hs : ∀ x ∈ l, Ly.LeOk x) (hb : Below w.heap.size w w') : LParseR s w (.returned (.tuple #[.slice A n c, .int .i64 0, .int .i64 0])) w' := by
  unfold LParseR
  rw [h]
  exact ⟨A, n, c, rfl, hr, hn, hs, hb⟩
def LPI (s : ByteArray) (w : World) (n : Nat) (L : List (List UInt8)) (vl vi : Value) (wr : World) : Prop := ∃ (l : List LE) (i m : Nat), i ≤ n ∧ vi = .int .i64 (i : Int) ∧ l.length ≤ i ∧ m ≤ i ∧ wr.ownsRow (w.heap.size + 2) 48 8 vl l.length (flat8 l) ∧ MapO keyS 3 wr w.heap.size m (idxOf l) ∧ Hid (Ly.parse s = Ly.parseS (Ly.parseGo (L.drop i) i l)) ∧ Hid (∀ x ∈ l, Ly.LeOk x) ∧ LinesAt wr (w.heap.size + 1) n L ∧ Below w.heap.size w wr
theorem words_map {M : List ByteArray} {q : List UInt8} (h : bytesOfL M = Tx.words q) : M = (Tx.words q).map baOf := bytesOfL_inj (by rw [bytesOfL_ba]; exact h)
theorem skip_words {q : List UInt8} {W : List (List UInt8)} (h : Tx.words q = W) (hn : W.length = 0) : Ly.skip (Tx.words q) = true := by
  rw [h]
  have : W = [] := List.eq_nil_of_length_eq_zero hn
  rw [this]; rfl
theorem wd_word {q : List UInt8} {j : Nat} (h : j < (Tx.words q).length) : (Ly.wd (Tx.words q) j).length ≤ q.length ∧ Ly.wd (Tx.words q) j ≠ [] := by
  unfold Ly.wd
  rw [List.getD_eq_getElem?_getD, List.getElem?_eq_getElem h]
  exact Tx.word_len q _ (List.getElem_mem h)
theorem wd_le (q : List UInt8) (j : Nat) : (baOf (Ly.wd (Tx.words q) j)).size ≤ q.length := by
  rw [Ly.baOf_size]
  by_cases h : j < (Tx.words q).length
  · exact (wd_word h).1
  · unfold Ly.wd
    rw [List.getD_eq_getElem?_getD, List.getElem?_eq_none (by omega)]
    exact Nat.zero_le _
theorem line_le (q : List UInt8) (j : Nat) : (baOf (Ly.wd (Tx.cutAt 10 q) j)).size ≤ q.length := by
  rw [Ly.baOf_size]
  unfold Ly.wd
  rw [List.getD_eq_getElem?_getD]
  cases h : (Tx.cutAt 10 q)[j]? with
  | none => exact Nat.zero_le _
  | some p => exact Tx.pieceLen 10 q p (List.mem_of_getElem? h)
theorem first_byte {q : List UInt8} (h : q ≠ []) : ∃ hp : 0 < (baOf q).size, (baOf q)[0].toNat = (q.headD 0).toNat := by
  cases q with
  | nil => exact absurd rfl h
  | cons b r => exact ⟨by rw [Ly.baOf_size]; simp, rfl⟩
theorem skip_hash {W : List (List UInt8)} (h : 0 < W.length) {c : Nat} (hc : ((Ly.wd W 0).headD 0).toNat = c) : Ly.skip W = decide (c = 35) := by
  unfold Ly.skip
  have h1 : W.isEmpty = false := by cases W with
    | nil => simp at h
    | cons a r => rfl
  rw [h1, Bool.false_or]
  have : ((Ly.wd W 0).headD 0 = 35) ↔ c = 35 := by
    rw [← hc]
    constructor
    · intro e; rw [e]; rfl
    · intro e; exact UInt8.toNat_inj.1 e
  exact decide_eq_decide.2 this
set_option maxRecDepth 100000 in
set_option maxHeartbeats 4000000 in
theorem lparse_c (s : ByteArray) (mm : Int) (w : World) (hs : s.size ≤ maxLen) (hm : w.cell? ⟨1, 0, none⟩ = some (.int .i64 mm)) :
    Calls Tryd.prog 14 #[.string s] w (LParseR s w) := by
  unfold maxLen at hs
  have hsi : (s.size : Int) ≤ 9223372036854775807 := by omega
  have hmk := @run_makeMap Tryd.prog
  by_cases hbig : 16384 < s.size
  · have d1 : decide (16384 < (s.size : Int)) = true := by simp; omega
    have d1' : decide (16384 < s.size) = true := by simp; omega
    have HE := Lib.hid (Ly.parse_long hbig)
    clear hbig
    go_enter Tryd.func14, Tryd.ntmps14
    go_wp2_with fail
    go_ret3
    exact lparseR_nil HE.out (Below.refl _ _)
  · have d1 : decide (16384 < (s.size : Int)) = false := by simp; omega
    have d1' : decide (16384 < s.size) = false := by simp; omega
    have HE := Lib.hid (Ly.parse_start hbig)
    have hs4 : s.size ≤ 16384 := by omega
    have hsl : s.data.toList.length = s.size := by simp
    have Hline := Lib.hid (fun j => line_le s.data.toList j)
    rw [hsl] at Hline
    clear hbig hsl
    have hm0 := cell_alloc hm
    go_enter Tryd.func14, Tryd.ntmps14
    go_wp2_with fail
    refine (split_c 10 s mm _ (by omega) (hm0 _)).mono ?_
    rintro e w1 ⟨L', n, hL, hnl, hn1, hn2, rfl, hw1⟩
    obtain ⟨L, hLL⟩ : ∃ L, Tx.cutAt 10 s.data.toList = L := ⟨_, rfl⟩
    rw [hLL] at hL HE Hline
    have hnl' : L.length = n := by rw [← hnl, hL, List.length_map]
    have hLA : LinesAt w1 (w.heap.size + 1) n L := by
      have := LinesAt.new (w.alloc (.map #[] 0)) L 9
      rw [hw1, hL, ← hnl']
      simpa using this
    have hMO : MapO keyS 3 w1 w.heap.size 0 (idxOf []) := by
      have := (MapO.made (k := keyS) (E := 3) w).alloc (.cells (L'.map Value.string).toArray 9)
      rw [hw1]; exact this
    have hb1 : Below w.heap.size w w1 := by
      rw [hw1]
      exact ((Below.refl _ _).alloc (Nat.le_refl _) _).alloc (by simp) _
    have HLn := Lib.hid hnl'
    clear hL hnl hw1 hLL hnl'
    go_wp2_with fail
    go_loopw [2, 21] (fun vl vi wr => LPI s w n L vl vi wr) (fun _ vi _ => n - (intOf vi).toNat)
    case atStart => exact (show LPI _ _ _ _ _ _ _ from ⟨[], 0, 0, by omega, rfl, by simp, by omega, World.ownsRow_nil _ _ _ _, hMO, Lib.hid (by rw [HE.out]; rfl), Lib.hid (by simp), hLA, hb1⟩)
    case round =>
      obtain ⟨l, i, m, hin, rfl, hli, hmi, own, hM, HP, HO, hLA, hbr⟩ := hrel
      clear hMO hb1
      obtain ⟨Al, cl, rfl, hcl1, hcl2⟩ := own_form own
      have hmr := keep_cell hbr hm
      have hgs := hLA.1
      by_cases hlt : i < n
      · have hlti : (i : Int) < (n : Int) := by omega
        have hcell := hLA.2 i hlt
        have HiL := Lib.hid (show i < L.length by rw [HLn.out]; exact hlt)
        have hls := Hline.out i
        obtain ⟨q, hq⟩ : ∃ q, Ly.wd L i = q := ⟨_, rfl⟩
        have Hsk := Lib.hid (fun h => Ly.go_skip (l := l) HiL.out h)
        have Hbad := Lib.hid (fun e h1 h2 => Ly.go_bad (l := l) (e := e) HiL.out h1 h2)
        have Hgood := Lib.hid (fun x h1 h2 => Ly.go_good (l := l) (x := x) HiL.out h1 h2)
        rw [hq] at hcell hls Hsk Hbad Hgood
        have hql : q.length ≤ 16384 := by rw [Ly.baOf_size] at hls; omega
        have Hwq := Lib.hid (fun j => wd_le q j)
        have Hwd := Lib.hid (fun j h => wd_word (q := q) (j := j) h)
        clear hq HiL
        go_wp2_with fail
        refine (lwords_c (baOf q) mm wr (by omega) hmr).mono ?_
        rintro e w2 ⟨M, k, v, rfl, own2, hM2, hk2, hb2⟩
        rw [baOf_data] at hM2
        obtain rfl := words_map hM2
        have hb2' := below_step hbr hb2
        have hk3 : k ≤ 1000000 := by omega
        obtain ⟨W, hW⟩ : ∃ W, Tx.words q = W := ⟨_, rfl⟩
        rw [hW] at own2 Hsk Hbad Hgood Hwq Hwd
        have hWk : W.length = k := by have := own2.1; simpa using this
        have HWk := Lib.hid hWk
        obtain ⟨A, cc, rfl, hc1, hc2⟩ := own_form own2
        have hownl2 := own_below own hb2
        have hM2' := hM.below hb2
        have hLA2 := hLA.below hb2
        clear hM2 hW hWk hM hLA own
        by_cases hk0 : k = 0
        · have dk : ((k : Int) == 0) = true := by simp [hk0]
          have HP2 := Lib.hid (HP.out.trans (congrArg Ly.parseS (Hsk.out (by
            have : W = [] := List.eq_nil_of_length_eq_zero (by rw [HWk.out, hk0])
            rw [this]; rfl))))
          clear hk0
          go_wp2_with fail
          go_roundw
          case rel => exact (show LPI _ _ _ _ _ _ _ from ⟨l, i + 1, m, by omega, by go_num, by omega, by omega, hownl2, hM2', HP2, HO, hLA2, hb2'⟩)
          case measure => simp [intOf]; omega
        · have dk : ((k : Int) == 0) = false := by simp [hk0]
          obtain ⟨g, rfl⟩ : ∃ g, A = some ⟨g, 0, none⟩ := by
            obtain ⟨g', cap', hv, _⟩ := own2.form (by omega)
            injection hv with hv
            exact ⟨g', hv⟩
          have hk0i : (0 : Int) < (k : Int) := by omega
          have c0 := own_wd own2 (j := 0) (by omega)
          obtain ⟨hp, hby⟩ := first_byte (Hwd.out 0 (by rw [HWk.out]; omega)).2
          obtain ⟨c, hc⟩ : ∃ c, ((Ly.wd W 0).headD 0).toNat = c := ⟨_, rfl⟩
          rw [hc] at hby
          have Hs := Lib.hid (skip_hash (W := W) (by rw [HWk.out]; omega) hc)
          clear hc
          by_cases hc35 : c = 35
          · have e35 : ((c : Int) == 35) = true := by simp [hc35]
            have HP2 := Lib.hid (HP.out.trans (congrArg Ly.parseS (Hsk.out (by rw [Hs.out]; exact decide_eq_true hc35))))
            clear hc35
            go_wp2_with fail
            go_roundw
            case rel => exact (show LPI _ _ _ _ _ _ _ from ⟨l, i + 1, m, by omega, by go_num, by omega, by omega, hownl2, hM2', HP2, HO, hLA2, hb2'⟩)
            case measure => simp [intOf]; omega
          · have e35 : ((c : Int) == 35) = false := by simp; omega
            have Hs0 := Lib.hid (Hs.out.trans (decide_eq_false hc35))
            clear hc35
            go_wp2_with fail
            refine (lelem_c g k cc w.heap.size m wr.heap.size l W w2 (by omega) hk3 own2 (fun j => by have := Hwq.out j; omega) hM2' (fun x hx => (HO.out x hx).1)).mono ?_
            rintro e w3 ⟨x, er, rfl, hq3, hb3⟩
            have hb3' := below_step hb2' hb3
            have own3 := own_below hownl2 hb3
            have hM3 := hM2'.below hb3
            have hLA3 := hLA2.below hb3
            clear hownl2 hM2' hLA2 own2 c0
            obtain ⟨o, ho⟩ : ∃ o, Ly.elemB l W = o := ⟨_, rfl⟩
            rw [ho] at hq3
            cases o with
            | inl e' =>
              obtain ⟨rfl, her⟩ := hq3
              have der : (er != 0) = true := by simpa using her
              have HE2 := Lib.hid (HP.out.trans (Hbad.out er Hs0.out ho))
              clear ho her
              unfold leV
              go_wp2_with fail
              go_ret3
              exact lparseR_nil HE2.out (hb3'.alloc hb3'.size _)
            | inr y =>
              obtain ⟨rfl, rfl⟩ := hq3
              have HP2 := Lib.hid (HP.out.trans (congrArg Ly.parseS (Hgood.out x Hs0.out ho)))
              have hxo := Ly.elem_ok (by omega) ho
              have HO2 : Hid (∀ y ∈ l ++ [x], Ly.LeOk y) := Lib.hid (fun y hy => by
                rcases List.mem_append.1 hy with h | h
                · exact HO.out y h
                · rw [List.mem_singleton] at h
                  subst h
                  exact hxo)
              have hxs : x.nm.size ≤ maxLen := by have := hxo.size; unfold maxLen; omega
              clear ho hxo
              obtain ⟨XO, hXO⟩ : ∃ XO, (Obj.cells #[.int .i64 x.k, .string x.nm, .int .i64 x.p, .int .i64 x.sd, .int .i64 x.len, .int .i64 x.g, .int .i64 x.c, .int .i64 x.pw] 48) = XO := ⟨_, rfl⟩
              have own4 := own3.alloc XO
              have hM4 := hM3.alloc XO
              have hLA4 := hLA3.below ((Below.refl w3.heap.size w3).alloc (Nat.le_refl _) XO)
              have hb4 := hb3'.alloc hb3'.size XO
              have hX4 := Blk.new w3 48 #[.int .i64 x.k, .string x.nm, .int .i64 x.p, .int .i64 x.sd, .int .i64 x.len, .int .i64 x.g, .int .i64 x.c, .int .i64 x.pw]
              have hsz3 := hb3'.size
              have hsz3' := hLA3.1
              have hl72 : (l.length + 1) * 72 ≤ 140737488355328 := by omega
              rw [hXO] at hX4
              subst hXO
              clear own3 hM3 hLA3 hb3'
              cases hix : idxOf l x.nm with
              | some ii =>
                have Hix := Lib.hid hix
                have Hold := Lib.hid (idx_old hix)
                clear hix
                unfold leV
                go_wp2_with (first
                  | (at_lookup; refine wpList_mapO_look msi_under int_under' (zint _) rfl (.tmp 50) (.tmp 52) rfl rfl hM4 x.nm rfl hxs ?_; simp only [Hix.out, Option.getD_some, Option.isSome_some])
                  | (at_builtin
                     go_must (
                     refine wpList_pushb sl72 rfl (.tmp 63) (.tmp 65) rfl (w.heap.size + 2) _ _ _ rfl own4 1 1 (w3.heap.size + 1) (by simp) rfl rfl rfl (by simp only [maxLen]; omega) hl72 (by simp; omega) ?_
                     intro v' w5 own5 hgr
                     have hge4 := own_ge own4
                     have hM5 := hM4.kept hgr.grown (fun e => by have := hge4 _ e.symm; omega)
                     have hLA5 := hLA4.kept hgr.grown (fun e => by have := hge4 _ e.symm; omega)
                     have hb5 := hb4.trans ((hgr.below hge4 (by simp; omega)).mono (by omega)))))
                go_roundw
                case rel => exact (show LPI _ _ _ _ _ _ _ from ⟨l ++ [x], i + 1, m, by omega, by go_num, by simp; omega, by omega, by rw [List.length_append, flat8_snoc]; exact own5, by rw [Hold.out]; exact hM5, HP2, HO2, hLA5, hb5⟩)
                case measure => simp [intOf]; omega
              | none =>
                have Hix := Lib.hid hix
                have Hnew := Lib.hid (idx_new hix)
                clear hix
                unfold leV
                go_wp2_with (first
                  | (at_lookup; refine wpList_mapO_look msi_under int_under' (zint _) rfl (.tmp 50) (.tmp 52) rfl rfl hM4 x.nm rfl hxs ?_; simp only [Hix.out, Option.getD_none, Option.isSome_none])
                  | (at_mapUpdate
                     have hguard := hM4
                     clear hguard
                     go_must (
                     refine wpList_mapO_put msi_under int_under' rfl (.tmp 58) (.tmp 60) (.tmp 62) rfl rfl hM4 (by unfold maxLen; omega) x.nm (l.length : Int) rfl rfl hxs (wf_small (by omega)) (idxOf (l ++ [x])) Hnew.out (fun s' h => idx_other h) ?_
                     intro w5 hM5 hg5
                     have own5 := own4.kept hg5 (.inr (fun e => by have := own_ge own4 _ e; omega))
                     have hLA5 := hLA4.kept hg5 (by simp)
                     have hX5 := hX4.grown hg5 (by simp; omega)
                     have hb5 : Below w.heap.size w w5 := hb4.trans ((Below.refl _ _).grown hg5 hb4.size (fun b hb => by cases hb; exact Nat.le_refl _))
                     have hsz5 := hb5.size
                     have hsz5' : w3.heap.size + 1 ≤ w5.heap.size := by have := hg5.size; simpa using this
                     have hB5 : w.heap.size + 2 ≤ w5.heap.size := by omega
                     have x0 := hX5.cell 0
                     have x1 := hX5.cell 1
                     have x2 := hX5.cell 2
                     have x3 := hX5.cell 3
                     have x4 := hX5.cell 4
                     have x5 := hX5.cell 5
                     have x6 := hX5.cell 6
                     have x7 := hX5.cell 7
                     simp only [List.getElem?_toArray, List.getElem?_cons_zero, List.getElem?_cons_succ] at x0 x1 x2 x3 x4 x5 x6 x7
                     clear hM4 own4 hLA4 hX4 hb4))
                  | (at_builtin
                     have hguard := hM5
                     clear hguard
                     go_must (
                     refine wpList_pushb sl72 rfl (.tmp 63) (.tmp 65) rfl (w.heap.size + 2) _ _ _ rfl own5 1 1 w5.heap.size (by simp) rfl rfl rfl (by simp only [maxLen]; omega) hl72 hB5 ?_
                     intro v' w6 own6 hgr
                     have hge5 := own_ge own5
                     have hM6 := hM5.kept hgr.grown (fun e => by have := hge5 _ e.symm; omega)
                     have hLA6 := hLA5.kept hgr.grown (fun e => by have := hge5 _ e.symm; omega)
                     have hb6 := hb5.trans ((hgr.below hge5 hB5).mono (by omega)))))
                go_roundw
                case rel => exact (show LPI _ _ _ _ _ _ _ from ⟨l ++ [x], i + 1, m + 1, by omega, by go_num, by simp; omega, by omega, by rw [List.length_append, flat8_snoc]; exact own6, hM6, HP2, HO2, hLA6, hb6⟩)
                case measure => simp [intOf]; omega
      · obtain rfl : i = n := by omega
        have HE2 := Lib.hid (HP.out.trans (Ly.go_end (l := l) (Nat.le_of_eq HLn.out)))
        have hR := own_LR own
        have hmx : l.length ≤ maxLen := by unfold maxLen; omega
        have hHs : Hid (∀ x ∈ l, x.nm.size ≤ maxLen) := Lib.hid (fun x hx => by have := (HO.out x hx).size; unfold maxLen; omega)
        have hHi : Hid (∀ x ∈ l, (Lit.int .i64 x.p).wf = true ∧ (Lit.int .i64 x.sd).wf = true) := Lib.hid (fun x hx => by
          have h1 := (HO.out x hx).2.1
          have h2 := (HO.out x hx).2.2
          exact ⟨wf_small (by omega), wf_small (by omega)⟩)
        go_wp2_with fail
        refine (lvalid_c Al l.length cl l wr hmx hR hHs.out hHi.out).mono ?_
        rintro e w2 ⟨rfl, hb2⟩
        have hbr2 := below_step hbr hb2
        by_cases h0 : Ly.vErr l = 0
        · have d3 : (Ly.vErr l != 0) = false := by simp [h0]
          have H3 := Lib.hid (HE2.out.trans (if_pos h0))
          have hR2 := hR.below hb2
          clear h0
          go_wp2_with fail
          go_ret3
          exact lparseR_ok H3.out hR2 (by omega) HO.out hbr2
        · have d3 : (Ly.vErr l != 0) = true := by simp [h0]
          have H3 := Lib.hid (HE2.out.trans (if_neg h0))
          clear h0
          go_wp2_with fail
          go_ret3
          exact lparseR_nil H3.out hbr2
end Go.Proofs.YtmjdjcpmkdninaaDoor
