/- Slices of wagons and of set-outs: reading, rows of the call's own. -/
import Derived.Test.YtocohkgdkebmdaaGreatDetectorShortW
import Derived.Test.YtocohkgdkebmdaaGreatHamW4
import Derived.Lib.SplitLaws
import Derived.Lib.Split
import Derived.Lib.ItoaMem
import Derived.Test.YtocohkgdkebmdaaGreatMem
namespace Go.Proofs.YtocohkgdkebmdaaGreat.Det
theorem okV_of {p : V3} {t : Int} (h : okP p = true) (h0 : t ≤ p.b) (h1 : p.b - t ≤ 1023) : okV (pv p) (p.b - t) t = true := by
  have ho := okP_all h
  have hp := pv_range h
  simp only [okV, small, Bool.and_eq_true, decide_eq_true_eq]
  omega
theorem back {p : V3} {t : Int} (h : okP p = true) : (⟨(pv p - 1024) / 2, t + (p.b - t), (pv p - 1024) % 2 * 2 - 1⟩ : V3) = p := by
  have ho := okP_all h
  obtain ⟨a, b, c⟩ := p
  simp only [pv] at *
  have h2 : t + (b - t) = b := by omega
  rw [h2]
  obtain ⟨_, _, _, _, hc | hc⟩ := ho
  · subst hc
    rw [if_pos rfl]
    have e1 : (1024 + 2 * a + 1 - 1024) / 2 = a := by omega
    have e2 : (1024 + 2 * a + 1 - 1024) % 2 * 2 - 1 = 1 := by omega
    rw [e1, e2]
  · subst hc
    rw [if_neg (by decide)]
    have e1 : (1024 + 2 * a + 0 - 1024) / 2 = a := by omega
    have e2 : (1024 + 2 * a + 0 - 1024) % 2 * 2 - 1 = -1 := by omega
    rw [e1, e2]
theorem rdP_run : ∀ (m : Nat) (t : Int) (l : List V3) (C : List Int), vGo l (some t) = 0 → rdP t (run m t l) (encP t (l.take (run m t l)) ++ C) = some (l.take (run m t l)) := by
  intro m
  induction m with
  | zero => intro t l C _; simp [run, rdP]
  | succ m ih =>
    intro t l C h
    cases l with
    | nil => simp [run, rdP]
    | cons p r =>
      obtain ⟨h1, h2, h3⟩ := vGo_cons h
      have h2' : t ≤ p.b := by simpa [early] using h2
      rw [run]
      split
      · rename_i hd
        rw [List.take_succ_cons, encP, List.cons_append, List.cons_append, rdP_ok _ _ _ _ _ (okV_of h1 h2' hd)]
        have e : t + (p.b - t) = p.b := by omega
        have hb := back (t := t) h1
        rw [e] at hb ⊢
        rw [ih p.b r C h3]
        simp [hb]
      · simp [rdP]
theorem rd_group (p : V3) (r : List V3) (C : List Int) (h : vGo (p :: r) none = 0) : rd (grpVals ((p :: r).take (grp (p :: r))) ++ C) = some ((p :: r).take (grp (p :: r)), 4 + 2 * grp (p :: r)) := by
  obtain ⟨h1, _, h3⟩ := vGo_cons h
  have hg := grp_pos p r
  have ho := okP_all h1
  have hgr : grp (p :: r) = run 7 p.b r + 1 := rfl
  have hlen : ((p :: r).take (grp (p :: r))).length = grp (p :: r) := by rw [List.length_take, List.length_cons]; omega
  have hhead : headT ((p :: r).take (grp (p :: r))) = p.b := by rw [hgr, List.take_succ_cons]; rfl
  have hV : grpVals ((p :: r).take (grp (p :: r))) ++ C = (1536 + (grp (p :: r) : Int)) :: (p.b / 1048576) :: (p.b / 1024 % 1024) :: (p.b % 1024) :: (encP p.b ((p :: r).take (grp (p :: r))) ++ C) := by
    rw [grpVals, hlen, hhead]; rfl
  have hL : (grpVals ((p :: r).take (grp (p :: r))) ++ C).length = 4 + 2 * grp (p :: r) + C.length := by rw [List.length_append, grpVals_len, hlen]
  rw [rd_go _ (grp (p :: r)) (by rw [hV]; rfl) (by rw [hV]; simp [mark]; omega) (by omega) (by rw [hV]; simp [small]; omega) (by rw [hV]; simp [small]; omega) (by rw [hV]; simp [small]; omega)]
  have hT : (grpVals ((p :: r).take (grp (p :: r))) ++ C).getD 1 0 * 1048576 + (grpVals ((p :: r).take (grp (p :: r))) ++ C).getD 2 0 * 1024 + (grpVals ((p :: r).take (grp (p :: r))) ++ C).getD 3 0 = p.b := by
    rw [hV]
    show p.b / 1048576 * 1048576 + p.b / 1024 % 1024 * 1024 + p.b % 1024 = p.b
    omega
  have hD : (grpVals ((p :: r).take (grp (p :: r))) ++ C).drop 4 = encP p.b ((p :: r).take (grp (p :: r))) ++ C := by rw [hV]; rfl
  rw [hT, hD]
  have hfirst : rdP p.b (grp (p :: r)) (encP p.b ((p :: r).take (grp (p :: r))) ++ C) = some ((p :: r).take (grp (p :: r))) := by
    rw [hgr, List.take_succ_cons, encP, List.cons_append, List.cons_append, rdP_ok _ _ _ _ _ (okV_of h1 (by omega) (by omega))]
    have e : p.b + (p.b - p.b) = p.b := by omega
    have hb := back (t := p.b) h1
    rw [e] at hb ⊢
    rw [rdP_run 7 p.b r C h3]
    simp [hb]
  rw [hfirst]
  rfl
theorem parse_vals : ∀ (n : Nat) (l : List V3), l.length ≤ n → vGo l none = 0 → ∀ A C : List Int, parseAt (A ++ (vals l ++ C)) A.length = (l ++ (parseAt (A ++ (vals l ++ C)) (A.length + (vals l).length)).1, (parseAt (A ++ (vals l ++ C)) (A.length + (vals l).length)).2) := by
  intro n
  induction n with
  | zero =>
    intro l hl _ A C
    obtain rfl : l = [] := List.eq_nil_of_length_eq_zero (by omega)
    simp [vals, valsF]
  | succ n ih =>
    intro l hl h A C
    cases l with
    | nil => simp [vals, valsF]
    | cons p r =>
      have hg := grp_pos p r
      have hgl : ((p :: r).take (grp (p :: r))).length = grp (p :: r) := by rw [List.length_take, List.length_cons]; omega
      have hd : (A ++ (vals (p :: r) ++ C)).drop A.length = grpVals ((p :: r).take (grp (p :: r))) ++ (vals ((p :: r).drop (grp (p :: r))) ++ C) := by
        rw [List.drop_left', vals_cons, List.append_assoc]
        rfl
      have hrd := rd_group p r (vals ((p :: r).drop (grp (p :: r))) ++ C) h
      have hs := parseAt_some (A ++ (vals (p :: r) ++ C)) A.length _ _ (by rw [hd]; exact hrd)
      have hi := ih ((p :: r).drop (grp (p :: r))) (by simp only [List.length_drop, List.length_cons] at *; omega) (vGo_drop _ _ h) (A ++ grpVals ((p :: r).take (grp (p :: r)))) C
      have hA : (A ++ grpVals ((p :: r).take (grp (p :: r)))).length = A.length + (4 + 2 * grp (p :: r)) := by rw [List.length_append, grpVals_len, hgl]
      have hV : A ++ grpVals ((p :: r).take (grp (p :: r))) ++ (vals ((p :: r).drop (grp (p :: r))) ++ C) = A ++ (vals (p :: r) ++ C) := by
        rw [vals_cons]; simp [List.append_assoc]
      rw [hV, hA] at hi
      rw [hs, hi]
      have hN : A.length + (4 + 2 * grp (p :: r)) + (vals ((p :: r).drop (grp (p :: r)))).length = A.length + (vals (p :: r)).length := by
        rw [vals_cons, List.length_append, grpVals_len, hgl]; omega
      rw [hN]
      simp only
      rw [← List.append_assoc, List.take_append_drop]
theorem parse_one (l : List V3) (h : vGo l none = 0) : parse (vals l) = (l, []) := by
  have := parse_vals _ l (Nat.le_refl _) h [] []
  simp only [List.nil_append, List.append_nil, List.length_nil, Nat.zero_add] at this
  rw [parse_at0, this, parseAt_end _ _ (Nat.le_refl _)]
  simp
/- two messages one behind the other -/
end Go.Proofs.YtocohkgdkebmdaaGreat.Det
namespace Go.Proofs.YtocohkgdkebmdaaGreat
open Go.RowKit
theorem in17' (v : Int) : ∃ n : Nat, n < 17 ∧ ((v.tmod 17 + 17) % 17) = (n : Int) := by
  have := mod_bd (v.tmod 17 + 17) 17 (by omega)
  exact ⟨((v.tmod 17 + 17) % 17).toNat, by omega, by omega⟩
/-- What Decode gives where the words carry the values V. -/
theorem dec_of {V B : List Int} {P : List V3} {G : List (Int × Int)} (hE : Ham.unpE B = 0) (hV : Ham.unpackV B = V) (hp : Det.parse V = (P, G)) (hl : P.length ≤ 4096) : Det.decE B = 0 ∧ Det.decP B = P ∧ Det.decG B = G := by
  have h1 : Det.decE B = 0 := by rw [Det.decE, if_neg (by omega), hV, hp, if_neg (by simp only; omega)]
  refine ⟨h1, ?_, ?_⟩
  · rw [Det.decP, if_pos h1, hV, hp]
  · rw [Det.decG, if_pos h1, hV, hp]
theorem decode_as (A : Option Addr) (n c : Nat) (B : List Int) (P : List V3) (G : List (Int × Int)) (w : World) (hn : n ≤ maxLen) (h : IR .u8 w A n B) (hr : ∀ x ∈ B, 0 ≤ x ∧ x < 256) (hd : Det.decE B = 0 ∧ Det.decP B = P ∧ Det.decG B = G) (np ng : Nat) (hnp : P.length = np) (hng : G.length = ng) :
    Calls Tryz.prog 10 #[.slice A n c] w fun e w' => ∃ v u, e = .returned (.tuple #[v, u, .int .i64 0]) ∧ w'.ownsRow w.heap.size 33 3 v np (flat3 P) ∧ w'.ownsRow w.heap.size 85 2 u ng (flat2 G) ∧ Below w.heap.size w w' := by
  refine (ddecode_c A n c B w hn h hr).mono fun e w' ⟨v, u, h1, h2, h3, h4⟩ => ⟨v, u, by rw [h1, hd.1], ?_, ?_, h4⟩
  · rw [hd.2.1, hnp] at h2; exact h2
  · rw [hd.2.2, hng] at h3; exact h3
end Go.Proofs.YtocohkgdkebmdaaGreat
namespace Go.Proofs.YtocohkgdkebmdaaGreat
open Go.RowKit
def FlI (base g m cap : Nat) (V : List Int) (w : World) (p : Value) (wr : World) : Prop :=
  ∃ (k : Nat) (B : List Int), k ≤ m ∧ p = .int .i64 k ∧ Hid (Ham.Near V B) ∧ Hid (∀ j, k ≤ j → j < m → Ham.wordAt B j = Ham.word (V.getD j 0).toNat) ∧
    wr.ownsRow base 5 1 (.slice (some ⟨g, 0, none⟩) (2 * m) cap) (2 * m) (B.map (Value.int .u8)) ∧ w.grownBy wr (some g)
def FlR (base g m cap : Nat) (V : List Int) (w : World) (e : Ending) (w' : World) : Prop :=
  e = .returned (.tuple #[]) ∧ ∃ B, Ham.Near V B ∧ w'.ownsRow base 5 1 (.slice (some ⟨g, 0, none⟩) (2 * m) cap) (2 * m) (B.map (Value.int .u8)) ∧ w.grownBy w' (some g)
set_option maxRecDepth 100000 in
set_option maxHeartbeats 2000000 in
theorem tflip_c (base g m cap : Nat) (V : List Int) (A : Option Addr) (n c : Nat) (l : List Int) (w : World) (hm : V.length = m) (hm2 : m ≤ 1000) (hn : n ≤ maxLen) (own : w.ownsRow base 5 1 (.slice (some ⟨g, 0, none⟩) (2 * m) cap) (2 * m) ((Ham.encB V).map (Value.int .u8)))
    (hb : IR .i64 w A n l) (hg : 0 < n → ∀ ad, A = some ad → ad.block ≠ g) :
    Calls Tryz.prog 9 #[.slice (some ⟨g, 0, none⟩) (2 * m) cap, .slice A n c] w (FlR base g m cap V w) := by
  unfold maxLen at hn
  have Hm := Lib.hid hm
  have Hg := Lib.hid hg
  have H0 : Hid (∀ j, 0 ≤ j → j < m → Ham.wordAt (Ham.encB V) j = Ham.word (V.getD j 0).toNat) := Lib.hid fun j _ hj => Ham.wordAt_enc V j (by rw [hm]; exact hj)
  have HN := Lib.hid (Ham.Near.enc V)
  have e1 : (2 * (m : Int)) % 2 = 0 := by omega
  have e2 : (2 * (m : Int)) / 2 = (m : Int) := by omega
  clear hm hg
  go_enter Tryz.func9, Tryz.ntmps9
  go_wp2_with fail
  go_loopw [4] (fun p wr => FlI base g m cap V w p wr) (fun p _ => m - (intOf p).toNat)
  case atStart => exact (show FlI _ _ _ _ _ _ _ _ from ⟨0, _, Nat.zero_le _, rfl, HN, H0, own, World.grownBy.refl w _⟩)
  case round =>
    clear own H0 HN
    obtain ⟨k, B, hk, rfl, hnear, hrest, own, hgr⟩ := hrel
    by_cases hlt : k < m ∧ 0 < n
    · obtain ⟨hlt, h1⟩ := hlt
      have hq1 : k % n < n := Nat.mod_lt _ h1
      have hqi : (k : Int) % (n : Int) = ((k % n : Nat) : Int) := by omega
      generalize k % n = q at hq1 hqi
      obtain ⟨bd, rfl, hbb, hcb⟩ := hb.at_ hq1
      have hcb' := hgr.cell hcb (by rw [block_of_add]; exact fun e => Hg.out h1 bd rfl (Option.some.inj e))
      generalize l.getD q 0 = x at hcb'
      obtain ⟨p, hp17, hpx⟩ := in17' x
      have hxt := tmod_bd x 17 (by omega)
      clear hcb
      by_cases hp : p < 16
      · have hnr := hnear.out.range
        have hjd : ∃ j : Nat, j = 2 * k + 1 - p / 8 ∧ j < 2 * m := ⟨_, rfl, by omega⟩
        obtain ⟨j, hj, hjn⟩ := hjd
        have hcell := own_cell own hjn
        have hfz := own.frozenAt j
        have hbx := Ham.getD_range B hnr j
        obtain ⟨y, hy⟩ := Int.eq_ofNat_of_zero_le hbx.1
        have hfl : Ham.flipB B k p = B.set j ((y ^^^ 2 ^ (p % 8) : Nat) : Int) := by rw [Ham.flipB, ← hj, hy, Int.toNat_natCast]
        rw [hy] at hcell hbx
        have hxor := Lib.hid (u8_flip y p (by omega))
        have s1 : IntKind.i64.wrap (2 * (k : Int)) = 2 * (k : Int) := IntWalk.i64_in _ ⟨by omega, by omega⟩
        have s2 : IntKind.i64.wrap (2 * (k : Int) + 1) = 2 * (k : Int) + 1 := IntWalk.i64_in _ ⟨by omega, by omega⟩
        have s3 : IntKind.i64.wrap (2 * (k : Int) + 1 - (p : Int) / 8) = (j : Int) := by rw [IntWalk.i64_in _ ⟨by omega, by omega⟩]; omega
        have s4 : 2 * (k : Int) + 1 - (p : Int) / 8 = (j : Int) := by omega
        have Hfl := Lib.hid hfl
        have hrest2 : Hid (∀ i, k + 1 ≤ i → i < m → Ham.wordAt (Ham.flipB B k p) i = Ham.word (V.getD i 0).toNat) := Lib.hid fun i hi hin => by
          rw [Ham.wordAt_flip_other _ _ _ _ hp (by have := hnear.out.len; rw [Hm.out] at this; omega) (by omega)]
          exact hrest.out i (by omega) hin
        have hnear2 := Lib.hid (hnear.out.flip k p (by rw [Hm.out]; exact hlt) hp (hrest.out k (Nat.le_refl _) hlt))
        have own2 := own_set own (j := j) ((y ^^^ 2 ^ (p % 8) : Nat) : Int)
        rw [← hfl] at own2
        have hgr2 := hgr.trans (show wr.grownBy (wr.setCell ⟨g, j, none⟩ (.int .u8 ((y ^^^ 2 ^ (p % 8) : Nat) : Int))) (some g) from ⟨rfl, rfl, rfl, by simp [World.setCell], fun k _ hne => Below.heap_setCell wr ⟨g, j, none⟩ _ k (fun e => hne (by rw [e]))⟩)
        have HO := Lib.hid (And.intro own2 hgr2)
        clear hfl hy hj own own2 hgr2 hnear hrest hnr
        go_wp2_with fail
        go_region
        go_wp2_with fail
        go_roundw
        case rel =>
          refine (show FlI _ _ _ _ _ _ _ _ from ⟨k + 1, Ham.flipB B k p, by omega, by go_num, hnear2, hrest2, ?_, ?_⟩)
          · rw [hxor.out]; exact own_drew HO.out.1
          · rw [hxor.out]; exact ⟨HO.out.2.os, HO.out.2.tape, HO.out.2.output, HO.out.2.size, HO.out.2.block⟩
        case measure => simp [intOf]; omega
      · obtain rfl : p = 16 := by omega
        go_wp2_with fail
        go_roundw
        case rel => exact (show FlI _ _ _ _ _ _ _ _ from ⟨k + 1, B, by omega, by go_num, hnear, Lib.hid (fun i hi hin => hrest.out i (by omega) hin), own, hgr⟩)
        case measure => simp [intOf]; omega
    · have hcase : (k < m ∧ n = 0) ∨ (k = m) := by omega
      clear hlt
      rcases hcase with ⟨hc1, rfl⟩ | rfl
      all_goals
        go_wp2_with fail
        refine bodyPost_end (results_none rfl _ _ _) rfl ?_
        exact (show FlR _ _ _ _ _ _ _ _ from ⟨rfl, B, hnear.out, own, hgr⟩)
end Go.Proofs.YtocohkgdkebmdaaGreat
namespace Go.Proofs.YtocohkgdkebmdaaGreat
structure PE where
  k : Int
  nm : ByteArray
  a : Int
  b : Int
  c : Int
  len : Int
namespace Pl
def nameC (c : UInt8) : Bool := decide (97 ≤ c.toNat) && decide (c.toNat ≤ 122) || decide (48 ≤ c.toNat) && decide (c.toNat ≤ 57)
def nameOk (s : ByteArray) : Bool := decide (1 ≤ s.size) && decide (s.size ≤ 12) && s.data.toList.all nameC
def rest (x : PE) : Bool := if x.k = 1 then decide (x.c = 0) && decide (1 ≤ x.len) && decide (x.len ≤ 100000) else decide (x.len = 0) && (decide (x.k = 2) || decide (x.c = 0))
end Pl
end Go.Proofs.YtocohkgdkebmdaaGreat
namespace Go.Proofs.YtocohkgdkebmdaaGreat
def digC (c : UInt8) : Bool := decide (48 ≤ c.toNat) && decide (c.toNat ≤ 57)
namespace Tx
/-- An integer with a sign, as a text has it: no number, one outside, or its value. -/
def digs : List UInt8 → List UInt8
  | 45 :: r => r
  | l => l
end Tx
end Go.Proofs.YtocohkgdkebmdaaGreat
namespace Go.Proofs.YtocohkgdkebmdaaGreat
/-- A wagon. -/
structure WG where
  nu : ByteArray
  len : Int
  ax : Int
  ms : Int
  br : Int
  gd : Int
  gt : Bool
  de : ByteArray
namespace Fn
def digs (l : List UInt8) : Bool := l.all digC
/-- The value of a digit with its weight. -/
def dv (e : Bool) (d : Nat) : Nat := if e = true then (if 9 < 2 * d then 2 * d - 9 else 2 * d) else d
def dAt (l : List UInt8) (i : Nat) : Nat := (l.getD i 0).toNat - 48
/-- The sum of the first digits. -/
def sumTo (l : List UInt8) : Nat → Nat
  | 0 => 0
  | i + 1 => sumTo l i + dv (decide (i % 2 = 0)) (dAt l i)
/-- What is wrong with a number of a wagon. -/
def kErr (s : ByteArray) : Int :=
  if ¬ (s.size = 12 ∧ digs s.data.toList = true) then 11
  else if (sumTo s.data.toList 11 + dAt s.data.toList 11) % 10 ≠ 0 then 9 else 0
def c4 (s : ByteArray) : Nat := (s.data.toList.getD 4 0).toNat
def kindC (c : Nat) : Int := if c = 55 ∨ c = 56 then 1 else if c = 50 ∨ c = 52 then 2 else if c = 57 then 3 else 0
def axK (k : Int) : Int := if k = 2 then 2 else if k = 3 then 6 else 4
def leastK (k : Int) : Int := if k = 3 then 120 else 80
def kindN (s : ByteArray) : Int := kindC (c4 s)
def rangeOk (x : WG) : Bool := decide (leastK (kindN x.nu) ≤ x.len) && decide (x.len ≤ 400) && decide (50 ≤ x.ms) && decide (x.ms ≤ 2000) && decide (0 ≤ x.br) && decide (x.br ≤ x.ms) && decide (0 ≤ x.gd) && decide (x.gd ≤ 9)
/-- What is wrong with a wagon. -/
def wErr (x : WG) : Int :=
  if kErr x.nu ≠ 0 then kErr x.nu
  else if x.ax ≠ axK (kindN x.nu) then 1
  else if rangeOk x = false then 2
  else if Pl.nameOk x.de = false then 7
  else 0
theorem sumTo_take (l : List UInt8) : ∀ (m i : Nat), i ≤ m → sumTo (l.take m) i = sumTo l i := by
  intro m i
  induction i with
  | zero => intro _; rfl
  | succ i ih =>
    intro h
    rw [sumTo, sumTo, ih (by omega)]
    congr 2
    unfold dAt
    rw [List.getD_eq_getElem?_getD, List.getD_eq_getElem?_getD, List.getElem?_take, if_pos (by omega)]
/- ### The text. -/
/- ### What a text means. -/
end Fn
end Go.Proofs.YtocohkgdkebmdaaGreat
namespace Go.Proofs.YtocohkgdkebmdaaGreat
open Go.RowKit
def cellsW (p : WG) : List Value := [.string p.nu, .int .i64 p.len, .int .i64 p.ax, .int .i64 p.ms, .int .i64 p.br, .int .i64 p.gd, .bool p.gt, .string p.de]
def wgV (p : WG) : Value := .agg #[.string p.nu, .int .i64 p.len, .int .i64 p.ax, .int .i64 p.ms, .int .i64 p.br, .int .i64 p.gd, .bool p.gt, .string p.de]
def flatW (l : List WG) : List Value := l.flatMap cellsW
theorem flatW_cons (p : WG) (r : List WG) : flatW (p :: r) = cellsW p ++ flatW r := rfl
theorem flatW_len (l : List WG) : (flatW l).length = l.length * 8 := by
  induction l with
  | nil => rfl
  | cons p r ih => rw [flatW_cons]; simp only [List.length_append, List.length_cons, ih, cellsW, List.length_nil]; omega
theorem flatW_snoc (l : List WG) (p : WG) : flatW (l ++ [p]) = flatW l ++ cellsW p := by simp [flatW]
theorem flatW_at (l : List WG) : ∀ (i : Nat) (p : WG), l[i]? = some p → ∀ j u, (cellsW p)[j]? = some u → (flatW l)[i * 8 + j]? = some u := by
  induction l with
  | nil => intro i p h; simp at h
  | cons q r ih =>
    intro i p h j u hu
    have hj : j < 8 := (List.getElem?_eq_some_iff.1 hu).1
    cases i with
    | zero =>
      simp at h
      subst h
      rw [flatW_cons, Nat.zero_mul, Nat.zero_add, List.getElem?_append_left (by simpa [cellsW] using hj)]
      exact hu
    | succ i =>
      rw [flatW_cons, List.getElem?_append_right (by simp [cellsW]; omega)]
      have := ih i p (by simpa using h) j u hu
      rw [show (i + 1) * 8 + j - (cellsW q).length = i * 8 + j by simp [cellsW]; omega]
      exact this
/-- The slice (address A, n elements) reads as l. -/
def WR (w : World) (A : Option Addr) (n : Nat) (l : List WG) : Prop := Reads w w.heap.size 8 A n (flatW l)
/-- The cells of an element at an address, as the walk spells them. -/
def WAt (w : World) (ad : Addr) (p : WG) : Prop := w.cell? ad = some (.string p.nu) ∧ w.cell? ⟨ad.block, ad.off + 1, none⟩ = some (.int .i64 p.len) ∧ w.cell? ⟨ad.block, ad.off + 2, none⟩ = some (.int .i64 p.ax) ∧ w.cell? ⟨ad.block, ad.off + 3, none⟩ = some (.int .i64 p.ms) ∧ w.cell? ⟨ad.block, ad.off + 4, none⟩ = some (.int .i64 p.br) ∧ w.cell? ⟨ad.block, ad.off + 5, none⟩ = some (.int .i64 p.gd) ∧ w.cell? ⟨ad.block, ad.off + 6, none⟩ = some (.bool p.gt) ∧ w.cell? ⟨ad.block, ad.off + 7, none⟩ = some (.string p.de)
section
variable {w w' : World} {A : Option Addr} {n : Nat} {l : List WG}
theorem WR.len (h : WR w A n l) : l.length = n := by have := h.1; rw [flatW_len] at this; omega
theorem add_neW {ad : Addr} (j : Nat) (hj : j ≠ 0) : ad.add j = ⟨ad.block, ad.off + j, none⟩ := by simp [Addr.add, hj]
theorem WR.at_ (h : WR w A n l) {i : Nat} (hi : i < n) : ∃ ad p, A = some ad ∧ ad.block < w.heap.size ∧ l[i]? = some p ∧ WAt w (ad.add (i * 8)) p := by
  have hl := h.len
  obtain ⟨ad, e, hb, hc⟩ := h.2 (by omega)
  have hp : l[i]? = some l[i] := List.getElem?_eq_getElem (by omega)
  have key := fun j u hu => hc _ _ (flatW_at l i _ hp j u hu)
  have k0 := key 0 _ rfl
  rw [Nat.add_zero] at k0
  have kj : ∀ j, j ≠ 0 → ∀ u, (cellsW l[i])[j]? = some u → w.cell? ⟨(ad.add (i * 8)).block, (ad.add (i * 8)).off + j, none⟩ = some u := by
    intro j hj u hu
    have := key j u hu
    rw [← add_of_add, add_neW j hj] at this
    exact this
  exact ⟨ad, _, e, hb, hp, k0, kj 1 (by decide) _ rfl, kj 2 (by decide) _ rfl, kj 3 (by decide) _ rfl, kj 4 (by decide) _ rfl, kj 5 (by decide) _ rfl, kj 6 (by decide) _ rfl, kj 7 (by decide) _ rfl⟩
theorem WR.below (h : WR w A n l) (hb : Below w.heap.size w w') : WR w' A n l := (Reads.below h hb).more hb.size
theorem WR.nil_ : WR w A 0 [] := ⟨by simp [flatW], fun h => absurd h (by omega)⟩
end
theorem own_WR {w0 : World} {B e n c : Nat} {A : Option Addr} {l : List WG} (h : w0.ownsRow B e 8 (.slice A n c) n (flatW l)) : WR w0 A n l := Reads.of_own h
theorem ownW_len {w0 : World} {B e n : Nat} {v : Value} {l : List WG} (h : w0.ownsRow B e 8 v n (flatW l)) : l.length = n := by have := h.1; rw [flatW_len] at this; omega
end Go.Proofs.YtocohkgdkebmdaaGreat
