/- The program's reader of a sheet's line. -/
import Derived.Test.YtiegpkbollihgaaDoorReg3
import Derived.Test.YtiegpkbollihgaaDoorFnWag
import Derived.Test.YtiegpkbollihgaaDoorFnG4
import Derived.Test.YtiegpkbollihgaaDoorTxLen
import Derived.Deep.RegionLaw
import Derived.StillTailTactics
import Derived.Test.YtiegpkbollihgaaDoorRow
namespace Go.Proofs.YtiegpkbollihgaaDoor
open Go.RowKit
def Clo (md : Region.Mode) (ops : Array Oper) (L : Array Bool) : Prop := ∀ k o, ops[k]? = some o → L.getD k false = true → ∀ e, e ∈ o.after → Region.binds md e = true → L.getD e.on false = true
def cloB (md : Region.Mode) (ops : Array Oper) (L : Array Bool) : Bool := (List.range ops.size).all fun k => !(L.getD k false) || match ops[k]? with | some o => o.after.all fun e => !Region.binds md e || L.getD e.on false | none => true
theorem Clo.init {md : Region.Mode} {ops : Array Oper} {L : Array Bool} (h : cloB md ops L = true) : Clo md ops L := by
  intro k o ho hk e he hb
  have hlt : k < ops.size := (Array.getElem?_eq_some_iff.1 ho).1
  have h1 := List.all_eq_true.1 h k (List.mem_range.2 hlt)
  rw [hk, ho] at h1
  simp only [Bool.not_true, Bool.false_or] at h1
  have h2 := (Array.all_eq_true_iff_forall_mem.1 h1) e he
  rw [hb] at h2
  simpa using h2
theorem Clo.next {md : Region.Mode} {ops : Array Oper} {L : Array Bool} {i : Nat} (h : Clo md ops L) (hi : i ∈ Region.ready md ops L) : Clo md ops (L.setIfInBounds i true) := by
  intro k o ho hk e he hb
  by_cases hki : k = i
  · subst hki
    obtain ⟨_, o', ho', hall⟩ := mem_ready.1 hi
    rw [ho] at ho'
    obtain rfl := Option.some.inj ho'
    exact getD_set_true (hall e he hb)
  · rw [set_other (fun e => hki e.symm)] at hk
    exact getD_set_true (h k o ho hk e he hb)
theorem Clo.dep {md : Region.Mode} {ops : Array Oper} {L : Array Bool} {k : Nat} {o : Oper} (h : Clo md ops L) (ho : ops[k]? = some o) (hk : L.getD k false = true) (j : Nat) (hj : (o.after.any fun e => Region.binds md e && e.on == j) = true) : L.getD j false = true := by
  obtain ⟨e, he, h2⟩ := Array.any_eq_true'.1 hj
  simp only [Bool.and_eq_true, beq_iff_eq] at h2
  rw [← h2.2]
  exact h k o ho hk e he h2.1
theorem Clo.not {md : Region.Mode} {ops : Array Oper} {L : Array Bool} {k : Nat} {o : Oper} (h : Clo md ops L) (ho : ops[k]? = some o) (j : Nat) (hj : (o.after.any fun e => Region.binds md e && e.on == j) = true) (hn : L.getD j false = false) : L.getD k false = false := by
  cases hk : L.getD k false with
  | false => rfl
  | true => rw [h.dep ho hk j hj] at hn; cases hn
theorem wpAny_invC {P : Program} {md : Region.Mode} {ops : Array Oper} {Q : Exit → Act → World → Prop} (he : edgesDown md ops = true) (I : Array Bool → Act → World → Prop)
    (step : ∀ (i : Nat) (listed : Array Bool) (a : Act) (w : World), i ∈ Region.ready md ops listed → Clo md ops listed → I listed a w → wpOp P ops Q i (fun a' w' => I (listed.setIfInBounds i true) a' w') a w)
    (fin : ∀ (listed : Array Bool) (a : Act) (w : World), (∀ i, i < ops.size → listed.getD i false = true) → I listed a w → Q .normal a w)
    (fuel : Nat) (listed : Array Bool) (a : Act) (w : World) (hs : listed.size = ops.size) (hu : unl listed.toList ≤ fuel) (hc : cloB md ops listed = true) (h : I listed a w) : wpAny P md ops Q fuel listed a w :=
  wpAny_inv he (fun L a w => Clo md ops L ∧ I L a w) (fun i L a w hi h => wpOp_mono (fun _ _ h' => ⟨h.1.next hi, h'⟩) (step i L a w hi h.1 h.2)) (fun L a w hall h => fin L a w hall h.2) fuel listed a w hs hu ⟨Clo.init hc, h⟩
theorem RI.nextL {A : (Nat → Value) → Act} {T : Nat → Value → World → Prop} {G : Array Bool → World → Prop} {L : Array Bool} {i : Nat} {vs : Nat → Value} {W W' : World} {v : Value} {a' : Act} {K' : Act → World → Prop}
    (hK : Hid (∀ a w, RI A T G (L.setIfInBounds i true) a w → K' a w)) (HT : Hid (∀ k, L.getD k false = true → T k (vs k) W)) (st : ∀ k u, L.getD k false = true → T k u W → T k u W') (hG : G (L.setIfInBounds i true) W') (hv : T i v W') (ha : a' = A (upd vs i v)) : K' a' W' :=
  hK.out _ _ ⟨upd vs i v, ha, hG, fun k hk => by
    unfold upd
    by_cases e : k = i
    · subst e
      rw [if_pos rfl]
      exact hv
    · rw [if_neg e]
      rw [set_other (fun h => e h.symm)] at hk
      exact st k _ hk (HT.out k hk)⟩
/-- Two phases: an append (a) and a store (s). -/
structure PG (pure : List Nat) (a s : Nat) (P0 P2 : World → Prop) (L : Array Bool) (W : World) : Prop where
  pure : ∀ k, k ∈ pure → L.getD k false = true
  one : L.getD a false = false → P0 W
  two : L.getD s false = true → P2 W
section
variable {pure : List Nat} {a s : Nat} {P0 P2 : World → Prop} {L : Array Bool} {W W' : World}
theorem PG.same (h : PG pure a s P0 P2 L W) (i : Nat) (ha : i ≠ a) (hs : i ≠ s) : PG pure a s P0 P2 (L.setIfInBounds i true) W :=
  ⟨fun k hk => getD_set_true (h.pure k hk), fun hl => h.one (by rwa [set_other ha] at hl), fun hl => h.two (by rwa [set_other hs] at hl)⟩
theorem PG.step (h : PG pure a s P0 P2 L W) (i : Nat) (hs : i ≠ s) (hl : L.getD s false = false) (h0 : P0 W') : PG pure a s P0 P2 (L.setIfInBounds i true) W' :=
  ⟨fun k hk => getD_set_true (h.pure k hk), fun _ => h0, fun h2 => by rw [set_other hs, hl] at h2; cases h2⟩
theorem PG.mid (h : PG pure a s P0 P2 L W) (hlt : a < L.size) (hs : a ≠ s) (hl : L.getD s false = false) : PG pure a s P0 P2 (L.setIfInBounds a true) W' :=
  ⟨fun k hk => getD_set_true (h.pure k hk), fun h2 => (by rw [set_same hlt] at h2; cases h2), fun h2 => (by rw [set_other hs, hl] at h2; cases h2)⟩
theorem PG.last (h : PG pure a s P0 P2 L W) (ha : L.getD a false = true) (h2 : P2 W') : PG pure a s P0 P2 (L.setIfInBounds s true) W' :=
  ⟨fun k hk => getD_set_true (h.pure k hk), fun hl => (by rw [getD_set_true ha] at hl; cases hl), fun _ => h2⟩
theorem PG.init (h1 : pure.all (fun k => L.getD k false) = true) (h0 : P0 W) (hs : L.getD s false = false) : PG pure a s P0 P2 L W :=
  ⟨fun k hk => List.all_eq_true.1 h1 k hk, fun _ => h0, fun h => by rw [hs] at h; cases h⟩
end
theorem wp_pushc {P : Program} {W : World} {o : Oper} {a : Act} {K : Act → World → Prop} {Q : Exit → Act → World → Prop} {t e : TypeId} {size bytes : Nat} (S : SlT P t e size bytes)
    (s x : Operand) (ho : o.op = .call { callee := .builtin .append, args := #[s, x], argTypes := #[t, t] })
    (B : Nat) (v : Value) (n : Nat) (xs : List Value) (hs : a.eval s = v) (hown : W.ownsRow B e size v n xs)
    (g m c : Nat) (hx : a.eval x = .slice (some ⟨g, 0, none⟩) m c) (news : List Value) (hl : news.length = m * size) (hnews : ∀ j u, news[j]? = some u → W.cell? ((⟨g, 0, none⟩ : Addr).add j) = some u) (h1 : ∀ u ∈ news, u.oneCell' = true)
    (h63 : n + m ≤ maxLen) (hbytes : (n + m) * bytes ≤ 140737488355328) (hbase : B ≤ W.heap.size)
    (h : ∀ v' w', w'.ownsRow B e size v' (n + m) (xs ++ news) → Grew W v v' w' → K (a.put o.dst v') w') : Oper.wp P o a W K Q := by
  obtain ⟨i, z, hi, hz, hsize, hby, hzs⟩ := S.info
  obtain ⟨v', w', hrun, h2, h3, _, h5⟩ := run_append_own_at (P := P) W B t o.type e i z size bytes S.under hi hz hsize hby hzs S.pos v n xs hown ⟨g, 0, none⟩ m c news hl hnews h1 h63 hbytes hbase
  unfold Oper.wp execOp
  simp only [ho, resolve, invoke, builtin, Sem.run_bind, Sem.run_pure, Result.andThen_ok, List.map_toArray, List.map_cons, List.map_nil, hs, hx, hrun]
  refine h v' w' h2 ⟨h3, ?_⟩
  rcases h5 with h5 | h5
  · exact .inl h5
  · exact .inr ⟨_, h5, Nat.le_refl _⟩
end Go.Proofs.YtiegpkbollihgaaDoor
namespace Go.Proofs.YtiegpkbollihgaaDoor
open Go.RowKit
theorem sl24 : SlT Tryd.prog 26 39 3 24 := slT_of (z := .agg #[.int .i64 0, .int .i64 0, .int .i64 0]) Tryd.underlying26 (by kernel_rfl) (by rfl) (by omega)
theorem step_pushb {P : Program} {w0 : World} {e' : TypeId} {cs : Array Value} {ops : Array Oper} {o : Oper} {a : Act} {K : Act → World → Prop} {Q : Exit → Act → World → Prop} {E : Prop} {t e : TypeId} {size bytes : Nat} (S : SlT P t e size bytes)
    (hgd : o.guard = none) (s x : Operand) (ho : o.op = .call { callee := .builtin .append, args := #[s, x], argTypes := #[t, t] })
    (B : Nat) (v : Value) (n : Nat) (xs : List Value) (hs : a.eval s = v) (hown : w0.ownsRow B e size v n xs)
    (m c : Nat) (bk : Nat) (hbk : bk = w0.heap.size) (hx : a.eval x = .slice (some ⟨bk, 0, none⟩) m c) (hl : cs.size = m * size) (h1 : cs.toList.all (·.oneCell') = true)
    (h63 : n + m ≤ maxLen) (hbytes : (n + m) * bytes ≤ 140737488355328) (hbase : B ≤ w0.heap.size)
    (h : ∀ v' w', w'.ownsRow B e size v' (n + m) (xs ++ cs.toList) → Grew w0 v v' w' → K (a.put o.dst v') w') : if Region.wanted o (yielded ops a.tmps) = true then Oper.wp P o a (w0.alloc (.cells cs e')) K Q else E := by
  subst hbk
  have hw : Region.wanted o (yielded ops a.tmps) = true := by simp [Region.wanted, hgd]
  rw [if_pos hw]
  obtain ⟨i, z, hi, hz, hsize, hby, hzs⟩ := S.info
  obtain ⟨v', w', hrun, h2, h3, _, h5⟩ := run_append_own_at (P := P) (w0.alloc (.cells cs e')) B t o.type e i z size bytes S.under hi hz hsize hby hzs S.pos v n xs (hown.alloc _) ⟨w0.heap.size, 0, none⟩ m c cs.toList (by simpa using hl)
    (cell_new_row w0 cs e') (fun u hu => List.all_eq_true.1 h1 u hu) h63 hbytes (by simp; omega)
  unfold Oper.wp execOp
  simp only [ho, resolve, invoke, builtin, Sem.run_bind, Sem.run_pure, Result.andThen_ok, List.map_toArray, List.map_cons, List.map_nil, hs, hx, hrun]
  refine h v' w' h2 ⟨(World.grownBy_alloc w0 _ v.ownBlock).trans h3, ?_⟩
  rcases h5 with h5 | h5
  · exact .inl h5
  · exact .inr ⟨_, h5, by simp⟩
theorem below_todrew {B : Nat} {a w : World} (h : Below B a w) : Below B a w.drew := ⟨h.os, h.tape, h.output, h.size, h.block⟩
theorem SlN.grownO {W W' : World} {N n : Nat} {ob : Option Nat} {v : Value} {l : List Int} (h : SlN W N n v l) (hg : W.grownBy W' ob) (hN : ∀ g, ob = some g → g < N) : SlN W' N n v l := by
  obtain ⟨b, h1, h2, h3⟩ := h
  exact ⟨b, h1, h2, h3.keepb hg.size fun i hb => World.cell?_of_block (hg.block b hb (fun e => by have := hN b (by first | exact e | exact e.symm); omega))⟩
/-- A reader: its block and the two rows. -/
def RdP (B rb : Nat) (r : Fn.RS) (W : World) : Prop := ∃ (vW vS : Value) (b0 b1 b2 b3 b4 b5 b6 : Int), Blk W rb 65 #[.string r.f.nm, vW, .int .i64 b0, .int .i64 b1, .int .i64 b2, .int .i64 b3, .int .i64 b4, .int .i64 b5, .int .i64 b6, vS, .int .i64 (r.part : Int), .int .i64 r.ck] ∧ W.ownsRow B 34 8 vW r.f.ws.length (flatW r.f.ws) ∧ W.ownsRow B 39 3 vS r.f.so.length (flatS r.f.so) ∧ r.f.bk = [b0, b1, b2, b3, b4, b5, b6] ∧ B ≤ rb
def TakeR (B rb : Nat) (p : List UInt8) (r : Fn.RS) (W : World) (e : Ending) (W' : World) : Prop := (match Fn.take r (Tx.cutAt 32 p) with
  | none => e = .returned (.bool false)
  | some r' => e = .returned (.bool true) ∧ RdP B rb r' W') ∧ Below B W W'
theorem takeR_no {B rb : Nat} {p : List UInt8} {r : Fn.RS} {W W' : World} (h : Fn.take r (Tx.cutAt 32 p) = none) (hb : Below B W W') : TakeR B rb p r W (.returned (.bool false)) W' := by
  unfold TakeR; rw [h]; exact ⟨rfl, hb⟩
theorem takeR_ok {B rb : Nat} {p : List UInt8} {r r' : Fn.RS} {W W' : World} (h : Fn.take r (Tx.cutAt 32 p) = some r') (hr : RdP B rb r' W') (hb : Below B W W') : TakeR B rb p r W (.returned (.bool true)) W' := by
  unfold TakeR; rw [h]; exact ⟨⟨rfl, hr⟩, hb⟩
namespace Fn
variable {r : RS} {w : List (List UInt8)}
theorem take_train (h0 : r.part = 0) (h1 : wd w 0 = wTrain) (h2 : w.length = 2) (h3 : plainW (wd w 1) = true) : take r w = some { r with part := 1, f := { r.f with nm := baOf (wd w 1) } } := by
  unfold take; rw [if_pos ⟨h0, h1, h2, h3⟩]
theorem take_no0 (h0 : r.part = 0) (h : ¬ (wd w 0 = wTrain ∧ w.length = 2 ∧ plainW (wd w 1) = true)) : take r w = none := by
  unfold take
  rw [if_neg (fun e => h e.2), if_neg (by rw [h0]; rintro ⟨e, _⟩; cases e), if_neg (by rw [h0]; rintro ⟨e, _⟩; cases e), if_neg (by rw [h0]; rintro ⟨e, _⟩; cases e), if_neg (by rw [h0]; rintro ⟨e, _⟩; cases e)]
theorem take_wag (h0 : r.part = 1) (h1 : wd w 0 = wWagon) : take r w = match wagonB w with
    | none => none
    | some x => some { r with f := { r.f with ws := r.f.ws ++ [x] } } := by
  unfold take; rw [if_neg (by rw [h0]; rintro ⟨e, _⟩; cases e), if_pos ⟨h0, h1⟩]; rfl
theorem take_brk (h0 : r.part = 1) (h1 : wd w 0 = wBrakes) (h2 : w.length = 8) : take r w = match ints (w.drop 1) with
    | none => none
    | some l => some { r with part := 2, f := { r.f with bk := l } } := by
  unfold take; rw [if_neg (by rw [h0]; rintro ⟨e, _⟩; cases e), if_neg (by rw [h1]; rintro ⟨_, e⟩; exact absurd e (by decide)), if_pos ⟨h0, h1, h2⟩]; rfl
theorem take_no1 (h0 : r.part = 1) (h1 : wd w 0 ≠ wWagon) (h : ¬ (wd w 0 = wBrakes ∧ w.length = 8)) : take r w = none := by
  unfold take
  rw [if_neg (by rw [h0]; rintro ⟨e, _⟩; cases e), if_neg (fun e => h1 e.2), if_neg (fun e => h e.2), if_neg (by rw [h0]; rintro ⟨e, _⟩; cases e), if_neg (by rw [h0]; rintro ⟨e, _⟩; cases e)]
theorem take_set (h0 : r.part = 2) (h1 : wd w 0 = wSetout) (h2 : w.length = 4) : take r w = match ints (w.drop 1) with
    | none => none
    | some l => some { r with f := { r.f with so := r.f.so ++ [⟨iAt l 0, iAt l 1, iAt l 2⟩] } } := by
  unfold take; rw [if_neg (by rw [h0]; rintro ⟨e, _⟩; cases e), if_neg (by rw [h0]; rintro ⟨e, _⟩; cases e), if_neg (by rw [h0]; rintro ⟨e, _⟩; cases e), if_pos ⟨h0, h1, h2⟩]; rfl
theorem take_endl (h0 : r.part = 2) (h1 : wd w 0 = wEnd) (h2 : w.length = 2) : take r w = match ints (w.drop 1) with
    | none => none
    | some l => some { r with part := 3, ck := iAt l 0 } := by
  unfold take; rw [if_neg (by rw [h0]; rintro ⟨e, _⟩; cases e), if_neg (by rw [h0]; rintro ⟨e, _⟩; cases e), if_neg (by rw [h0]; rintro ⟨e, _⟩; cases e), if_neg (by rw [h1]; rintro ⟨_, e, _⟩; exact absurd e (by decide)), if_pos ⟨h0, h1, h2⟩]; rfl
theorem take_no2 (h0 : r.part = 2) (h1 : ¬ (wd w 0 = wSetout ∧ w.length = 4)) (h : ¬ (wd w 0 = wEnd ∧ w.length = 2)) : take r w = none := by
  unfold take
  rw [if_neg (by rw [h0]; rintro ⟨e, _⟩; cases e), if_neg (by rw [h0]; rintro ⟨e, _⟩; cases e), if_neg (by rw [h0]; rintro ⟨e, _⟩; cases e), if_neg (fun e => h1 e.2), if_neg (fun e => h e.2)]
theorem take_no3 (h0 : r.part ≠ 0) (h1 : r.part ≠ 1) (h2 : r.part ≠ 2) : take r w = none := by
  unfold take
  rw [if_neg (fun e => h0 e.1), if_neg (fun e => h1 e.1), if_neg (fun e => h1 e.1), if_neg (fun e => h2 e.1), if_neg (fun e => h2 e.1)]
end Fn
theorem all_no (A : Option Addr) (n c k : Nat) (w : World) (h : n ≠ k) :
    Calls Tryd.prog 49 #[.slice A n c, .int .i64 (k : Int)] w fun e w' => e = .returned (.tuple #[.slice none 0 0, .bool false]) ∧ w = w' := by
  have d0 : ((n : Int) != (k : Int)) = true := by simp; omega
  go_enter Tryd.func49, Tryd.ntmps49
  go_wp2_with fail
  go_ret2
  exact ⟨rfl, rfl⟩
theorem own_farB {W : World} {B e size n rb j : Nat} {v : Value} {xs : List Value} {cs : Array Value} {t : TypeId} (h : W.ownsRow B e size v n xs) (hX : Blk W rb t cs) (hne : e ≠ t) (u : Value) : (W.setCell ⟨rb, j, none⟩ u).ownsRow B e size v n xs := own_set_other h (own_blk_ne h hX hne) u
end Go.Proofs.YtiegpkbollihgaaDoor
namespace Go.Proofs.YtiegpkbollihgaaDoor
open Go.RowKit
set_option maxRecDepth 100000 in
set_option maxHeartbeats 16000000 in
theorem take_A (B rb : Nat) (p : List UInt8) (r : Fn.RS) (mm : Int) (W : World) (h : RdP B rb r W) (hB : B ≤ W.heap.size) (hp : p.length ≤ 20000) (hm : W.cell? ⟨0, 0, none⟩ = some (.int .i64 mm)) (h0 : r.part = 0) :
    Calls Tryd.prog 30 #[.pointer (some ⟨rb, 0, none⟩), .string (baOf p)] W (TakeR B rb p r W) := by
  have hbz : (baOf p).size = p.length := by simp [baOf, ByteArray.size]
  have HSp := Lib.hid (split_c 32 (baOf p) mm W (by rw [hbz]; omega) hm)
  obtain ⟨vW, vS, b0, b1, b2, b3, b4, b5, b6, hX0, oW0, oS0, hbk, hBrb⟩ := h
  have Hbk := Lib.hid hbk
  have Hwz := Lib.hid (fun q (hq : q ∈ Tx.cutAt 32 p) => Tx.pieceLen 32 p q hq)
  clear hbk
  go_enter Tryd.func30, Tryd.ntmps30
  go_wp2_with fail
  refine HSp.out.mono ?_
  rintro e w1 ⟨L', n, hL, hnl, hn1, hn2, rfl, hw1⟩
  rw [baOf_data] at hL
  obtain ⟨Ws, hWs⟩ : ∃ Ws, Tx.cutAt 32 p = Ws := ⟨_, rfl⟩
  have HWs := Lib.hid hWs
  rw [hWs] at hL Hwz
  rw [hbz] at hn2
  have hlW : Ws.length = n := by rw [← hnl, hL, List.length_map]
  have hX : Blk w1 rb 65 #[.string r.f.nm, vW, .int .i64 b0, .int .i64 b1, .int .i64 b2, .int .i64 b3, .int .i64 b4, .int .i64 b5, .int .i64 b6, vS, .int .i64 (r.part : Int), .int .i64 r.ck] := by rw [hw1]; exact hX0.alloc _
  have oW := oW0.alloc (.cells (L'.map Value.string).toArray 9)
  have oS := oS0.alloc (.cells (L'.map Value.string).toArray 9)
  have hb1 : Below B W w1 := by rw [hw1]; exact (Below.refl _ _).alloc hB _
  have hS : StrR w1 (some ⟨W.heap.size, 0, none⟩) n Ws := by
    rw [hw1]
    refine StrR.own (B := 0) (c := n) ?_
    have := World.ownsRow_lit (base := 0) (e := 9) (size := 1) W (L'.map Value.string).toArray n (Nat.zero_le _) (by unfold maxLen; omega) (by simp; omega)
    rw [hL]
    rw [hL] at this
    simpa using this
  rw [← hw1] at oW oS
  have hz : ∀ j, (Fn.wd Ws j).length ≤ 20000 := fun j => by
    unfold Fn.wd
    rw [List.getD_eq_getElem?_getD]
    cases hq : Ws[j]? with
    | none => exact Nat.zero_le _
    | some q => have := Hwz.out q (List.mem_of_getElem? hq); simp only [Option.getD_some]; omega
  have Hz := Lib.hid hz
  have HlW := Lib.hid hlW
  obtain ⟨ad0, e0, _, hcc⟩ := hS.2 (by omega)
  obtain rfl := Option.some.inj e0
  have c0 : w1.cell? ⟨W.heap.size, 0, none⟩ = some (.string (baOf (Fn.wd Ws 0))) := hcc 0 (by omega)
  have HC1 : Hid (1 < n → w1.cell? ⟨W.heap.size, 1, none⟩ = some (.string (baOf (Fn.wd Ws 1)))) := Lib.hid (fun h => hcc 1 h)
  have HS := Lib.hid hS
  have hle1 := hb1.size
  have hn0i : (0 : Int) < (n : Int) := by omega
  obtain ⟨bt, hbt⟩ : ∃ b, decide (Fn.wd Ws 0 = Fn.wTrain) = b := ⟨_, rfl⟩
  obtain ⟨bw, hbw⟩ : ∃ b, decide (Fn.wd Ws 0 = Fn.wWagon) = b := ⟨_, rfl⟩
  obtain ⟨bb, hbb⟩ : ∃ b, decide (Fn.wd Ws 0 = Fn.wBrakes) = b := ⟨_, rfl⟩
  obtain ⟨bs, hbs⟩ : ∃ b, decide (Fn.wd Ws 0 = Fn.wSetout) = b := ⟨_, rfl⟩
  obtain ⟨be, hbe⟩ : ∃ b, decide (Fn.wd Ws 0 = Fn.wEnd) = b := ⟨_, rfl⟩
  obtain ⟨s0, hs0⟩ : ∃ s, baOf (Fn.wd Ws 0) = s := ⟨_, rfl⟩
  have et : (s0.toList == [116, 114, 97, 105, 110]) = bt := by rw [← hs0, ba_eqW]; exact hbt
  have ew : (s0.toList == [119, 97, 103, 111, 110]) = bw := by rw [← hs0, ba_eqW]; exact hbw
  have eb : (s0.toList == [98, 114, 97, 107, 101, 115]) = bb := by rw [← hs0, ba_eqW]; exact hbb
  have es : (s0.toList == [115, 101, 116, 111, 117, 116]) = bs := by rw [← hs0, ba_eqW]; exact hbs
  have ee : (s0.toList == [101, 110, 100]) = be := by rw [← hs0, ba_eqW]; exact hbe
  rw [hs0] at c0
  have Hbt := Lib.hid hbt
  have Hbw := Lib.hid hbw
  have Hbb := Lib.hid hbb
  have Hbs := Lib.hid hbs
  have Hbe := Lib.hid hbe
  have x10 : w1.cell? ⟨rb, 10, none⟩ = some (.int .i64 (r.part : Int)) := hX.cell 10
  have Htk : Hid (∀ e W', (Fn.take r Ws = none → e = .returned (.bool false) → Below B W W' → TakeR B rb p r W e W') ∧ (∀ r', Fn.take r Ws = some r' → e = .returned (.bool true) → RdP B rb r' W' → Below B W W' → TakeR B rb p r W e W')) := Lib.hid (fun e W' => ⟨fun h1 h2 h3 => by subst h2; exact takeR_no (by rw [HWs.out]; exact h1) h3, fun r' h1 h2 h3 h4 => by subst h2; exact takeR_ok (by rw [HWs.out]; exact h1) h3 h4⟩)
  clear hbt hbw hbb hbs hbe hs0 hcc e0 hWs hL hnl hw1 hX0 oW0 oS0 hz hlW hS HSp HWs hbz Hwz
  have e0 : ((r.part : Int) == 0) = true := by simp; omega
  have e1 : ((r.part : Int) == 1) = false := by simp; omega
  have e2 : ((r.part : Int) == 2) = false := by simp; omega
  cases bt with
  | false =>
    have HN := Lib.hid (Fn.take_no0 h0 (fun e => of_decide_eq_false Hbt.out e.1))
    clear h0
    go_wp2_with fail
    go_ret
    exact (Htk.out _ _).1 HN.out rfl hb1
  | true =>
    by_cases h2 : n = 2
    case neg =>
      have d2 : ((n : Int) == 2) = false := by simp; omega
      have HN := Lib.hid (Fn.take_no0 h0 (fun e => h2 (by rw [← HlW.out]; exact e.2.1)))
      clear h0 h2
      go_wp2_with fail
      go_ret
      exact (Htk.out _ _).1 HN.out rfl hb1
    case pos =>
      have d2 : ((n : Int) == 2) = true := by simp; omega
      have h1i : (1 : Int) < (n : Int) := by omega
      have c1 := HC1.out (by omega)
      obtain ⟨p1, hp1⟩ : ∃ b, Fn.plainW (Fn.wd Ws 1) = b := ⟨_, rfl⟩
      have HP1 : Hid (∀ V, Calls Tryd.prog 47 #[.string (baOf (Fn.wd Ws 1))] V fun e w' => e = .returned (.bool p1) ∧ V = w') := Lib.hid (fun V => by
        have := plain_c (baOf (Fn.wd Ws 1)) V (by have := Hz.out 1; rw [show (baOf (Fn.wd Ws 1)).size = (Fn.wd Ws 1).length by simp [baOf, ByteArray.size]]; unfold maxLen; omega)
        rwa [baOf_data, hp1] at this)
      have Hp1 := Lib.hid hp1
      clear hp1
      cases p1 with
      | false =>
        have HN := Lib.hid (Fn.take_no0 (w := Ws) h0 (fun e => by have := Hp1.out; rw [e.2.2] at this; cases this))
        clear h0 h2
        go_wp2_with fail
        refine (HP1.out _).mono ?_
        rintro e w2 ⟨rfl, rfl⟩
        go_wp2_with fail
        go_ret
        exact (Htk.out _ _).1 HN.out rfl hb1
      | true =>
        have HN := Lib.hid (Fn.take_train h0 (of_decide_eq_true Hbt.out) (by rw [HlW.out]; exact h2) Hp1.out)
        obtain ⟨s1, hs1⟩ : ∃ s, baOf (Fn.wd Ws 1) = s := ⟨_, rfl⟩
        rw [hs1] at HN HP1 c1
        have f0 := hX.frozen 0
        have f10 := hX.frozen 10
        have y0 : w1.cell? ⟨rb, 0, none⟩ = some (.string r.f.nm) := hX.cell 0
        have oW2 := own_farB (j := 0) oW hX (by decide) (.string s1)
        have oS2 := own_farB (j := 0) oS hX (by decide) (.string s1)
        have hX2 := hX.set_ 0 (.string s1)
        have oW3 := own_farB (j := 10) oW2 hX2 (by decide) (.int .i64 1)
        have oS3 := own_farB (j := 10) oS2 hX2 (by decide) (.int .i64 1)
        have hX3 := hX2.set_ 10 (.int .i64 1)
        have hb3 := (hb1.setCell (p := ⟨rb, 0, none⟩) hBrb (.string s1)).setCell (p := ⟨rb, 10, none⟩) hBrb (.int .i64 1)
        have HQ : Hid (RdP B rb ⟨1, ⟨s1, r.f.ws, r.f.bk, r.f.so⟩, r.ck⟩ ((w1.setCell ⟨rb, 0, none⟩ (.string s1)).setCell ⟨rb, 10, none⟩ (.int .i64 1))) := Lib.hid ⟨vW, vS, b0, b1, b2, b3, b4, b5, b6, hX3, oW3, oS3, Hbk.out, hBrb⟩
        have Hb3 := Lib.hid hb3
        have f10b := hX2.frozen 10
        have y10b := hX2.cell 10
        clear h0 h2 hs1 oW2 oS2 hX2 oW3 oS3 hX3 hb3
        go_wp2_with fail
        refine (HP1.out _).mono ?_
        rintro e w2 ⟨rfl, rfl⟩
        go_wp2_with fail
        go_ret
        exact (Htk.out _ _).2 _ HN.out rfl HQ.out Hb3.out
end Go.Proofs.YtiegpkbollihgaaDoor
namespace Go.Proofs.YtiegpkbollihgaaDoor
open Go.RowKit
set_option maxRecDepth 100000 in
set_option maxHeartbeats 16000000 in
theorem take_B (B rb : Nat) (p : List UInt8) (r : Fn.RS) (mm : Int) (W : World) (h : RdP B rb r W) (hB : B ≤ W.heap.size) (hp : p.length ≤ 20000) (hws : r.f.ws.length ≤ 20000) (hm : W.cell? ⟨0, 0, none⟩ = some (.int .i64 mm)) (h1 : r.part = 1) (hw : Fn.wd (Tx.cutAt 32 p) 0 = Fn.wWagon) :
    Calls Tryd.prog 30 #[.pointer (some ⟨rb, 0, none⟩), .string (baOf p)] W (TakeR B rb p r W) := by
  have hbz : (baOf p).size = p.length := by simp [baOf, ByteArray.size]
  have HSp := Lib.hid (split_c 32 (baOf p) mm W (by rw [hbz]; omega) hm)
  obtain ⟨vW, vS, b0, b1, b2, b3, b4, b5, b6, hX0, oW0, oS0, hbk, hBrb⟩ := h
  have Hbk := Lib.hid hbk
  have Hwz := Lib.hid (fun q (hq : q ∈ Tx.cutAt 32 p) => Tx.pieceLen 32 p q hq)
  clear hbk
  go_enter Tryd.func30, Tryd.ntmps30
  go_wp2_with fail
  refine HSp.out.mono ?_
  rintro e w1 ⟨L', n, hL, hnl, hn1, hn2, rfl, hw1⟩
  rw [baOf_data] at hL
  obtain ⟨Ws, hWs⟩ : ∃ Ws, Tx.cutAt 32 p = Ws := ⟨_, rfl⟩
  have HWs := Lib.hid hWs
  rw [hWs] at hL Hwz hw
  rw [hbz] at hn2
  have hlW : Ws.length = n := by rw [← hnl, hL, List.length_map]
  have hX : Blk w1 rb 65 #[.string r.f.nm, vW, .int .i64 b0, .int .i64 b1, .int .i64 b2, .int .i64 b3, .int .i64 b4, .int .i64 b5, .int .i64 b6, vS, .int .i64 (r.part : Int), .int .i64 r.ck] := by rw [hw1]; exact hX0.alloc _
  have oW := oW0.alloc (.cells (L'.map Value.string).toArray 9)
  have oS := oS0.alloc (.cells (L'.map Value.string).toArray 9)
  have hb1 : Below B W w1 := by rw [hw1]; exact (Below.refl _ _).alloc hB _
  have hS : StrR w1 (some ⟨W.heap.size, 0, none⟩) n Ws := by
    rw [hw1]
    refine StrR.own (B := 0) (c := n) ?_
    have := World.ownsRow_lit (base := 0) (e := 9) (size := 1) W (L'.map Value.string).toArray n (Nat.zero_le _) (by unfold maxLen; omega) (by simp; omega)
    rw [hL]
    rw [hL] at this
    simpa using this
  rw [← hw1] at oW oS
  have hz : ∀ j, (Fn.wd Ws j).length ≤ 20000 := fun j => by
    unfold Fn.wd
    rw [List.getD_eq_getElem?_getD]
    cases hq : Ws[j]? with
    | none => exact Nat.zero_le _
    | some q => have := Hwz.out q (List.mem_of_getElem? hq); simp only [Option.getD_some]; omega
  have Hz := Lib.hid hz
  have HlW := Lib.hid hlW
  obtain ⟨ad0, e0, _, hcc⟩ := hS.2 (by omega)
  obtain rfl := Option.some.inj e0
  have c0 : w1.cell? ⟨W.heap.size, 0, none⟩ = some (.string (baOf (Fn.wd Ws 0))) := hcc 0 (by omega)
  have HC1 : Hid (1 < n → w1.cell? ⟨W.heap.size, 1, none⟩ = some (.string (baOf (Fn.wd Ws 1)))) := Lib.hid (fun h => hcc 1 h)
  have HS := Lib.hid hS
  have hle1 := hb1.size
  have hn0i : (0 : Int) < (n : Int) := by omega
  obtain ⟨bt, hbt⟩ : ∃ b, decide (Fn.wd Ws 0 = Fn.wTrain) = b := ⟨_, rfl⟩
  obtain ⟨bw, hbw⟩ : ∃ b, decide (Fn.wd Ws 0 = Fn.wWagon) = b := ⟨_, rfl⟩
  obtain ⟨bb, hbb⟩ : ∃ b, decide (Fn.wd Ws 0 = Fn.wBrakes) = b := ⟨_, rfl⟩
  obtain ⟨bs, hbs⟩ : ∃ b, decide (Fn.wd Ws 0 = Fn.wSetout) = b := ⟨_, rfl⟩
  obtain ⟨be, hbe⟩ : ∃ b, decide (Fn.wd Ws 0 = Fn.wEnd) = b := ⟨_, rfl⟩
  obtain ⟨s0, hs0⟩ : ∃ s, baOf (Fn.wd Ws 0) = s := ⟨_, rfl⟩
  have et : (s0.toList == [116, 114, 97, 105, 110]) = bt := by rw [← hs0, ba_eqW]; exact hbt
  have ew : (s0.toList == [119, 97, 103, 111, 110]) = bw := by rw [← hs0, ba_eqW]; exact hbw
  have eb : (s0.toList == [98, 114, 97, 107, 101, 115]) = bb := by rw [← hs0, ba_eqW]; exact hbb
  have es : (s0.toList == [115, 101, 116, 111, 117, 116]) = bs := by rw [← hs0, ba_eqW]; exact hbs
  have ee : (s0.toList == [101, 110, 100]) = be := by rw [← hs0, ba_eqW]; exact hbe
  rw [hs0] at c0
  have Hbt := Lib.hid hbt
  have Hbw := Lib.hid hbw
  have Hbb := Lib.hid hbb
  have Hbs := Lib.hid hbs
  have Hbe := Lib.hid hbe
  have x10 : w1.cell? ⟨rb, 10, none⟩ = some (.int .i64 (r.part : Int)) := hX.cell 10
  have Htk : Hid (∀ e W', (Fn.take r Ws = none → e = .returned (.bool false) → Below B W W' → TakeR B rb p r W e W') ∧ (∀ r', Fn.take r Ws = some r' → e = .returned (.bool true) → RdP B rb r' W' → Below B W W' → TakeR B rb p r W e W')) := Lib.hid (fun e W' => ⟨fun h1 h2 h3 => by subst h2; exact takeR_no (by rw [HWs.out]; exact h1) h3, fun r' h1 h2 h3 h4 => by subst h2; exact takeR_ok (by rw [HWs.out]; exact h1) h3 h4⟩)
  clear hbt hbw hbb hbs hbe hs0 hcc e0 hWs hL hnl hw1 hX0 oW0 oS0 hz hlW hS HSp HWs hbz Hwz
  have e0 : ((r.part : Int) == 0) = false := by simp; omega
  have e1 : ((r.part : Int) == 1) = true := by simp; omega
  have e2 : ((r.part : Int) == 2) = false := by simp; omega
  cases bw with
  | true =>
    have Hd := Lib.hid (Fn.take_wag h1 (of_decide_eq_true Hbw.out))
    clear h1
    have HF := Lib.hid (fwagon_c W.heap.size n n Ws w1 (Nat.le_refl _) (by unfold maxLen; omega) HS.out (fun j => by have := Hz.out j; omega))
    go_wp2_with fail
    refine HF.out.mono ?_
    rintro e w2 ⟨x, ok, rfl, hq, hb2⟩
    have hX2 := hX.below hb2 hX.lt
    have oW2 := own_below oW hb2
    have oS2 := own_below oS hb2
    have hb2' := hb1.trans (hb2.mono (Nat.le_trans hB hb1.size))
    obtain ⟨w3, hw3⟩ : ∃ w3, w2.alloc (.cells #[.string x.nu, .int .i64 x.len, .int .i64 x.ax, .int .i64 x.ms, .int .i64 x.br, .int .i64 x.gd, .bool x.gt, .string x.de] 34) = w3 := ⟨_, rfl⟩
    have hX3 : Blk w3 rb 65 #[.string r.f.nm, vW, .int .i64 b0, .int .i64 b1, .int .i64 b2, .int .i64 b3, .int .i64 b4, .int .i64 b5, .int .i64 b6, vS, .int .i64 (r.part : Int), .int .i64 r.ck] := by rw [← hw3]; exact hX2.alloc _
    have hY3 : Blk w3 w2.heap.size 34 #[.string x.nu, .int .i64 x.len, .int .i64 x.ax, .int .i64 x.ms, .int .i64 x.br, .int .i64 x.gd, .bool x.gt, .string x.de] := by rw [← hw3]; exact Blk.new w2 _ _
    have oW3 : w3.ownsRow B 34 8 vW r.f.ws.length (flatW r.f.ws) := by rw [← hw3]; exact oW2.alloc _
    have oS3 : w3.ownsRow B 39 3 vS r.f.so.length (flatS r.f.so) := by rw [← hw3]; exact oS2.alloc _
    have hb3 : Below B W w3 := by rw [← hw3]; exact hb2'.alloc (Nat.le_trans hB hb2'.size) _
    obtain ⟨Aw, cw, rfl, hcw1, hcw2⟩ := own_form oW3
    have y1 : w3.cell? ⟨rb, 1, none⟩ = some (.slice Aw r.f.ws.length cw) := hX3.cell 1
    have v0 : w3.cell? ⟨w2.heap.size, 0, none⟩ = some (.string x.nu) := hY3.cell 0
    have v1 : w3.cell? ⟨w2.heap.size, 1, none⟩ = some (.int .i64 x.len) := hY3.cell 1
    have v2 : w3.cell? ⟨w2.heap.size, 2, none⟩ = some (.int .i64 x.ax) := hY3.cell 2
    have v3 : w3.cell? ⟨w2.heap.size, 3, none⟩ = some (.int .i64 x.ms) := hY3.cell 3
    have v4 : w3.cell? ⟨w2.heap.size, 4, none⟩ = some (.int .i64 x.br) := hY3.cell 4
    have v5 : w3.cell? ⟨w2.heap.size, 5, none⟩ = some (.int .i64 x.gd) := hY3.cell 5
    have v6 : w3.cell? ⟨w2.heap.size, 6, none⟩ = some (.bool x.gt) := hY3.cell 6
    have v7 : w3.cell? ⟨w2.heap.size, 7, none⟩ = some (.string x.de) := hY3.cell 7
    have y1a := cell_alloc y1 (.cells #[.string x.nu, .int .i64 x.len, .int .i64 x.ax, .int .i64 x.ms, .int .i64 x.br, .int .i64 x.gd, .bool x.gt, .string x.de] 34)
    have h63 : r.f.ws.length + 1 ≤ maxLen := by unfold maxLen; omega
    have h80 : (r.f.ws.length + 1) * 80 ≤ 140737488355328 := by omega
    have oW3d := own_drew oW3
    have hB3 : B ≤ w3.drew.heap.size := Nat.le_trans hB hb3.size
    have hX3d : Blk w3.drew rb 65 #[.string r.f.nm, (.slice Aw r.f.ws.length cw), .int .i64 b0, .int .i64 b1, .int .i64 b2, .int .i64 b3, .int .i64 b4, .int .i64 b5, .int .i64 b6, vS, .int .i64 (r.part : Int), .int .i64 r.ck] := hX3
    have hap : apart (.slice Aw r.f.ws.length cw) vS := own_ne_type oW3 oS3 (by decide)
    have hnrb : (Value.slice Aw r.f.ws.length cw).ownBlock ≠ some rb := own_blk_ne oW3 hX3 (by decide)
    clear HF hX2 oW2 oS2 hb2 hb2'
    unfold wgV
    go_wp2_with fail
    go_region_law (refine step_pushb sl80 (by rfl) (.tmp 71) (.tmp 73) (by rfl) B (.slice Aw r.f.ws.length cw) r.f.ws.length (flatW r.f.ws) (by rfl) oW3d 1 1 w3.drew.heap.size rfl (by rfl) (by rfl) (by rfl) h63 h80 hB3 ?_
                   intro v' w9 own9 hgr
                   obtain ⟨A9, c9, rfl, hc91, hc92⟩ := own_form own9
                   have hX9 := hX3d.grown hgr.grown (fun e => hnrb e.symm)
                   have y1' : w9.cell? ⟨rb, 1, none⟩ = some (.slice Aw r.f.ws.length cw) := hX9.cell 1
                   have f1' : w9.frozen? ⟨rb, 1, none⟩ = false := hX9.frozen 1)
    all_goals
      have oS9 := hgr.keep (own_drew oS3) (apart.symm hap)
      have hb9 : Below B W w9 := hb3.trans (below_drew' (hgr.below (own_ge oW3d) hB3))
      have oW10 := own_farB (j := 1) own9 hX9 (by decide) (.slice A9 (r.f.ws.length + 1) c9)
      have oS10 := own_farB (j := 1) oS9 hX9 (by decide) (.slice A9 (r.f.ws.length + 1) c9)
      have hX10 := hX9.set_ 1 (.slice A9 (r.f.ws.length + 1) c9)
      have hb10 := hb9.setCell (p := ⟨rb, 1, none⟩) hBrb (.slice A9 (r.f.ws.length + 1) c9)
      cases hwb : Fn.wagonB Ws with
      | none =>
        unfold WagQ at hq
        rw [hwb] at hq
        obtain ⟨rfl, rfl⟩ := hq
        have HN : Hid (Fn.take r Ws = none) := Lib.hid (by rw [Hd.out, hwb])
        have Hb := Lib.hid hb10
        clear hwb hX9 oW10 oS10 hX10 hb10
        go_wp2_with fail
        go_ret
        exact (Htk.out _ _).1 HN.out rfl Hb.out
      | some y =>
        unfold WagQ at hq
        rw [hwb] at hq
        obtain ⟨rfl, rfl⟩ := hq
        have HN : Hid (Fn.take r Ws = some { r with f := { r.f with ws := r.f.ws ++ [x] } }) := Lib.hid (by rw [Hd.out, hwb])
        have HQ : Hid (RdP B rb ⟨r.part, ⟨r.f.nm, r.f.ws ++ [x], r.f.bk, r.f.so⟩, r.ck⟩ (w9.setCell ⟨rb, 1, none⟩ (.slice A9 (r.f.ws.length + 1) c9))) := Lib.hid ⟨_, vS, b0, b1, b2, b3, b4, b5, b6, hX10, by rw [List.length_append, flatW_snoc]; exact oW10, oS10, Hbk.out, hBrb⟩
        have Hb := Lib.hid hb10
        clear hwb hX9 oW10 oS10 hX10 hb10
        go_wp2_with fail
        go_ret
        exact (Htk.out _ _).2 _ HN.out rfl HQ.out Hb.out
  | false => exact absurd hw (of_decide_eq_false Hbw.out)
end Go.Proofs.YtiegpkbollihgaaDoor
namespace Go.Proofs.YtiegpkbollihgaaDoor
open Go.RowKit
set_option maxRecDepth 100000 in
set_option maxHeartbeats 16000000 in
theorem take_C (B rb : Nat) (p : List UInt8) (r : Fn.RS) (mm : Int) (W : World) (h : RdP B rb r W) (hB : B ≤ W.heap.size) (hp : p.length ≤ 20000) (hm : W.cell? ⟨0, 0, none⟩ = some (.int .i64 mm)) (h1 : r.part = 1) (hw : Fn.wd (Tx.cutAt 32 p) 0 ≠ Fn.wWagon) :
    Calls Tryd.prog 30 #[.pointer (some ⟨rb, 0, none⟩), .string (baOf p)] W (TakeR B rb p r W) := by
  have hbz : (baOf p).size = p.length := by simp [baOf, ByteArray.size]
  have HSp := Lib.hid (split_c 32 (baOf p) mm W (by rw [hbz]; omega) hm)
  obtain ⟨vW, vS, b0, b1, b2, b3, b4, b5, b6, hX0, oW0, oS0, hbk, hBrb⟩ := h
  have Hbk := Lib.hid hbk
  have Hwz := Lib.hid (fun q (hq : q ∈ Tx.cutAt 32 p) => Tx.pieceLen 32 p q hq)
  clear hbk
  go_enter Tryd.func30, Tryd.ntmps30
  go_wp2_with fail
  refine HSp.out.mono ?_
  rintro e w1 ⟨L', n, hL, hnl, hn1, hn2, rfl, hw1⟩
  rw [baOf_data] at hL
  obtain ⟨Ws, hWs⟩ : ∃ Ws, Tx.cutAt 32 p = Ws := ⟨_, rfl⟩
  have HWs := Lib.hid hWs
  rw [hWs] at hL Hwz hw
  rw [hbz] at hn2
  have hlW : Ws.length = n := by rw [← hnl, hL, List.length_map]
  have hX : Blk w1 rb 65 #[.string r.f.nm, vW, .int .i64 b0, .int .i64 b1, .int .i64 b2, .int .i64 b3, .int .i64 b4, .int .i64 b5, .int .i64 b6, vS, .int .i64 (r.part : Int), .int .i64 r.ck] := by rw [hw1]; exact hX0.alloc _
  have oW := oW0.alloc (.cells (L'.map Value.string).toArray 9)
  have oS := oS0.alloc (.cells (L'.map Value.string).toArray 9)
  have hb1 : Below B W w1 := by rw [hw1]; exact (Below.refl _ _).alloc hB _
  have hS : StrR w1 (some ⟨W.heap.size, 0, none⟩) n Ws := by
    rw [hw1]
    refine StrR.own (B := 0) (c := n) ?_
    have := World.ownsRow_lit (base := 0) (e := 9) (size := 1) W (L'.map Value.string).toArray n (Nat.zero_le _) (by unfold maxLen; omega) (by simp; omega)
    rw [hL]
    rw [hL] at this
    simpa using this
  rw [← hw1] at oW oS
  have hz : ∀ j, (Fn.wd Ws j).length ≤ 20000 := fun j => by
    unfold Fn.wd
    rw [List.getD_eq_getElem?_getD]
    cases hq : Ws[j]? with
    | none => exact Nat.zero_le _
    | some q => have := Hwz.out q (List.mem_of_getElem? hq); simp only [Option.getD_some]; omega
  have Hz := Lib.hid hz
  have HlW := Lib.hid hlW
  obtain ⟨ad0, e0, _, hcc⟩ := hS.2 (by omega)
  obtain rfl := Option.some.inj e0
  have c0 : w1.cell? ⟨W.heap.size, 0, none⟩ = some (.string (baOf (Fn.wd Ws 0))) := hcc 0 (by omega)
  have HC1 : Hid (1 < n → w1.cell? ⟨W.heap.size, 1, none⟩ = some (.string (baOf (Fn.wd Ws 1)))) := Lib.hid (fun h => hcc 1 h)
  have HS := Lib.hid hS
  have hle1 := hb1.size
  have hn0i : (0 : Int) < (n : Int) := by omega
  obtain ⟨bt, hbt⟩ : ∃ b, decide (Fn.wd Ws 0 = Fn.wTrain) = b := ⟨_, rfl⟩
  obtain ⟨bw, hbw⟩ : ∃ b, decide (Fn.wd Ws 0 = Fn.wWagon) = b := ⟨_, rfl⟩
  obtain ⟨bb, hbb⟩ : ∃ b, decide (Fn.wd Ws 0 = Fn.wBrakes) = b := ⟨_, rfl⟩
  obtain ⟨bs, hbs⟩ : ∃ b, decide (Fn.wd Ws 0 = Fn.wSetout) = b := ⟨_, rfl⟩
  obtain ⟨be, hbe⟩ : ∃ b, decide (Fn.wd Ws 0 = Fn.wEnd) = b := ⟨_, rfl⟩
  obtain ⟨s0, hs0⟩ : ∃ s, baOf (Fn.wd Ws 0) = s := ⟨_, rfl⟩
  have et : (s0.toList == [116, 114, 97, 105, 110]) = bt := by rw [← hs0, ba_eqW]; exact hbt
  have ew : (s0.toList == [119, 97, 103, 111, 110]) = bw := by rw [← hs0, ba_eqW]; exact hbw
  have eb : (s0.toList == [98, 114, 97, 107, 101, 115]) = bb := by rw [← hs0, ba_eqW]; exact hbb
  have es : (s0.toList == [115, 101, 116, 111, 117, 116]) = bs := by rw [← hs0, ba_eqW]; exact hbs
  have ee : (s0.toList == [101, 110, 100]) = be := by rw [← hs0, ba_eqW]; exact hbe
  rw [hs0] at c0
  have Hbt := Lib.hid hbt
  have Hbw := Lib.hid hbw
  have Hbb := Lib.hid hbb
  have Hbs := Lib.hid hbs
  have Hbe := Lib.hid hbe
  have x10 : w1.cell? ⟨rb, 10, none⟩ = some (.int .i64 (r.part : Int)) := hX.cell 10
  have Htk : Hid (∀ e W', (Fn.take r Ws = none → e = .returned (.bool false) → Below B W W' → TakeR B rb p r W e W') ∧ (∀ r', Fn.take r Ws = some r' → e = .returned (.bool true) → RdP B rb r' W' → Below B W W' → TakeR B rb p r W e W')) := Lib.hid (fun e W' => ⟨fun h1 h2 h3 => by subst h2; exact takeR_no (by rw [HWs.out]; exact h1) h3, fun r' h1 h2 h3 h4 => by subst h2; exact takeR_ok (by rw [HWs.out]; exact h1) h3 h4⟩)
  clear hbt hbw hbb hbs hbe hs0 hcc e0 hWs hL hnl hw1 hX0 oW0 oS0 hz hlW hS HSp HWs hbz Hwz
  have e0 : ((r.part : Int) == 0) = false := by simp; omega
  have e1 : ((r.part : Int) == 1) = true := by simp; omega
  have e2 : ((r.part : Int) == 2) = false := by simp; omega
  cases bw with
  | true => exact absurd (of_decide_eq_true Hbw.out) hw
  | false =>
    cases bb with
    | false =>
      have HN := Lib.hid (Fn.take_no1 h1 (of_decide_eq_false Hbw.out) (fun e => of_decide_eq_false Hbb.out e.1))
      clear h1
      go_wp2_with fail
      go_ret
      exact (Htk.out _ _).1 HN.out rfl hb1
    | true =>
      by_cases hk : n = 8
      case neg =>
        have HN := Lib.hid (Fn.take_no1 (w := Ws) h1 (of_decide_eq_false Hbw.out) (fun e => hk (by rw [← HlW.out]; exact e.2)))
        by_cases hn1' : n = 1
        · subst hn1'
          go_wp2_with fail
          refine (all_no _ _ _ 7 w1 (by omega)).mono ?_
          rintro e w2 ⟨rfl, rfl⟩
          go_wp2_with fail
          go_ret
          exact (Htk.out _ _).1 HN.out rfl hb1
        · have hn1i : ((n : Int) == 1) = false := by simp; omega
          have h1le : (1 : Int) ≤ (n : Int) := by omega
          have h1le' : 1 ≤ n := by omega
          go_wp2_with fail
          refine (all_no _ _ _ 7 w1 (by omega)).mono ?_
          rintro e w2 ⟨rfl, rfl⟩
          go_wp2_with fail
          go_ret
          exact (Htk.out _ _).1 HN.out rfl hb1
      case pos =>
        subst hk
        have Hd := Lib.hid (Fn.take_brk (w := Ws) h1 (of_decide_eq_true Hbb.out) HlW.out)
        have hdt : (Ws.drop 1).take 7 = Ws.drop 1 := List.take_of_length_le (by rw [List.length_drop, HlW.out]; omega)
        have Hsub := HS.out.sub (k := 1) (m := 7) (by omega)
        rw [hdt] at Hsub
        have HA := Lib.hid (all_c (some ⟨W.heap.size, 1, none⟩) 7 7 (Ws.drop 1) 7 w1 (by omega) Hsub (fun j => by have := Hz.out (1 + j); rw [wd_drop]; omega))
        clear hdt Hsub
        go_wp2_with fail
        refine HA.out.mono ?_
        rintro e w2 ⟨hA, _⟩
        obtain ⟨⟨v, ok, rfl, hmm⟩, hb2⟩ := hA (by trivial)
        have hb2' := hb1.trans (hb2.mono (Nat.le_trans hB hb1.size))
        cases hi : Fn.ints (Ws.drop 1) with
        | none =>
          rw [hi] at hmm
          obtain ⟨rfl, rfl⟩ := hmm
          have HN : Hid (Fn.take r Ws = none) := Lib.hid (by rw [Hd.out, hi])
          clear hi
          go_wp2_with fail
          go_ret
          exact (Htk.out _ _).1 HN.out rfl hb2'
        | some l =>
          rw [hi] at hmm
          obtain ⟨rfl, own⟩ := hmm
          obtain ⟨gv, cap, rfl, hcap⟩ := own.form (by omega)
          have hll : l.length = 7 := own_len own
          match l, hll with
          | [n0, n1, n2, n3, n4, n5, n6], _ =>
            have i0 : w2.cell? ⟨gv, 0, none⟩ = some (.int .i64 n0) := own_cell own (j := 0) (by omega)
            have i1 : w2.cell? ⟨gv, 1, none⟩ = some (.int .i64 n1) := own_cell own (j := 1) (by omega)
            have i2 : w2.cell? ⟨gv, 2, none⟩ = some (.int .i64 n2) := own_cell own (j := 2) (by omega)
            have i3 : w2.cell? ⟨gv, 3, none⟩ = some (.int .i64 n3) := own_cell own (j := 3) (by omega)
            have i4 : w2.cell? ⟨gv, 4, none⟩ = some (.int .i64 n4) := own_cell own (j := 4) (by omega)
            have i5 : w2.cell? ⟨gv, 5, none⟩ = some (.int .i64 n5) := own_cell own (j := 5) (by omega)
            have i6 : w2.cell? ⟨gv, 6, none⟩ = some (.int .i64 n6) := own_cell own (j := 6) (by omega)
            have hX2 := hX.below hb2 hX.lt
            have oW2 := own_below oW hb2
            have oS2 := own_below oS hb2
            have HN : Hid (Fn.take r Ws = some { r with part := 2, f := { r.f with bk := [n0, n1, n2, n3, n4, n5, n6] } }) := Lib.hid (by rw [Hd.out, hi])
            have hX3 : Blk w2.drew rb 65 #[.string r.f.nm, vW, .int .i64 b0, .int .i64 b1, .int .i64 b2, .int .i64 b3, .int .i64 b4, .int .i64 b5, .int .i64 b6, vS, .int .i64 (r.part : Int), .int .i64 r.ck] := hX2
            have oW3 := own_drew oW2
            have oS3 := own_drew oS2
            have hb3 : Below B W w2.drew := hb2'.drew
            clear hX2 oW2 oS2 hb2' hi own
            go_wp2_with fail
            go_still_tail 26, (by kernel_rfl)
            change wpList _ _ _ _ _ w2.drew
            generalize w2.drew = w3 at hX3 oW3 oS3 hb3
            go_wp2_with ((with_reducible refine at_st 25 (.tmp 123) (.tmp 120) ?_); go_must (refine wpList_stB rfl 25 (.tmp 123) (.tmp 120) rfl rb 2 [.int .i64 n0, .int .i64 n1, .int .i64 n2, .int .i64 n3, .int .i64 n4, .int .i64 n5, .int .i64 n6] rfl rfl hX3 #[.string r.f.nm, vW, .int .i64 n0, .int .i64 n1, .int .i64 n2, .int .i64 n3, .int .i64 n4, .int .i64 n5, .int .i64 n6, vS, .int .i64 (r.part : Int), .int .i64 r.ck] rfl rfl (by kernel_rfl) rfl ?_; intro w4 hX4 hg4; have y0 : w4.cell? ⟨rb, 10, none⟩ = some (.int .i64 (r.part : Int)) := hX4.cell 10; have f0 : w4.frozen? ⟨rb, 10, none⟩ = false := hX4.frozen 10))
            have oW4 := oW3.kept hg4 (.inr (own_blk_ne oW3 hX3 (by decide)))
            have oS4 := oS3.kept hg4 (.inr (own_blk_ne oS3 hX3 (by decide)))
            have hlt3 := hX3.lt
            have hb4 : Below B W w4 := hb3.grown hg4 (by omega) (fun k e => by cases e; exact hBrb)
            have oW5 := own_farB (j := 10) oW4 hX4 (by decide) (.int .i64 2)
            have oS5 := own_farB (j := 10) oS4 hX4 (by decide) (.int .i64 2)
            have hX5 : Blk (w4.setCell ⟨rb, 10, none⟩ (.int .i64 2)) rb 65 #[.string r.f.nm, vW, .int .i64 n0, .int .i64 n1, .int .i64 n2, .int .i64 n3, .int .i64 n4, .int .i64 n5, .int .i64 n6, vS, .int .i64 2, .int .i64 r.ck] := hX4.set_ 10 _
            have hb5 := hb4.setCell (p := ⟨rb, 10, none⟩) hBrb (.int .i64 2)
            go_ret
            exact (Htk.out _ _).2 _ HN.out rfl ⟨vW, vS, n0, n1, n2, n3, n4, n5, n6, hX5, oW5, oS5, rfl, hBrb⟩ hb5
end Go.Proofs.YtiegpkbollihgaaDoor
namespace Go.Proofs.YtiegpkbollihgaaDoor
open Go.RowKit
def soQ (B rb : Nat) (W0 : World) (r : Fn.RS) (vW : Value) (b0 b1 b2 b3 b4 b5 b6 n0 n1 n2 : Int) (W : World) (v u : Value) : Prop := Below B W0 W ∧ Blk W rb 65 #[.string r.f.nm, vW, .int .i64 b0, .int .i64 b1, .int .i64 b2, .int .i64 b3, .int .i64 b4, .int .i64 b5, .int .i64 b6, u, .int .i64 (r.part : Int), .int .i64 r.ck] ∧ W.ownsRow B 39 3 v (r.f.so.length + 1) (flatS r.f.so ++ [.int .i64 n0, .int .i64 n1, .int .i64 n2]) ∧ W.ownsRow B 34 8 vW r.f.ws.length (flatW r.f.ws)
theorem soQ_set {B rb : Nat} {W0 : World} {r : Fn.RS} {vW : Value} {b0 b1 b2 b3 b4 b5 b6 n0 n1 n2 : Int} {W : World} {v u : Value} (h : soQ B rb W0 r vW b0 b1 b2 b3 b4 b5 b6 n0 n1 n2 W v u) (hB : B ≤ rb) (u2 : Value) : soQ B rb W0 r vW b0 b1 b2 b3 b4 b5 b6 n0 n1 n2 (W.setCell ⟨rb, 9, none⟩ u2) v u2 :=
  ⟨h.1.setCell (p := ⟨rb, 9, none⟩) hB u2, h.2.1.set_ 9 u2, own_farB h.2.2.1 h.2.1 (by decide) u2, own_farB h.2.2.2 h.2.1 (by decide) u2⟩
def soS : List (Nat × Nat) := [(149, 2), (150, 3), (151, 4), (152, 5), (154, 7), (155, 8), (157, 10), (158, 11), (160, 13), (161, 14), (162, 15), (163, 16), (164, 17), (165, 18), (166, 19), (167, 20)]
def soPure : List Nat := [0, 1, 6, 9, 12]
def soF (k : Nat) : Nat := match k with
  | 2 => 149
  | 3 => 150
  | 4 => 151
  | 5 => 152
  | 7 => 154
  | 8 => 155
  | 10 => 157
  | 11 => 158
  | 13 => 160
  | 14 => 161
  | 15 => 162
  | 16 => 163
  | 17 => 164
  | 18 => 165
  | 19 => 166
  | 20 => 167
  | _ => 0
def soT (B rb : Nat) (W0 w2 : World) (r : Fn.RS) (vW : Value) (b0 b1 b2 b3 b4 b5 b6 : Int) (As : Option Addr) (cs gv : Nat) (n0 n1 n2 : Int) (k : Nat) (v : Value) (W : World) : Prop := match k with
  | 2 => v = .pointer (some ⟨rb, 0, none⟩)
  | 3 => v = .pointer (some ⟨rb, 0, none⟩)
  | 4 => v = .pointer (some ⟨rb, 9, none⟩)
  | 5 => v = .slice As r.f.so.length cs
  | 7 => v = .pointer (some ⟨gv, 0, none⟩)
  | 8 => v = .int .i64 n0
  | 10 => v = .pointer (some ⟨gv, 1, none⟩)
  | 11 => v = .int .i64 n1
  | 13 => v = .pointer (some ⟨gv, 2, none⟩)
  | 14 => v = .int .i64 n2
  | 15 => v = .agg #[.int .i64 n0, .int .i64 n1, .int .i64 n2]
  | 16 => ∃ g, v = .slice (some ⟨g, 0, none⟩) 1 1 ∧ SlN W w2.heap.size 3 (.slice (some ⟨g, 0, none⟩) 3 3) [n0, n1, n2]
  | 17 => (∃ A c, v = .slice A (r.f.so.length + 1) c) ∧ ∃ u, soQ B rb W0 r vW b0 b1 b2 b3 b4 b5 b6 n0 n1 n2 W v u
  | 18 => v = .pointer (some ⟨rb, 0, none⟩)
  | 19 => v = .pointer (some ⟨rb, 0, none⟩)
  | 20 => v = .pointer (some ⟨rb, 9, none⟩)
  | _ => True
theorem soPureT (B rb : Nat) (W0 w2 : World) (r : Fn.RS) (vW : Value) (b0 b1 b2 b3 b4 b5 b6 : Int) (As : Option Addr) (cs gv : Nat) (n0 n1 n2 : Int) : ∀ k, k ∈ soPure → ∀ v W, soT B rb W0 w2 r vW b0 b1 b2 b3 b4 b5 b6 As cs gv n0 n1 n2 k v W := by
  intro k hk v W
  simp only [soPure, List.mem_cons, List.not_mem_nil, or_false] at hk
  rcases hk with rfl | rfl | rfl | rfl | rfl <;> exact trivial
theorem soT_alloc (B rb : Nat) (W0 w2 : World) (r : Fn.RS) (vW : Value) (b0 b1 b2 b3 b4 b5 b6 : Int) (As : Option Addr) (cs gv : Nat) (n0 n1 n2 : Int) {W W' : World} (o : Obj) (hW : W' = W.alloc o) (k : Nat) (hk : k ≠ 17) (v : Value) (h : soT B rb W0 w2 r vW b0 b1 b2 b3 b4 b5 b6 As cs gv n0 n1 n2 k v W) : soT B rb W0 w2 r vW b0 b1 b2 b3 b4 b5 b6 As cs gv n0 n1 n2 k v W' := by
  unfold soT at h ⊢
  split at h
  · exact h
  · exact h
  · exact h
  · exact h
  · exact h
  · exact h
  · exact h
  · exact h
  · exact h
  · exact h
  · exact h
  · obtain ⟨g, h1, h2⟩ := h
    exact ⟨g, h1, by rw [hW]; exact h2.alloc o⟩
  · exact absurd rfl hk
  · exact h
  · exact h
  · exact h
  · trivial
theorem soT_grown (B rb : Nat) (W0 w2 : World) (r : Fn.RS) (vW : Value) (b0 b1 b2 b3 b4 b5 b6 : Int) (As : Option Addr) (cs gv : Nat) (n0 n1 n2 : Int) {W W' : World} {ob : Option Nat} (hg : W.grownBy W' ob) (ho : ∀ g, ob = some g → g < w2.heap.size) (k : Nat) (hk : k ≠ 17) (v : Value) (h : soT B rb W0 w2 r vW b0 b1 b2 b3 b4 b5 b6 As cs gv n0 n1 n2 k v W) : soT B rb W0 w2 r vW b0 b1 b2 b3 b4 b5 b6 As cs gv n0 n1 n2 k v W' := by
  unfold soT at h ⊢
  split at h
  · exact h
  · exact h
  · exact h
  · exact h
  · exact h
  · exact h
  · exact h
  · exact h
  · exact h
  · exact h
  · exact h
  · obtain ⟨g, h1, h2⟩ := h
    exact ⟨g, h1, h2.grownO hg ho⟩
  · exact absurd rfl hk
  · exact h
  · exact h
  · exact h
  · trivial
theorem soT_set (B rb : Nat) (W0 w2 : World) (r : Fn.RS) (vW : Value) (b0 b1 b2 b3 b4 b5 b6 : Int) (As : Option Addr) (cs gv : Nat) (n0 n1 n2 : Int) {W W' : World} (hB : B ≤ rb) (hr : rb < w2.heap.size) (u2 : Value) (hW : W' = W.setCell ⟨rb, 9, none⟩ u2) (k : Nat) (v : Value) (h : soT B rb W0 w2 r vW b0 b1 b2 b3 b4 b5 b6 As cs gv n0 n1 n2 k v W) : soT B rb W0 w2 r vW b0 b1 b2 b3 b4 b5 b6 As cs gv n0 n1 n2 k v W' := by
  unfold soT at h ⊢
  split at h
  · exact h
  · exact h
  · exact h
  · exact h
  · exact h
  · exact h
  · exact h
  · exact h
  · exact h
  · exact h
  · exact h
  · obtain ⟨g, h1, h2⟩ := h
    exact ⟨g, h1, by rw [hW]; exact h2.set u2 hr⟩
  · obtain ⟨h1, u, h2⟩ := h
    exact ⟨h1, u2, by rw [hW]; exact soQ_set h2 hB u2⟩
  · exact h
  · exact h
  · exact h
  · trivial
set_option maxRecDepth 100000 in
set_option maxHeartbeats 16000000 in
theorem take_D (B rb : Nat) (p : List UInt8) (r : Fn.RS) (mm : Int) (W : World) (h : RdP B rb r W) (hB : B ≤ W.heap.size) (hp : p.length ≤ 20000) (hso : r.f.so.length ≤ 20000) (hm : W.cell? ⟨0, 0, none⟩ = some (.int .i64 mm)) (h2 : r.part = 2) (hw : Fn.wd (Tx.cutAt 32 p) 0 = Fn.wSetout) :
    Calls Tryd.prog 30 #[.pointer (some ⟨rb, 0, none⟩), .string (baOf p)] W (TakeR B rb p r W) := by
  have hbz : (baOf p).size = p.length := by simp [baOf, ByteArray.size]
  have HSp := Lib.hid (split_c 32 (baOf p) mm W (by rw [hbz]; omega) hm)
  obtain ⟨vW, vS, b0, b1, b2, b3, b4, b5, b6, hX0, oW0, oS0, hbk, hBrb⟩ := h
  have Hbk := Lib.hid hbk
  have Hwz := Lib.hid (fun q (hq : q ∈ Tx.cutAt 32 p) => Tx.pieceLen 32 p q hq)
  clear hbk
  go_enter Tryd.func30, Tryd.ntmps30
  go_wp2_with fail
  refine HSp.out.mono ?_
  rintro e w1 ⟨L', n, hL, hnl, hn1, hn2, rfl, hw1⟩
  rw [baOf_data] at hL
  obtain ⟨Ws, hWs⟩ : ∃ Ws, Tx.cutAt 32 p = Ws := ⟨_, rfl⟩
  have HWs := Lib.hid hWs
  rw [hWs] at hL Hwz hw
  rw [hbz] at hn2
  have hlW : Ws.length = n := by rw [← hnl, hL, List.length_map]
  have hX : Blk w1 rb 65 #[.string r.f.nm, vW, .int .i64 b0, .int .i64 b1, .int .i64 b2, .int .i64 b3, .int .i64 b4, .int .i64 b5, .int .i64 b6, vS, .int .i64 (r.part : Int), .int .i64 r.ck] := by rw [hw1]; exact hX0.alloc _
  have oW := oW0.alloc (.cells (L'.map Value.string).toArray 9)
  have oS := oS0.alloc (.cells (L'.map Value.string).toArray 9)
  have hb1 : Below B W w1 := by rw [hw1]; exact (Below.refl _ _).alloc hB _
  have hS : StrR w1 (some ⟨W.heap.size, 0, none⟩) n Ws := by
    rw [hw1]
    refine StrR.own (B := 0) (c := n) ?_
    have := World.ownsRow_lit (base := 0) (e := 9) (size := 1) W (L'.map Value.string).toArray n (Nat.zero_le _) (by unfold maxLen; omega) (by simp; omega)
    rw [hL]
    rw [hL] at this
    simpa using this
  rw [← hw1] at oW oS
  have hz : ∀ j, (Fn.wd Ws j).length ≤ 20000 := fun j => by
    unfold Fn.wd
    rw [List.getD_eq_getElem?_getD]
    cases hq : Ws[j]? with
    | none => exact Nat.zero_le _
    | some q => have := Hwz.out q (List.mem_of_getElem? hq); simp only [Option.getD_some]; omega
  have Hz := Lib.hid hz
  have HlW := Lib.hid hlW
  obtain ⟨ad0, e0, _, hcc⟩ := hS.2 (by omega)
  obtain rfl := Option.some.inj e0
  have c0 : w1.cell? ⟨W.heap.size, 0, none⟩ = some (.string (baOf (Fn.wd Ws 0))) := hcc 0 (by omega)
  have HC1 : Hid (1 < n → w1.cell? ⟨W.heap.size, 1, none⟩ = some (.string (baOf (Fn.wd Ws 1)))) := Lib.hid (fun h => hcc 1 h)
  have HS := Lib.hid hS
  have hle1 := hb1.size
  have hn0i : (0 : Int) < (n : Int) := by omega
  obtain ⟨bt, hbt⟩ : ∃ b, decide (Fn.wd Ws 0 = Fn.wTrain) = b := ⟨_, rfl⟩
  obtain ⟨bw, hbw⟩ : ∃ b, decide (Fn.wd Ws 0 = Fn.wWagon) = b := ⟨_, rfl⟩
  obtain ⟨bb, hbb⟩ : ∃ b, decide (Fn.wd Ws 0 = Fn.wBrakes) = b := ⟨_, rfl⟩
  obtain ⟨bs, hbs⟩ : ∃ b, decide (Fn.wd Ws 0 = Fn.wSetout) = b := ⟨_, rfl⟩
  obtain ⟨be, hbe⟩ : ∃ b, decide (Fn.wd Ws 0 = Fn.wEnd) = b := ⟨_, rfl⟩
  obtain ⟨s0, hs0⟩ : ∃ s, baOf (Fn.wd Ws 0) = s := ⟨_, rfl⟩
  have et : (s0.toList == [116, 114, 97, 105, 110]) = bt := by rw [← hs0, ba_eqW]; exact hbt
  have ew : (s0.toList == [119, 97, 103, 111, 110]) = bw := by rw [← hs0, ba_eqW]; exact hbw
  have eb : (s0.toList == [98, 114, 97, 107, 101, 115]) = bb := by rw [← hs0, ba_eqW]; exact hbb
  have es : (s0.toList == [115, 101, 116, 111, 117, 116]) = bs := by rw [← hs0, ba_eqW]; exact hbs
  have ee : (s0.toList == [101, 110, 100]) = be := by rw [← hs0, ba_eqW]; exact hbe
  rw [hs0] at c0
  have Hbt := Lib.hid hbt
  have Hbw := Lib.hid hbw
  have Hbb := Lib.hid hbb
  have Hbs := Lib.hid hbs
  have Hbe := Lib.hid hbe
  have x10 : w1.cell? ⟨rb, 10, none⟩ = some (.int .i64 (r.part : Int)) := hX.cell 10
  have Htk : Hid (∀ e W', (Fn.take r Ws = none → e = .returned (.bool false) → Below B W W' → TakeR B rb p r W e W') ∧ (∀ r', Fn.take r Ws = some r' → e = .returned (.bool true) → RdP B rb r' W' → Below B W W' → TakeR B rb p r W e W')) := Lib.hid (fun e W' => ⟨fun h1 h2 h3 => by subst h2; exact takeR_no (by rw [HWs.out]; exact h1) h3, fun r' h1 h2 h3 h4 => by subst h2; exact takeR_ok (by rw [HWs.out]; exact h1) h3 h4⟩)
  clear hbt hbw hbb hbs hbe hs0 hcc e0 hWs hL hnl hw1 hX0 oW0 oS0 hz hlW hS HSp HWs hbz Hwz
  have e0 : ((r.part : Int) == 0) = false := by simp; omega
  have e1 : ((r.part : Int) == 1) = false := by simp; omega
  have e2 : ((r.part : Int) == 2) = true := by simp; omega
  cases bs with
  | false => exact absurd hw (of_decide_eq_false Hbs.out)
  | true =>
    by_cases hk : n = 4
    case neg =>
      have HN := Lib.hid (Fn.take_no2 (w := Ws) h2 (fun e => hk (by rw [← HlW.out]; exact e.2)) (fun e => by have := of_decide_eq_true Hbs.out; rw [e.1] at this; exact absurd this (by decide)))
      by_cases hn1' : n = 1
      · subst hn1'
        go_wp2_with fail
        refine (all_no _ _ _ 3 w1 (by omega)).mono ?_
        rintro e w2 ⟨rfl, rfl⟩
        go_wp2_with fail
        go_ret
        exact (Htk.out _ _).1 HN.out rfl hb1
      · have hn1i : ((n : Int) == 1) = false := by simp; omega
        have h1le : (1 : Int) ≤ (n : Int) := by omega
        have h1le' : 1 ≤ n := by omega
        go_wp2_with fail
        refine (all_no _ _ _ 3 w1 (by omega)).mono ?_
        rintro e w2 ⟨rfl, rfl⟩
        go_wp2_with fail
        go_ret
        exact (Htk.out _ _).1 HN.out rfl hb1
    case pos =>
      subst hk
      have Hd := Lib.hid (Fn.take_set (w := Ws) h2 (of_decide_eq_true Hbs.out) HlW.out)
      have hdt : (Ws.drop 1).take 3 = Ws.drop 1 := List.take_of_length_le (by rw [List.length_drop, HlW.out]; omega)
      have Hsub := HS.out.sub (k := 1) (m := 3) (by omega)
      rw [hdt] at Hsub
      have HA := Lib.hid (all_c (some ⟨W.heap.size, 1, none⟩) 3 3 (Ws.drop 1) 3 w1 (by omega) Hsub (fun j => by have := Hz.out (1 + j); rw [wd_drop]; omega))
      clear hdt Hsub
      go_wp2_with fail
      refine HA.out.mono ?_
      rintro e w2 ⟨hA, _⟩
      obtain ⟨⟨v, ok, rfl, hmm⟩, hb2⟩ := hA (by trivial)
      have hb2' := hb1.trans (hb2.mono (Nat.le_trans hB hb1.size))
      cases hi : Fn.ints (Ws.drop 1) with
      | none =>
        rw [hi] at hmm
        obtain ⟨rfl, rfl⟩ := hmm
        have HN : Hid (Fn.take r Ws = none) := Lib.hid (by rw [Hd.out, hi])
        clear hi
        go_wp2_with fail
        go_ret
        exact (Htk.out _ _).1 HN.out rfl hb2'
      | some l =>
        rw [hi] at hmm
        obtain ⟨rfl, own⟩ := hmm
        obtain ⟨gv, cap, rfl, hcap⟩ := own.form (by omega)
        have hll : l.length = 3 := own_len own
        match l, hll with
        | [n0, n1, n2], _ =>
          have i0 : w2.cell? ⟨gv, 0, none⟩ = some (.int .i64 n0) := own_cell own (j := 0) (by omega)
          have i1 : w2.cell? ⟨gv, 1, none⟩ = some (.int .i64 n1) := own_cell own (j := 1) (by omega)
          have i2 : w2.cell? ⟨gv, 2, none⟩ = some (.int .i64 n2) := own_cell own (j := 2) (by omega)
          have hX2 := hX.below hb2 hX.lt
          have oW2 := own_below oW hb2
          have oS2 := own_below oS hb2
          have HN : Hid (Fn.take r Ws = some { r with f := { r.f with so := r.f.so ++ [⟨n0, n1, n2⟩] } }) := Lib.hid (by rw [Hd.out, hi]; rfl)
          obtain ⟨As, cs, rfl, hcs1, hcs2⟩ := own_form oS2
          have y9 : w2.cell? ⟨rb, 9, none⟩ = some (.slice As r.f.so.length cs) := hX2.cell 9
          have h63 : r.f.so.length + 1 ≤ maxLen := by unfold maxLen; omega
          have h24 : (r.f.so.length + 1) * 24 ≤ 140737488355328 := by omega
          have hBw2 : B ≤ w2.heap.size := Nat.le_trans hB hb2'.size
          obtain ⟨Wo, hWo⟩ : ∃ V, V = W := ⟨_, rfl⟩
          have hbo : Below B Wo w2 := by rw [hWo]; exact hb2'
          clear hi own hb2
          go_wp2_with fail
          refine wp_region_any (by kernel_rfl) ?_
          change wpAny _ _ _ _ _ _ _ (World.drew _)
          refine wpAny_take (i := 0) (v := ?vso0) rfl (by kernel_rfl) (by kernel_rfl) (by kernel_rfl) (fun _ _ _ h => h) (Or.inl ⟨by rfl, ?yso0⟩) ?_
          case yso0 => (intro w; go_simp; with_reducible rfl)
          refine wpAny_take (i := 1) (v := ?vso1) rfl (by kernel_rfl) (by kernel_rfl) (by kernel_rfl) (fun _ _ _ h => h) (Or.inl ⟨by rfl, ?yso1⟩) ?_
          case yso1 => (intro w; go_simp; with_reducible rfl)
          refine wpAny_take (i := 6) (v := ?vso6) rfl (by kernel_rfl) (by kernel_rfl) (by kernel_rfl) (fun _ _ _ h => h) (Or.inl ⟨by rfl, ?yso6⟩) ?_
          case yso6 => (intro w; go_simp; with_reducible rfl)
          refine wpAny_take (i := 9) (v := ?vso9) rfl (by kernel_rfl) (by kernel_rfl) (by kernel_rfl) (fun _ _ _ h => h) (Or.inl ⟨by rfl, ?yso9⟩) ?_
          case yso9 => (intro w; go_simp; with_reducible rfl)
          refine wpAny_take (i := 12) (v := ?vso12) rfl (by kernel_rfl) (by kernel_rfl) (by kernel_rfl) (fun _ _ _ h => h) (Or.inl ⟨by rfl, ?yso12⟩) ?_
          case yso12 => (intro w; go_simp; with_reducible rfl)
          refine with_act (φ := fun a => wpAny _ _ _ _ _ _ a _) ?_
          intro a0 ha0
          simp only [Act.put, List.setIfInBounds_toArray, List.set_cons_zero, List.set_cons_succ, List.getElem_toArray, List.getElem_cons_zero, List.getElem_cons_succ] at ha0
          refine wpAny_invC (by kernel_rfl) (fun L a W => RI (fun vs => putL a0 vs soS) (soT B rb Wo w2 r vW b0 b1 b2 b3 b4 b5 b6 As cs gv n0 n1 n2) (PG soPure 17 21 (Below w2.heap.size w2) (fun V => ∃ v, (∃ A c, v = .slice A (r.f.so.length + 1) c) ∧ soQ B rb Wo r vW b0 b1 b2 b3 b4 b5 b6 n0 n1 n2 V v v)) L a W) ?_ ?_ _ _ _ _ (by kernel_rfl) (by decide +kernel) (by kernel_rfl) ?_
          · rintro i L a W hi hC ⟨vs, rfl, hG, hT⟩
            obtain ⟨h0, hsz, hlt'⟩ := ready_at hi
            have hsz' : i < 22 := hsz
            have hnp : i ∉ soPure := fun h => by rw [hG.pure i h] at h0; cases h0
            have hcs : i = 2 ∨ i = 3 ∨ i = 4 ∨ i = 5 ∨ i = 7 ∨ i = 8 ∨ i = 10 ∨ i = 11 ∨ i = 13 ∨ i = 14 ∨ i = 15 ∨ i = 16 ∨ i = 17 ∨ i = 18 ∨ i = 19 ∨ i = 20 ∨ i = 21 := by
              simp only [soPure, List.mem_cons, List.not_mem_nil, or_false, not_or] at hnp
              omega
            clear hnp hsz hsz'
            rcases hcs with rfl | rfl | rfl | rfl | rfl | rfl | rfl | rfl | rfl | rfl | rfl | rfl | rfl | rfl | rfl | rfl | rfl
            · refine step_free rfl rfl (fun K' hK => ?_)
              have HT := Lib.hid hT
              have HG := Lib.hid hG
              clear hT hG h0 hi
              subst ha0
              simp only [soS, putL, Act.put, List.setIfInBounds_toArray, List.set_cons_zero, List.set_cons_succ, List.getElem_toArray, List.getElem_cons_zero, List.getElem_cons_succ]
              go_simp
              refine RI.next (v := .pointer (some ⟨rb, 0, none⟩)) hK HT (fun _ _ h => h) (HG.out.same 2 (by decide) (by decide)) (show soT B rb Wo w2 r vW b0 b1 b2 b3 b4 b5 b6 As cs gv n0 n1 n2 2 _ _ from rfl) ?_
              simp only [soS, putL, Act.put, List.setIfInBounds_toArray, List.set_cons_zero, List.set_cons_succ]
              rfl
            · have e2 := hT 2 (ready_dep hi rfl 2 (by kernel_rfl))
              refine step_free rfl rfl (fun K' hK => ?_)
              have HT := Lib.hid hT
              have HG := Lib.hid hG
              clear hT hG h0 hi
              subst ha0
              simp only [soS, putL, Act.put, List.setIfInBounds_toArray, List.set_cons_zero, List.set_cons_succ, List.getElem_toArray, List.getElem_cons_zero, List.getElem_cons_succ]
              rw [e2]
              go_simp
              refine RI.next (v := .pointer (some ⟨rb, 0, none⟩)) hK HT (fun _ _ h => h) (HG.out.same 3 (by decide) (by decide)) (show soT B rb Wo w2 r vW b0 b1 b2 b3 b4 b5 b6 As cs gv n0 n1 n2 3 _ _ from rfl) ?_
              simp only [soS, putL, Act.put, List.setIfInBounds_toArray, List.set_cons_zero, List.set_cons_succ]
              rw [← e2]
              rfl
            · have e3 := hT 3 (ready_dep hi rfl 3 (by kernel_rfl))
              refine step_free rfl rfl (fun K' hK => ?_)
              have HT := Lib.hid hT
              have HG := Lib.hid hG
              clear hT hG h0 hi
              subst ha0
              simp only [soS, putL, Act.put, List.setIfInBounds_toArray, List.set_cons_zero, List.set_cons_succ, List.getElem_toArray, List.getElem_cons_zero, List.getElem_cons_succ]
              rw [e3]
              go_simp
              refine RI.next (v := .pointer (some ⟨rb, 9, none⟩)) hK HT (fun _ _ h => h) (HG.out.same 4 (by decide) (by decide)) (show soT B rb Wo w2 r vW b0 b1 b2 b3 b4 b5 b6 As cs gv n0 n1 n2 4 _ _ from rfl) ?_
              simp only [soS, putL, Act.put, List.setIfInBounds_toArray, List.set_cons_zero, List.set_cons_succ]
              rw [← e3]
              rfl
            · have q5 := h0
              have q17 := hC.not (k := 17) rfl 5 (by kernel_rfl) q5
              have hP := hG.one q17
              clear q5 q17
              have hc1 : W.cell? ⟨rb, 9, none⟩ = some (.slice As r.f.so.length cs) := keep_cell hP y9
              clear hP
              have e4 := hT 4 (ready_dep hi rfl 4 (by kernel_rfl))
              obtain ⟨_, o, ho, _⟩ := mem_ready.1 hi
              have ho2 := ho
              simp only [List.getElem?_toArray, List.getElem?_cons_succ, List.getElem?_cons_zero, Option.some.injEq] at ho2
              subst ho2
              refine step_free ho ?_ ?_
              · rfl
              intro K' hK
              clear ho
              have HT := Lib.hid hT
              have HG := Lib.hid hG
              clear hT hG h0 hi
              subst ha0
              simp only [soS, putL, Act.put, List.setIfInBounds_toArray, List.set_cons_zero, List.set_cons_succ]
              rw [e4]
              go_simp
              refine RI.next (v := .slice As r.f.so.length cs) hK HT (fun _ _ h => h) (HG.out.same 5 (by decide) (by decide)) (show soT B rb Wo w2 r vW b0 b1 b2 b3 b4 b5 b6 As cs gv n0 n1 n2 5 _ _ from rfl) ?_
              simp only [soS, putL, Act.put, List.setIfInBounds_toArray, List.set_cons_zero, List.set_cons_succ]
              rw [← e4]
              rfl
            · refine step_free rfl rfl (fun K' hK => ?_)
              have HT := Lib.hid hT
              have HG := Lib.hid hG
              clear hT hG h0 hi
              subst ha0
              simp only [soS, putL, Act.put, List.setIfInBounds_toArray, List.set_cons_zero, List.set_cons_succ, List.getElem_toArray, List.getElem_cons_zero, List.getElem_cons_succ]
              go_simp
              refine RI.next (v := .pointer (some ⟨gv, 0, none⟩)) hK HT (fun _ _ h => h) (HG.out.same 7 (by decide) (by decide)) (show soT B rb Wo w2 r vW b0 b1 b2 b3 b4 b5 b6 As cs gv n0 n1 n2 7 _ _ from rfl) ?_
              simp only [soS, putL, Act.put, List.setIfInBounds_toArray, List.set_cons_zero, List.set_cons_succ]
              rfl
            · have q8 := h0
              have q15 := hC.not (k := 15) rfl 8 (by kernel_rfl) q8
              have q16 := hC.not (k := 16) rfl 15 (by kernel_rfl) q15
              have q17 := hC.not (k := 17) rfl 16 (by kernel_rfl) q16
              have hP := hG.one q17
              clear q8 q15 q16 q17
              have hc1 : W.cell? ⟨gv, 0, none⟩ = some (.int .i64 n0) := keep_cell hP i0
              clear hP
              have e7 := hT 7 (ready_dep hi rfl 7 (by kernel_rfl))
              obtain ⟨_, o, ho, _⟩ := mem_ready.1 hi
              have ho2 := ho
              simp only [List.getElem?_toArray, List.getElem?_cons_succ, List.getElem?_cons_zero, Option.some.injEq] at ho2
              subst ho2
              refine step_free ho ?_ ?_
              · rfl
              intro K' hK
              clear ho
              have HT := Lib.hid hT
              have HG := Lib.hid hG
              clear hT hG h0 hi
              subst ha0
              simp only [soS, putL, Act.put, List.setIfInBounds_toArray, List.set_cons_zero, List.set_cons_succ]
              rw [e7]
              go_simp
              refine RI.next (v := .int .i64 n0) hK HT (fun _ _ h => h) (HG.out.same 8 (by decide) (by decide)) (show soT B rb Wo w2 r vW b0 b1 b2 b3 b4 b5 b6 As cs gv n0 n1 n2 8 _ _ from rfl) ?_
              simp only [soS, putL, Act.put, List.setIfInBounds_toArray, List.set_cons_zero, List.set_cons_succ]
              rw [← e7]
              rfl
            · refine step_free rfl rfl (fun K' hK => ?_)
              have HT := Lib.hid hT
              have HG := Lib.hid hG
              clear hT hG h0 hi
              subst ha0
              simp only [soS, putL, Act.put, List.setIfInBounds_toArray, List.set_cons_zero, List.set_cons_succ, List.getElem_toArray, List.getElem_cons_zero, List.getElem_cons_succ]
              go_simp
              refine RI.next (v := .pointer (some ⟨gv, 1, none⟩)) hK HT (fun _ _ h => h) (HG.out.same 10 (by decide) (by decide)) (show soT B rb Wo w2 r vW b0 b1 b2 b3 b4 b5 b6 As cs gv n0 n1 n2 10 _ _ from rfl) ?_
              simp only [soS, putL, Act.put, List.setIfInBounds_toArray, List.set_cons_zero, List.set_cons_succ]
              rfl
            · have q11 := h0
              have q15 := hC.not (k := 15) rfl 11 (by kernel_rfl) q11
              have q16 := hC.not (k := 16) rfl 15 (by kernel_rfl) q15
              have q17 := hC.not (k := 17) rfl 16 (by kernel_rfl) q16
              have hP := hG.one q17
              clear q11 q15 q16 q17
              have hc1 : W.cell? ⟨gv, 1, none⟩ = some (.int .i64 n1) := keep_cell hP i1
              clear hP
              have e10 := hT 10 (ready_dep hi rfl 10 (by kernel_rfl))
              obtain ⟨_, o, ho, _⟩ := mem_ready.1 hi
              have ho2 := ho
              simp only [List.getElem?_toArray, List.getElem?_cons_succ, List.getElem?_cons_zero, Option.some.injEq] at ho2
              subst ho2
              refine step_free ho ?_ ?_
              · rfl
              intro K' hK
              clear ho
              have HT := Lib.hid hT
              have HG := Lib.hid hG
              clear hT hG h0 hi
              subst ha0
              simp only [soS, putL, Act.put, List.setIfInBounds_toArray, List.set_cons_zero, List.set_cons_succ]
              rw [e10]
              go_simp
              refine RI.next (v := .int .i64 n1) hK HT (fun _ _ h => h) (HG.out.same 11 (by decide) (by decide)) (show soT B rb Wo w2 r vW b0 b1 b2 b3 b4 b5 b6 As cs gv n0 n1 n2 11 _ _ from rfl) ?_
              simp only [soS, putL, Act.put, List.setIfInBounds_toArray, List.set_cons_zero, List.set_cons_succ]
              rw [← e10]
              rfl
            · refine step_free rfl rfl (fun K' hK => ?_)
              have HT := Lib.hid hT
              have HG := Lib.hid hG
              clear hT hG h0 hi
              subst ha0
              simp only [soS, putL, Act.put, List.setIfInBounds_toArray, List.set_cons_zero, List.set_cons_succ, List.getElem_toArray, List.getElem_cons_zero, List.getElem_cons_succ]
              go_simp
              refine RI.next (v := .pointer (some ⟨gv, 2, none⟩)) hK HT (fun _ _ h => h) (HG.out.same 13 (by decide) (by decide)) (show soT B rb Wo w2 r vW b0 b1 b2 b3 b4 b5 b6 As cs gv n0 n1 n2 13 _ _ from rfl) ?_
              simp only [soS, putL, Act.put, List.setIfInBounds_toArray, List.set_cons_zero, List.set_cons_succ]
              rfl
            · have q14 := h0
              have q15 := hC.not (k := 15) rfl 14 (by kernel_rfl) q14
              have q16 := hC.not (k := 16) rfl 15 (by kernel_rfl) q15
              have q17 := hC.not (k := 17) rfl 16 (by kernel_rfl) q16
              have hP := hG.one q17
              clear q14 q15 q16 q17
              have hc1 : W.cell? ⟨gv, 2, none⟩ = some (.int .i64 n2) := keep_cell hP i2
              clear hP
              have e13 := hT 13 (ready_dep hi rfl 13 (by kernel_rfl))
              obtain ⟨_, o, ho, _⟩ := mem_ready.1 hi
              have ho2 := ho
              simp only [List.getElem?_toArray, List.getElem?_cons_succ, List.getElem?_cons_zero, Option.some.injEq] at ho2
              subst ho2
              refine step_free ho ?_ ?_
              · rfl
              intro K' hK
              clear ho
              have HT := Lib.hid hT
              have HG := Lib.hid hG
              clear hT hG h0 hi
              subst ha0
              simp only [soS, putL, Act.put, List.setIfInBounds_toArray, List.set_cons_zero, List.set_cons_succ]
              rw [e13]
              go_simp
              refine RI.next (v := .int .i64 n2) hK HT (fun _ _ h => h) (HG.out.same 14 (by decide) (by decide)) (show soT B rb Wo w2 r vW b0 b1 b2 b3 b4 b5 b6 As cs gv n0 n1 n2 14 _ _ from rfl) ?_
              simp only [soS, putL, Act.put, List.setIfInBounds_toArray, List.set_cons_zero, List.set_cons_succ]
              rw [← e13]
              rfl
            · have e8 := hT 8 (ready_dep hi rfl 8 (by kernel_rfl))
              have e11 := hT 11 (ready_dep hi rfl 11 (by kernel_rfl))
              have e14 := hT 14 (ready_dep hi rfl 14 (by kernel_rfl))
              refine step_free rfl rfl (fun K' hK => ?_)
              have HT := Lib.hid hT
              have HG := Lib.hid hG
              clear hT hG h0 hi
              subst ha0
              simp only [soS, putL, Act.put, List.setIfInBounds_toArray, List.set_cons_zero, List.set_cons_succ, List.getElem_toArray, List.getElem_cons_zero, List.getElem_cons_succ]
              rw [e8, e11, e14]
              go_simp
              refine RI.next (v := .agg #[.int .i64 n0, .int .i64 n1, .int .i64 n2]) hK HT (fun _ _ h => h) (HG.out.same 15 (by decide) (by decide)) (show soT B rb Wo w2 r vW b0 b1 b2 b3 b4 b5 b6 As cs gv n0 n1 n2 15 _ _ from rfl) ?_
              simp only [soS, putL, Act.put, List.setIfInBounds_toArray, List.set_cons_zero, List.set_cons_succ]
              rw [← e8, ← e11, ← e14]
              rfl
            · have q16 := h0
              have q17 := hC.not (k := 17) rfl 16 (by kernel_rfl) q16
              have hP := hG.one q17
              clear q16
              have q21 := hC.not (k := 21) rfl 17 (by kernel_rfl) q17
              have e15 := hT 15 (ready_dep hi rfl 15 (by kernel_rfl))
              refine step_free rfl rfl (fun K' hK => ?_)
              have HT := Lib.hid hT
              have HG := Lib.hid hG
              clear hT hG h0 hi
              subst ha0
              simp only [soS, putL, Act.put, List.setIfInBounds_toArray, List.set_cons_zero, List.set_cons_succ, List.getElem_toArray, List.getElem_cons_zero, List.getElem_cons_succ]
              rw [e15]
              go_simp
              refine RI.nextL (v := .slice (some ⟨W.heap.size, 0, none⟩) 1 1) hK HT (fun k u hk hu => soT_alloc B rb Wo w2 r vW b0 b1 b2 b3 b4 b5 b6 As cs gv n0 n1 n2 _ rfl k (fun e => by rw [e, q17] at hk; cases hk) u hu) (HG.out.step 16 (by decide) q21 (hP.alloc hP.size _)) (show soT B rb Wo w2 r vW b0 b1 b2 b3 b4 b5 b6 As cs gv n0 n1 n2 16 _ _ from ⟨W.heap.size, rfl, W.heap.size, rfl, hP.size, IR.new [n0, n1, n2] 3 rfl rfl (by decide)⟩) ?_
              simp only [soS, putL, Act.put, List.setIfInBounds_toArray, List.set_cons_zero, List.set_cons_succ]
              rw [← e15]
              rfl
            · have q21 := hC.not (k := 21) rfl 17 (by kernel_rfl) h0
              have hP := hG.one h0
              have q17 := h0
              have e5 := hT 5 (ready_dep hi rfl 5 (by kernel_rfl))
              obtain ⟨g16, e16, gb, hgb, hI⟩ := hT 16 (ready_dep hi rfl 16 (by kernel_rfl))
              cases hgb
              obtain ⟨hI1, hI2⟩ := hI
              have oSW := own_below oS2 hP
              have oWW := own_below oW2 hP
              have hZ2 := hX2.below hP hX2.lt
              have hBW : B ≤ W.heap.size := Nat.le_trans (Nat.le_trans hBrb (Nat.le_of_lt hX2.lt)) hP.size
              have hnews : ∀ j u, [Value.int .i64 n0, .int .i64 n1, .int .i64 n2][j]? = some u → W.cell? ((⟨g16, 0, none⟩ : Addr).add j) = some u := by
                obtain ⟨ad, ea, _, hc⟩ := hI2.2 (by decide)
                cases ea
                exact hc
              have HT := Lib.hid hT
              have HG := Lib.hid hG
              clear hT hG h0 hi
              subst ha0
              refine step_free rfl rfl (fun K' hK => ?_)
              simp only [soS, putL, Act.put, List.setIfInBounds_toArray, List.set_cons_zero, List.set_cons_succ]
              rw [e5, e16]
              refine wp_pushc sl24 (.tmp 152) (.tmp 163) (by rfl) B (.slice As r.f.so.length cs) r.f.so.length (flatS r.f.so) (by rfl) oSW g16 1 1 (by rfl) [.int .i64 n0, .int .i64 n1, .int .i64 n2] (by rfl) hnews (by simp [Value.oneCell']) h63 h24 hBW ?_
              intro v' w9 own9 hgr
              obtain ⟨A9, c9, rfl, _, _⟩ := own_form own9
              have hQ9 : soQ B rb Wo r vW b0 b1 b2 b3 b4 b5 b6 n0 n1 n2 w9 (.slice A9 (r.f.so.length + 1) c9) (.slice As r.f.so.length cs) := ⟨(hbo.trans (hP.mono hBw2)).trans (hgr.below (own_ge oSW) hBW), hZ2.grown hgr.grown (fun e => own_blk_ne oSW hZ2 (by decide) e.symm), own9, hgr.keep oWW (own_ne_type oWW oSW (by decide))⟩
              refine RI.nextL (v := .slice A9 (r.f.so.length + 1) c9) hK HT (fun k u hk hu => soT_grown B rb Wo w2 r vW b0 b1 b2 b3 b4 b5 b6 As cs gv n0 n1 n2 hgr.grown (fun g e => own_lt oS2 g e) k (fun e => by rw [e, q17] at hk; cases hk) u hu) (HG.out.mid hlt' (by decide) q21) (show soT B rb Wo w2 r vW b0 b1 b2 b3 b4 b5 b6 As cs gv n0 n1 n2 17 _ _ from ⟨⟨_, _, rfl⟩, _, hQ9⟩) ?_
              simp only [soS, putL, Act.put, List.setIfInBounds_toArray, List.set_cons_zero, List.set_cons_succ]
              rw [← e5, ← e16]
              rfl
            · refine step_free rfl rfl (fun K' hK => ?_)
              have HT := Lib.hid hT
              have HG := Lib.hid hG
              clear hT hG h0 hi
              subst ha0
              simp only [soS, putL, Act.put, List.setIfInBounds_toArray, List.set_cons_zero, List.set_cons_succ, List.getElem_toArray, List.getElem_cons_zero, List.getElem_cons_succ]
              go_simp
              refine RI.next (v := .pointer (some ⟨rb, 0, none⟩)) hK HT (fun _ _ h => h) (HG.out.same 18 (by decide) (by decide)) (show soT B rb Wo w2 r vW b0 b1 b2 b3 b4 b5 b6 As cs gv n0 n1 n2 18 _ _ from rfl) ?_
              simp only [soS, putL, Act.put, List.setIfInBounds_toArray, List.set_cons_zero, List.set_cons_succ]
              rfl
            · have e18 := hT 18 (ready_dep hi rfl 18 (by kernel_rfl))
              refine step_free rfl rfl (fun K' hK => ?_)
              have HT := Lib.hid hT
              have HG := Lib.hid hG
              clear hT hG h0 hi
              subst ha0
              simp only [soS, putL, Act.put, List.setIfInBounds_toArray, List.set_cons_zero, List.set_cons_succ, List.getElem_toArray, List.getElem_cons_zero, List.getElem_cons_succ]
              rw [e18]
              go_simp
              refine RI.next (v := .pointer (some ⟨rb, 0, none⟩)) hK HT (fun _ _ h => h) (HG.out.same 19 (by decide) (by decide)) (show soT B rb Wo w2 r vW b0 b1 b2 b3 b4 b5 b6 As cs gv n0 n1 n2 19 _ _ from rfl) ?_
              simp only [soS, putL, Act.put, List.setIfInBounds_toArray, List.set_cons_zero, List.set_cons_succ]
              rw [← e18]
              rfl
            · have e19 := hT 19 (ready_dep hi rfl 19 (by kernel_rfl))
              refine step_free rfl rfl (fun K' hK => ?_)
              have HT := Lib.hid hT
              have HG := Lib.hid hG
              clear hT hG h0 hi
              subst ha0
              simp only [soS, putL, Act.put, List.setIfInBounds_toArray, List.set_cons_zero, List.set_cons_succ, List.getElem_toArray, List.getElem_cons_zero, List.getElem_cons_succ]
              rw [e19]
              go_simp
              refine RI.next (v := .pointer (some ⟨rb, 9, none⟩)) hK HT (fun _ _ h => h) (HG.out.same 20 (by decide) (by decide)) (show soT B rb Wo w2 r vW b0 b1 b2 b3 b4 b5 b6 As cs gv n0 n1 n2 20 _ _ from rfl) ?_
              simp only [soS, putL, Act.put, List.setIfInBounds_toArray, List.set_cons_zero, List.set_cons_succ]
              rw [← e19]
              rfl
            · have hd17 := ready_dep hi rfl 17 (by kernel_rfl)
              obtain ⟨⟨A9, c9, e17⟩, u9, hQ⟩ := hT 17 hd17
              have e20 := hT 20 (ready_dep hi rfl 20 (by kernel_rfl))
              have hc1 : W.cell? ⟨rb, 9, none⟩ = some u9 := hQ.2.1.cell 9
              have hf1 : W.frozen? ⟨rb, 9, none⟩ = false := hQ.2.1.frozen 9
              rw [e17] at hQ
              have hQ2 := Lib.hid (soQ_set hQ hBrb (.slice A9 (r.f.so.length + 1) c9))
              obtain ⟨_, o, ho, _⟩ := mem_ready.1 hi
              have ho2 := ho
              simp only [List.getElem?_toArray, List.getElem?_cons_succ, List.getElem?_cons_zero, Option.some.injEq] at ho2
              subst ho2
              refine step_free ho ?_ ?_
              · rfl
              intro K' hK
              clear ho hQ
              have HT := Lib.hid hT
              have HG := Lib.hid hG
              clear hT hG h0 hi
              subst ha0
              simp only [soS, putL, Act.put, List.setIfInBounds_toArray, List.set_cons_zero, List.set_cons_succ]
              rw [e17, e20]
              go_simp
              refine RI.nextL (v := .slice A9 (r.f.so.length + 1) c9) hK HT (fun k u hk hu => soT_set B rb Wo w2 r vW b0 b1 b2 b3 b4 b5 b6 As cs gv n0 n1 n2 hBrb hX2.lt _ rfl k u hu) (HG.out.last hd17 ⟨_, ⟨_, _, rfl⟩, hQ2.out⟩) (show soT B rb Wo w2 r vW b0 b1 b2 b3 b4 b5 b6 As cs gv n0 n1 n2 21 _ _ from trivial) ?_
              simp only [soS, putL, Act.put, List.setIfInBounds_toArray, List.set_cons_zero, List.set_cons_succ]
              rw [← e17, ← e20]
              rfl
          · rintro L a W3 hall ⟨vs, rfl, hG, hT⟩
            obtain ⟨v9, ⟨A9, c9, rfl⟩, hQ1, hQ2, hQ3, hQ4⟩ := hG.two (hall 21 (by decide))
            clear hG hT hall
            have HQ : Hid (RdP B rb ⟨r.part, ⟨r.f.nm, r.f.ws, r.f.bk, r.f.so ++ [⟨n0, n1, n2⟩]⟩, r.ck⟩ W3) := Lib.hid ⟨vW, _, b0, b1, b2, b3, b4, b5, b6, hQ2, hQ4, by rw [List.length_append, flatS_snoc]; exact hQ3, Hbk.out, hBrb⟩
            have Hb : Hid (Below B W W3) := Lib.hid (by rw [← hWo]; exact hQ1)
            clear hQ1 hQ2 hQ3 hQ4
            subst ha0
            simp only [soS, putL, Act.put, List.setIfInBounds_toArray, List.set_cons_zero, List.set_cons_succ]
            go_wp2_with fail
            go_ret
            exact (Htk.out _ _).2 _ HN.out rfl HQ.out Hb.out
          · exact RI.init3 soPure (fun k hk v => soPureT B rb Wo w2 r vW b0 b1 b2 b3 b4 b5 b6 As cs gv n0 n1 n2 k hk v _) (fun k => a0.tmps.getD (soF k) undef) (putL_self a0 soF soS (by kernel_rfl)).symm (PG.init (by kernel_rfl) (below_todrew (Below.refl _ _)) (by kernel_rfl)) (by kernel_rfl)
end Go.Proofs.YtiegpkbollihgaaDoor
namespace Go.Proofs.YtiegpkbollihgaaDoor
open Go.RowKit
set_option maxRecDepth 100000 in
set_option maxHeartbeats 16000000 in
theorem take_E (B rb : Nat) (p : List UInt8) (r : Fn.RS) (mm : Int) (W : World) (h : RdP B rb r W) (hB : B ≤ W.heap.size) (hp : p.length ≤ 20000) (hm : W.cell? ⟨0, 0, none⟩ = some (.int .i64 mm)) (h2 : r.part = 2) (hw : Fn.wd (Tx.cutAt 32 p) 0 ≠ Fn.wSetout) :
    Calls Tryd.prog 30 #[.pointer (some ⟨rb, 0, none⟩), .string (baOf p)] W (TakeR B rb p r W) := by
  have hbz : (baOf p).size = p.length := by simp [baOf, ByteArray.size]
  have HSp := Lib.hid (split_c 32 (baOf p) mm W (by rw [hbz]; omega) hm)
  obtain ⟨vW, vS, b0, b1, b2, b3, b4, b5, b6, hX0, oW0, oS0, hbk, hBrb⟩ := h
  have Hbk := Lib.hid hbk
  have Hwz := Lib.hid (fun q (hq : q ∈ Tx.cutAt 32 p) => Tx.pieceLen 32 p q hq)
  clear hbk
  go_enter Tryd.func30, Tryd.ntmps30
  go_wp2_with fail
  refine HSp.out.mono ?_
  rintro e w1 ⟨L', n, hL, hnl, hn1, hn2, rfl, hw1⟩
  rw [baOf_data] at hL
  obtain ⟨Ws, hWs⟩ : ∃ Ws, Tx.cutAt 32 p = Ws := ⟨_, rfl⟩
  have HWs := Lib.hid hWs
  rw [hWs] at hL Hwz hw
  rw [hbz] at hn2
  have hlW : Ws.length = n := by rw [← hnl, hL, List.length_map]
  have hX : Blk w1 rb 65 #[.string r.f.nm, vW, .int .i64 b0, .int .i64 b1, .int .i64 b2, .int .i64 b3, .int .i64 b4, .int .i64 b5, .int .i64 b6, vS, .int .i64 (r.part : Int), .int .i64 r.ck] := by rw [hw1]; exact hX0.alloc _
  have oW := oW0.alloc (.cells (L'.map Value.string).toArray 9)
  have oS := oS0.alloc (.cells (L'.map Value.string).toArray 9)
  have hb1 : Below B W w1 := by rw [hw1]; exact (Below.refl _ _).alloc hB _
  have hS : StrR w1 (some ⟨W.heap.size, 0, none⟩) n Ws := by
    rw [hw1]
    refine StrR.own (B := 0) (c := n) ?_
    have := World.ownsRow_lit (base := 0) (e := 9) (size := 1) W (L'.map Value.string).toArray n (Nat.zero_le _) (by unfold maxLen; omega) (by simp; omega)
    rw [hL]
    rw [hL] at this
    simpa using this
  rw [← hw1] at oW oS
  have hz : ∀ j, (Fn.wd Ws j).length ≤ 20000 := fun j => by
    unfold Fn.wd
    rw [List.getD_eq_getElem?_getD]
    cases hq : Ws[j]? with
    | none => exact Nat.zero_le _
    | some q => have := Hwz.out q (List.mem_of_getElem? hq); simp only [Option.getD_some]; omega
  have Hz := Lib.hid hz
  have HlW := Lib.hid hlW
  obtain ⟨ad0, e0, _, hcc⟩ := hS.2 (by omega)
  obtain rfl := Option.some.inj e0
  have c0 : w1.cell? ⟨W.heap.size, 0, none⟩ = some (.string (baOf (Fn.wd Ws 0))) := hcc 0 (by omega)
  have HC1 : Hid (1 < n → w1.cell? ⟨W.heap.size, 1, none⟩ = some (.string (baOf (Fn.wd Ws 1)))) := Lib.hid (fun h => hcc 1 h)
  have HS := Lib.hid hS
  have hle1 := hb1.size
  have hn0i : (0 : Int) < (n : Int) := by omega
  obtain ⟨bt, hbt⟩ : ∃ b, decide (Fn.wd Ws 0 = Fn.wTrain) = b := ⟨_, rfl⟩
  obtain ⟨bw, hbw⟩ : ∃ b, decide (Fn.wd Ws 0 = Fn.wWagon) = b := ⟨_, rfl⟩
  obtain ⟨bb, hbb⟩ : ∃ b, decide (Fn.wd Ws 0 = Fn.wBrakes) = b := ⟨_, rfl⟩
  obtain ⟨bs, hbs⟩ : ∃ b, decide (Fn.wd Ws 0 = Fn.wSetout) = b := ⟨_, rfl⟩
  obtain ⟨be, hbe⟩ : ∃ b, decide (Fn.wd Ws 0 = Fn.wEnd) = b := ⟨_, rfl⟩
  obtain ⟨s0, hs0⟩ : ∃ s, baOf (Fn.wd Ws 0) = s := ⟨_, rfl⟩
  have et : (s0.toList == [116, 114, 97, 105, 110]) = bt := by rw [← hs0, ba_eqW]; exact hbt
  have ew : (s0.toList == [119, 97, 103, 111, 110]) = bw := by rw [← hs0, ba_eqW]; exact hbw
  have eb : (s0.toList == [98, 114, 97, 107, 101, 115]) = bb := by rw [← hs0, ba_eqW]; exact hbb
  have es : (s0.toList == [115, 101, 116, 111, 117, 116]) = bs := by rw [← hs0, ba_eqW]; exact hbs
  have ee : (s0.toList == [101, 110, 100]) = be := by rw [← hs0, ba_eqW]; exact hbe
  rw [hs0] at c0
  have Hbt := Lib.hid hbt
  have Hbw := Lib.hid hbw
  have Hbb := Lib.hid hbb
  have Hbs := Lib.hid hbs
  have Hbe := Lib.hid hbe
  have x10 : w1.cell? ⟨rb, 10, none⟩ = some (.int .i64 (r.part : Int)) := hX.cell 10
  have Htk : Hid (∀ e W', (Fn.take r Ws = none → e = .returned (.bool false) → Below B W W' → TakeR B rb p r W e W') ∧ (∀ r', Fn.take r Ws = some r' → e = .returned (.bool true) → RdP B rb r' W' → Below B W W' → TakeR B rb p r W e W')) := Lib.hid (fun e W' => ⟨fun h1 h2 h3 => by subst h2; exact takeR_no (by rw [HWs.out]; exact h1) h3, fun r' h1 h2 h3 h4 => by subst h2; exact takeR_ok (by rw [HWs.out]; exact h1) h3 h4⟩)
  clear hbt hbw hbb hbs hbe hs0 hcc e0 hWs hL hnl hw1 hX0 oW0 oS0 hz hlW hS HSp HWs hbz Hwz
  have e0 : ((r.part : Int) == 0) = false := by simp; omega
  have e1 : ((r.part : Int) == 1) = false := by simp; omega
  have e2 : ((r.part : Int) == 2) = true := by simp; omega
  cases bs with
  | true => exact absurd (of_decide_eq_true Hbs.out) hw
  | false =>
    cases be with
    | false =>
      have HN := Lib.hid (Fn.take_no2 h2 (fun e => of_decide_eq_false Hbs.out e.1) (fun e => of_decide_eq_false Hbe.out e.1))
      clear h2
      go_wp2_with fail
      go_ret
      exact (Htk.out _ _).1 HN.out rfl hb1
    | true =>
      by_cases hk : n = 2
      case neg =>
        have HN := Lib.hid (Fn.take_no2 (w := Ws) h2 (fun e => of_decide_eq_false Hbs.out e.1) (fun e => hk (by rw [← HlW.out]; exact e.2)))
        by_cases hn1' : n = 1
        · subst hn1'
          go_wp2_with fail
          refine (all_no _ _ _ 1 w1 (by omega)).mono ?_
          rintro e w2 ⟨rfl, rfl⟩
          go_wp2_with fail
          go_ret
          exact (Htk.out _ _).1 HN.out rfl hb1
        · have hn1i : ((n : Int) == 1) = false := by simp; omega
          have h1le : (1 : Int) ≤ (n : Int) := by omega
          have h1le' : 1 ≤ n := by omega
          go_wp2_with fail
          refine (all_no _ _ _ 1 w1 (by omega)).mono ?_
          rintro e w2 ⟨rfl, rfl⟩
          go_wp2_with fail
          go_ret
          exact (Htk.out _ _).1 HN.out rfl hb1
      case pos =>
        subst hk
        have Hd := Lib.hid (Fn.take_endl (w := Ws) h2 (of_decide_eq_true Hbe.out) HlW.out)
        have hdt : (Ws.drop 1).take 1 = Ws.drop 1 := List.take_of_length_le (by rw [List.length_drop, HlW.out]; omega)
        have Hsub := HS.out.sub (k := 1) (m := 1) (by omega)
        rw [hdt] at Hsub
        have HA := Lib.hid (all_c (some ⟨W.heap.size, 1, none⟩) 1 1 (Ws.drop 1) 1 w1 (by omega) Hsub (fun j => by have := Hz.out (1 + j); rw [wd_drop]; omega))
        clear hdt Hsub
        go_wp2_with fail
        refine HA.out.mono ?_
        rintro e w2 ⟨hA, _⟩
        obtain ⟨⟨v, ok, rfl, hmm⟩, hb2⟩ := hA (by trivial)
        have hb2' := hb1.trans (hb2.mono (Nat.le_trans hB hb1.size))
        cases hi : Fn.ints (Ws.drop 1) with
        | none =>
          rw [hi] at hmm
          obtain ⟨rfl, rfl⟩ := hmm
          have HN : Hid (Fn.take r Ws = none) := Lib.hid (by rw [Hd.out, hi])
          clear hi
          go_wp2_with fail
          go_ret
          exact (Htk.out _ _).1 HN.out rfl hb2'
        | some l =>
          rw [hi] at hmm
          obtain ⟨rfl, own⟩ := hmm
          obtain ⟨gv, cap, rfl, hcap⟩ := own.form (by omega)
          have hll : l.length = 1 := own_len own
          match l, hll with
          | [n0], _ =>
            have i0 : w2.cell? ⟨gv, 0, none⟩ = some (.int .i64 n0) := own_cell own (j := 0) (by omega)
            have hX2 := hX.below hb2 hX.lt
            have oW2 := own_below oW hb2
            have oS2 := own_below oS hb2
            have HN : Hid (Fn.take r Ws = some { r with part := 3, ck := n0 }) := Lib.hid (by rw [Hd.out, hi]; rfl)
            clear hi own
            have yy0 : w2.cell? ⟨rb, 11, none⟩ = some (.int .i64 r.ck) := hX2.cell 11
            have ff0 : w2.frozen? ⟨rb, 11, none⟩ = false := hX2.frozen 11
            have oWq0 := own_farB (j := 11) oW2 hX2 (by decide) (.int .i64 n0)
            have oSq0 := own_farB (j := 11) oS2 hX2 (by decide) (.int .i64 n0)
            have hXq0 := hX2.set_ 11 (.int .i64 n0)
            have hbq0 := hb2'.setCell (p := ⟨rb, 11, none⟩) hBrb (.int .i64 n0)
            have yy1 : (w2.setCell ⟨rb, 11, none⟩ (.int .i64 n0)).cell? ⟨rb, 10, none⟩ = some (.int .i64 (r.part : Int)) := hXq0.cell 10
            have ff1 : (w2.setCell ⟨rb, 11, none⟩ (.int .i64 n0)).frozen? ⟨rb, 10, none⟩ = false := hXq0.frozen 10
            have oWq1 := own_farB (j := 10) oWq0 hXq0 (by decide) (.int .i64 3)
            have oSq1 := own_farB (j := 10) oSq0 hXq0 (by decide) (.int .i64 3)
            have hXq1 := hXq0.set_ 10 (.int .i64 3)
            have hbq1 := hbq0.setCell (p := ⟨rb, 10, none⟩) hBrb (.int .i64 3)
            have HQ : Hid (RdP B rb ⟨3, r.f, n0⟩ ((w2.setCell ⟨rb, 11, none⟩ (.int .i64 n0)).setCell ⟨rb, 10, none⟩ (.int .i64 3))) := Lib.hid ⟨vW, vS, b0, b1, b2, b3, b4, b5, b6, hXq1, oWq1, oSq1, Hbk.out, hBrb⟩
            have Hb := Lib.hid hbq1
            clear hX2 oW2 oS2 hb2' oWq0 oSq0 hXq0 hbq0 oWq1 oSq1 hXq1 hbq1
            go_wp2_with fail
            go_ret
            exact (Htk.out _ _).2 _ HN.out rfl HQ.out Hb.out
end Go.Proofs.YtiegpkbollihgaaDoor
namespace Go.Proofs.YtiegpkbollihgaaDoor
open Go.RowKit
set_option maxRecDepth 100000 in
set_option maxHeartbeats 16000000 in
theorem take_F (B rb : Nat) (p : List UInt8) (r : Fn.RS) (mm : Int) (W : World) (h : RdP B rb r W) (hB : B ≤ W.heap.size) (hp : p.length ≤ 20000) (hm : W.cell? ⟨0, 0, none⟩ = some (.int .i64 mm)) (h0 : r.part ≠ 0) (h1 : r.part ≠ 1) (h2 : r.part ≠ 2) :
    Calls Tryd.prog 30 #[.pointer (some ⟨rb, 0, none⟩), .string (baOf p)] W (TakeR B rb p r W) := by
  have hbz : (baOf p).size = p.length := by simp [baOf, ByteArray.size]
  have HSp := Lib.hid (split_c 32 (baOf p) mm W (by rw [hbz]; omega) hm)
  obtain ⟨vW, vS, b0, b1, b2, b3, b4, b5, b6, hX0, oW0, oS0, hbk, hBrb⟩ := h
  have Hbk := Lib.hid hbk
  have Hwz := Lib.hid (fun q (hq : q ∈ Tx.cutAt 32 p) => Tx.pieceLen 32 p q hq)
  clear hbk
  go_enter Tryd.func30, Tryd.ntmps30
  go_wp2_with fail
  refine HSp.out.mono ?_
  rintro e w1 ⟨L', n, hL, hnl, hn1, hn2, rfl, hw1⟩
  rw [baOf_data] at hL
  obtain ⟨Ws, hWs⟩ : ∃ Ws, Tx.cutAt 32 p = Ws := ⟨_, rfl⟩
  have HWs := Lib.hid hWs
  rw [hWs] at hL Hwz
  rw [hbz] at hn2
  have hlW : Ws.length = n := by rw [← hnl, hL, List.length_map]
  have hX : Blk w1 rb 65 #[.string r.f.nm, vW, .int .i64 b0, .int .i64 b1, .int .i64 b2, .int .i64 b3, .int .i64 b4, .int .i64 b5, .int .i64 b6, vS, .int .i64 (r.part : Int), .int .i64 r.ck] := by rw [hw1]; exact hX0.alloc _
  have oW := oW0.alloc (.cells (L'.map Value.string).toArray 9)
  have oS := oS0.alloc (.cells (L'.map Value.string).toArray 9)
  have hb1 : Below B W w1 := by rw [hw1]; exact (Below.refl _ _).alloc hB _
  have hS : StrR w1 (some ⟨W.heap.size, 0, none⟩) n Ws := by
    rw [hw1]
    refine StrR.own (B := 0) (c := n) ?_
    have := World.ownsRow_lit (base := 0) (e := 9) (size := 1) W (L'.map Value.string).toArray n (Nat.zero_le _) (by unfold maxLen; omega) (by simp; omega)
    rw [hL]
    rw [hL] at this
    simpa using this
  rw [← hw1] at oW oS
  have hz : ∀ j, (Fn.wd Ws j).length ≤ 20000 := fun j => by
    unfold Fn.wd
    rw [List.getD_eq_getElem?_getD]
    cases hq : Ws[j]? with
    | none => exact Nat.zero_le _
    | some q => have := Hwz.out q (List.mem_of_getElem? hq); simp only [Option.getD_some]; omega
  have Hz := Lib.hid hz
  have HlW := Lib.hid hlW
  obtain ⟨ad0, e0, _, hcc⟩ := hS.2 (by omega)
  obtain rfl := Option.some.inj e0
  have c0 : w1.cell? ⟨W.heap.size, 0, none⟩ = some (.string (baOf (Fn.wd Ws 0))) := hcc 0 (by omega)
  have HC1 : Hid (1 < n → w1.cell? ⟨W.heap.size, 1, none⟩ = some (.string (baOf (Fn.wd Ws 1)))) := Lib.hid (fun h => hcc 1 h)
  have HS := Lib.hid hS
  have hle1 := hb1.size
  have hn0i : (0 : Int) < (n : Int) := by omega
  obtain ⟨bt, hbt⟩ : ∃ b, decide (Fn.wd Ws 0 = Fn.wTrain) = b := ⟨_, rfl⟩
  obtain ⟨bw, hbw⟩ : ∃ b, decide (Fn.wd Ws 0 = Fn.wWagon) = b := ⟨_, rfl⟩
  obtain ⟨bb, hbb⟩ : ∃ b, decide (Fn.wd Ws 0 = Fn.wBrakes) = b := ⟨_, rfl⟩
  obtain ⟨bs, hbs⟩ : ∃ b, decide (Fn.wd Ws 0 = Fn.wSetout) = b := ⟨_, rfl⟩
  obtain ⟨be, hbe⟩ : ∃ b, decide (Fn.wd Ws 0 = Fn.wEnd) = b := ⟨_, rfl⟩
  obtain ⟨s0, hs0⟩ : ∃ s, baOf (Fn.wd Ws 0) = s := ⟨_, rfl⟩
  have et : (s0.toList == [116, 114, 97, 105, 110]) = bt := by rw [← hs0, ba_eqW]; exact hbt
  have ew : (s0.toList == [119, 97, 103, 111, 110]) = bw := by rw [← hs0, ba_eqW]; exact hbw
  have eb : (s0.toList == [98, 114, 97, 107, 101, 115]) = bb := by rw [← hs0, ba_eqW]; exact hbb
  have es : (s0.toList == [115, 101, 116, 111, 117, 116]) = bs := by rw [← hs0, ba_eqW]; exact hbs
  have ee : (s0.toList == [101, 110, 100]) = be := by rw [← hs0, ba_eqW]; exact hbe
  rw [hs0] at c0
  have Hbt := Lib.hid hbt
  have Hbw := Lib.hid hbw
  have Hbb := Lib.hid hbb
  have Hbs := Lib.hid hbs
  have Hbe := Lib.hid hbe
  have x10 : w1.cell? ⟨rb, 10, none⟩ = some (.int .i64 (r.part : Int)) := hX.cell 10
  have Htk : Hid (∀ e W', (Fn.take r Ws = none → e = .returned (.bool false) → Below B W W' → TakeR B rb p r W e W') ∧ (∀ r', Fn.take r Ws = some r' → e = .returned (.bool true) → RdP B rb r' W' → Below B W W' → TakeR B rb p r W e W')) := Lib.hid (fun e W' => ⟨fun h1 h2 h3 => by subst h2; exact takeR_no (by rw [HWs.out]; exact h1) h3, fun r' h1 h2 h3 h4 => by subst h2; exact takeR_ok (by rw [HWs.out]; exact h1) h3 h4⟩)
  clear hbt hbw hbb hbs hbe hs0 hcc e0 hWs hL hnl hw1 hX0 oW0 oS0 hz hlW hS HSp HWs hbz Hwz
  have e0 : ((r.part : Int) == 0) = false := by simp; omega
  have e1 : ((r.part : Int) == 1) = false := by simp; omega
  have e2 : ((r.part : Int) == 2) = false := by simp; omega
  have HN := Lib.hid (Fn.take_no3 (w := Ws) h0 h1 h2)
  clear h1 h0 h2
  go_wp2_with fail
  go_ret
  exact (Htk.out _ _).1 HN.out rfl hb1
end Go.Proofs.YtiegpkbollihgaaDoor
namespace Go.Proofs.YtiegpkbollihgaaDoor
open Go.RowKit
theorem take_c (B rb : Nat) (p : List UInt8) (r : Fn.RS) (mm : Int) (W : World) (h : RdP B rb r W) (hB : B ≤ W.heap.size) (hp : p.length ≤ 20000) (hws : r.f.ws.length ≤ 20000) (hso : r.f.so.length ≤ 20000) (hm : W.cell? ⟨0, 0, none⟩ = some (.int .i64 mm)) :
    Calls Tryd.prog 30 #[.pointer (some ⟨rb, 0, none⟩), .string (baOf p)] W (TakeR B rb p r W) := by
  by_cases h0 : r.part = 0
  · exact take_A B rb p r mm W h hB hp hm h0
  by_cases h1 : r.part = 1
  · by_cases hw : Fn.wd (Tx.cutAt 32 p) 0 = Fn.wWagon
    · exact take_B B rb p r mm W h hB hp hws hm h1 hw
    · exact take_C B rb p r mm W h hB hp hm h1 hw
  by_cases h2 : r.part = 2
  · by_cases hw : Fn.wd (Tx.cutAt 32 p) 0 = Fn.wSetout
    · exact take_D B rb p r mm W h hB hp hso hm h2 hw
    · exact take_E B rb p r mm W h hB hp hm h2 hw
  · exact take_F B rb p r mm W h hB hp hm h0 h1 h2
end Go.Proofs.YtiegpkbollihgaaDoor
