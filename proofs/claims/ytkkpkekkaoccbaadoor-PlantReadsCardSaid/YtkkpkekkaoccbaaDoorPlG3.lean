/- The walk of yardgen's Plant. -/
import Derived.Test.YtkkpkekkaoccbaaDoorPlG2
import Derived.Deep.DeepCutAuto
import Derived.Deep.CutBlock
import Derived.Deep.RegionHeld3
namespace Go.Proofs.YtkkpkekkaoccbaaDoor
open Go.RowKit
def lenOf : Value → Nat
  | .slice _ n _ => n
  | _ => 0
theorem own_app {w : World} {B e : Nat} {v : Value} {L L2 : List Int} (h : w.ownsRow B e 1 v (L.length + L2.length) (L.map (Value.int .i64) ++ L2.map (Value.int .i64))) : w.ownsRow B e 1 v (L ++ L2).length ((L ++ L2).map (Value.int .i64)) := by
  rw [List.length_append, List.map_append]; exact h
/-- .. and the element that is being made. -/
structure PX (B : Nat) (w : World) (g : Nat) (lv ov : Value) (l : List PE) (o : List Int) (c xb : Nat) (cs : Array Value) (wr : World) : Prop where
  ps : PS B w g lv ov l o c wr
  blk : Blk wr xb 40 cs
  ne : lv.ownBlock ≠ some xb
  ge : w.heap.size ≤ xb
section
variable {B g c xb : Nat} {w wr w' : World} {lv ov ov' : Value} {l : List PE} {o o' : List Int} {cs : Array Value}
theorem PX.set (h : PX B w g lv ov l o c xb cs wr) (hB : B ≤ w.heap.size) (hg : g < w.heap.size) (j : Nat) (u : Value) : PX B w g lv ov l o c xb (cs.setIfInBounds j u) (wr.setCell ⟨xb, j, none⟩ u) :=
  ⟨h.ps.set hB hg h.ge h.blk h.ne j u, h.blk.set_ j u, h.ne, h.ge⟩
theorem PX.next (h : PX B w g lv ov l o c xb cs wr) (hgw : g < w.heap.size) {c' : Nat} (m : Mk B w' g c') (hg : wr.grownBy w' (some g)) : PX B w g lv ov l o c' xb cs w' :=
  ⟨h.ps.next m hg, h.blk.grown hg (fun e => by have := Option.some.inj e; have := h.ge; omega), h.ne, h.ge⟩
theorem PX.below (h : PX B w g lv ov l o c xb cs wr) (hb : Below wr.heap.size wr w') : PX B w g lv ov l o c xb cs w' :=
  ⟨h.ps.below hb, h.blk.below hb h.blk.lt, h.ne, h.ge⟩
theorem PX.pushO (h : PX B w g lv ov l o c xb cs wr) (hB : B ≤ w.heap.size) (ho : w'.ownsRow w.heap.size 3 1 ov' o'.length (o'.map (Value.int .i64))) (hgr : Grew wr ov ov' w') : PX B w g lv ov' l o' c xb cs w' :=
  ⟨h.ps.pushO hB ho hgr, h.blk.grown hgr.grown (fun e => own_blk_ne h.ps.oo h.blk (by decide) e.symm), h.ne, h.ge⟩
end
/-- What a made element's round leaves, ahead of the append. -/
def CutI (B : Nat) (w : World) (g c' xb : Nat) (lv : Value) (l : List PE) (ov vn : Value) (wx : World) : Prop := ∃ (x : PE) (o' : List Int) (nx' : Int) (c'' : Nat), vn = .int .i64 nx' ∧ PX B w g lv ov l o' c'' xb #[.int .i64 x.k, .string x.nm, .int .i64 x.a, .int .i64 x.b, .int .i64 x.c, .int .i64 x.len] wx ∧ Pl.PInv (l ++ [x]) o' nx' ∧ nx' ≤ 64 ∧ o'.length ≤ l.length + 2 ∧ c'' ≤ c' + 6
def PlantR (B : Nat) (w : World) (g c n : Nat) (e : Ending) (w' : World) : Prop := ∃ v l c' o nx, e = .returned v ∧ w'.ownsRow w.heap.size 40 6 v (l : List PE).length (flat6 l) ∧ 1 ≤ l.length ∧ l.length ≤ 3 * n + 4 ∧ Pl.PInv l o nx ∧ c' ≤ c + 10 * n + 10 ∧ Mk B w' g c' ∧ w.grownBy w' (some g)
def PlI (B : Nat) (w : World) (g c n : Nat) (lv ov vn : Value) (wr : World) : Prop := ∃ (l : List PE) (o : List Int) (nx : Int) (c' : Nat), vn = .int .i64 nx ∧ Pl.PInv l o nx ∧ nx ≤ 64 ∧ 1 ≤ l.length ∧ (l.length ≤ n ∨ l.length ≤ 1) ∧ o.length ≤ l.length + 1 ∧ c' ≤ c + 1 + 6 * l.length ∧ PS B w g lv ov l o c' wr
/-- What is left of the open nodes, read only. -/
def OR (w : World) (o : List Int) (A : Option Addr) (wr : World) : Prop := o = [] ∨ ∃ b off cur, A = some ⟨b, off, none⟩ ∧ w.heap.size ≤ b ∧ Blk wr b 3 cur ∧ ∀ j (h : j < o.length), cur[off + j]? = some (.int .i64 o[j])
structure QS (B : Nat) (w : World) (g : Nat) (lv : Value) (A : Option Addr) (l : List PE) (o : List Int) (c : Nat) (wr : World) : Prop where
  mkr : Mk B wr g c
  lo : wr.ownsRow w.heap.size 40 6 lv l.length (flat6 l)
  orr : OR w o A wr
  gr : w.grownBy wr (some g)
section
variable {B g c : Nat} {w wr w' : World} {lv lv' : Value} {A : Option Addr} {l l' : List PE} {o : List Int}
theorem OR.kept (h : OR w o A wr) {row : Option Nat} (hg : wr.grownBy w' row) (hr : ∀ b cur, w.heap.size ≤ b → Blk wr b 3 cur → some b ≠ row) : OR w o A w' := by
  rcases h with h | ⟨b, off, cur, h1, h2, h3, h4⟩
  · exact .inl h
  · exact .inr ⟨b, off, cur, h1, h2, h3.grown hg (hr b cur h2 h3), h4⟩
theorem QS.next (h : QS B w g lv A l o c wr) (hgw : g < w.heap.size) {c' : Nat} (m : Mk B w' g c') (hg : wr.grownBy w' (some g)) : QS B w g lv A l o c' w' :=
  ⟨m, h.lo.kept hg (.inr (h.mkr.ne h.lo (by decide))), h.orr.kept hg (fun b _ hb _ e => by have := Option.some.inj e; omega), h.gr.trans hg⟩
theorem QS.below (h : QS B w g lv A l o c wr) (hb : Below wr.heap.size wr w') : QS B w g lv A l o c w' :=
  ⟨h.mkr.below hb, own_below h.lo hb, h.orr.kept (row := none) ⟨hb.os, hb.tape, hb.output, hb.size, fun i hi _ => hb.block i hi⟩ (fun b _ _ _ e => by cases e), grown_belowS h.gr hb⟩
theorem QS.pushL (h : QS B w g lv A l o c wr) (hB : B ≤ w.heap.size) (hl : w'.ownsRow w.heap.size 40 6 lv' l'.length (flat6 l')) (hgr : Grew wr lv lv' w') : QS B w g lv' A l' o c w' :=
  ⟨h.mkr.grown hgr.grown (h.mkr.ne h.lo (by decide)) (fun b e => by have := own_ge h.lo b e; omega), hl, h.orr.kept hgr.grown (fun b cur _ hb e => own_blk_ne h.lo hb (by decide) e.symm), grown_then h.gr hgr.grown (fun b e => .inr (own_ge h.lo b e))⟩
theorem PS.open_ {n cap : Nat} (h : PS B w g lv (.slice A n cap) l o c wr) : QS B w g lv A l o c wr := by
  refine ⟨h.mkr, h.lo, ?_, h.gr⟩
  by_cases hn : o = []
  · exact .inl hn
  · have hpos : 0 < o.length := List.length_pos_iff.2 hn
    rcases h.oo.2 with ⟨_, h0⟩ | ⟨b, cap', cur, hv, hB, hb, hn', hm, hs, ht⟩
    · omega
    · injection hv with h1 h2 h3
      refine .inr ⟨b, 0, cur, h1, hB, hb, fun j hj => ?_⟩
      have := congrArg (fun L => L[j]?) ht
      simp only [Nat.mul_one] at this
      rw [List.getElem?_take, if_pos hj, List.getElem?_map, List.getElem?_eq_getElem hj] at this
      rw [Nat.zero_add]
      simpa using this
/-- The first open node: its cell, and the rest. -/
theorem QS.head {a : Int} {r : List Int} (h : QS B w g lv A l (a :: r) c wr) : ∃ b off, A = some ⟨b, off, none⟩ ∧ wr.cell? ⟨b, off, none⟩ = some (.int .i64 a) := by
  rcases h.orr with h0 | ⟨b, off, cur, h1, h2, h3, h4⟩
  · cases h0
  · exact ⟨b, off, h1, by rw [h3.cell]; exact h4 0 (by simp)⟩
theorem QS.apart_ {a : Int} {r : List Int} {b off : Nat} (h : QS B w g lv (some ⟨b, off, none⟩) l (a :: r) c wr) : lv.ownBlock ≠ some b := by
  rcases h.orr with h0 | ⟨b', off', cur, h1, h2, h3, h4⟩
  · cases h0
  · injection h1 with h1
    injection h1 with h5 _ _
    subst h5
    exact own_blk_ne h.lo h3 (by decide)
theorem QS.tail {a : Int} {r : List Int} {b off cap : Nat} (h : QS B w g lv (some ⟨b, off, none⟩) l (a :: r) c wr) (hcap : r.length + 1 ≤ cap) : QS B w g lv (if cap = 1 then some ⟨b, off, none⟩ else some ⟨b, off + 1, none⟩) l r c wr := by
  refine ⟨h.mkr, h.lo, ?_, h.gr⟩
  by_cases hr : r = []
  · exact .inl hr
  · have hpos : 0 < r.length := List.length_pos_iff.2 hr
    rcases h.orr with h0 | ⟨b', off', cur, h1, h2, h3, h4⟩
    · cases h0
    · injection h1 with h1
      injection h1 with h5 h6 _
      subst h5; subst h6
      rw [if_neg (by omega)]
      refine .inr ⟨b, off + 1, cur, rfl, h2, h3, fun j hj => ?_⟩
      have := h4 (j + 1) (by simp; omega)
      rw [show off + 1 + j = off + (j + 1) by omega, this]
      rfl
end
theorem step_pushb {P : Program} {w0 : World} {e' : TypeId} {cs : Array Value} {ops : Array Oper} {o : Oper} {a : Act} {K : Act → World → Prop} {Q : Exit → Act → World → Prop} {E : Prop} {t e : TypeId} {size bytes : Nat} (S : SlT P t e size bytes)
    (hgd : o.guard = none) (s x : Operand) (ho : o.op = .call { callee := .builtin .append, args := #[s, x], argTypes := #[t, t] })
    (B : Nat) (v : Value) (n : Nat) (xs : List Value) (hs : a.eval s = v) (hown : w0.ownsRow B e size v n xs)
    (m c : Nat) (bk : Nat) (hbk : bk = w0.heap.size) (hx : a.eval x = .slice (some ⟨bk, 0, none⟩) m c) (hl : cs.size = m * size) (h1 : cs.toList.all (·.oneCell') = true)
    (h63 : n + m ≤ maxLen) (hbytes : (n + m) * bytes ≤ 140737488355328) (hbase : B ≤ w0.heap.size)
    (h : ∀ v' w', w'.ownsRow B e size v' (n + m) (xs ++ cs.toList) → Grew w0 v v' w' → K (a.put o.dst v') w') : if Region.wanted o (yielded ops a.tmps) = true then Oper.wp P o a (w0.alloc (.cells cs e')) K Q else E := by
  subst hbk
  have hw : Region.wanted o (yielded ops a.tmps) = true := by simp [Region.wanted, hgd]
  rw [if_pos hw]
  obtain ⟨i, z, hi, hz, hsize, hby, hzs⟩ := S.info
  obtain ⟨v', w', hrun, h2, h3, _, h5⟩ := run_append_own_at (P := P) (w0.alloc (.cells cs e')) B t o.type e i z size bytes S.under hi hz hsize hby hzs S.pos v n xs (hown.alloc _) ⟨w0.heap.size, 0, none⟩ m c cs.toList (by simpa using hl)
    (cell_new_row w0 cs e') (fun u hu => List.all_eq_true.1 h1 u hu) h63 hbytes (by simp; omega)
  unfold Oper.wp execOp
  simp only [ho, resolve, invoke, builtin, Sem.run_bind, Sem.run_pure, Result.andThen_ok, List.map_toArray, List.map_cons, List.map_nil, hs, hx, hrun]
  refine h v' w' h2 ⟨(World.grownBy_alloc w0 _ v.ownBlock).trans h3, ?_⟩
  rcases h5 with h5 | h5
  · exact .inl h5
  · exact .inr ⟨_, h5, by simp⟩
def PlJ (B : Nat) (w : World) (g c n : Nat) (lv ov vn : Value) (wr : World) : Prop := ∃ (l : List PE) (o : List Int) (nx : Int) (c' : Nat) (A : Option Addr) (cp : Nat), ov = .slice A o.length cp ∧ o.length ≤ cp ∧ cp ≤ maxLen ∧ vn = .int .i64 nx ∧ Pl.PInv l o nx ∧ nx ≤ 64 ∧ 1 ≤ l.length ∧ l.length + o.length ≤ 3 * n + 4 ∧ c' + o.length ≤ c + 10 * n + 10 ∧ QS B w g lv A l o c' wr
set_option maxRecDepth 100000 in
set_option maxHeartbeats 8000000 in
theorem plant_c (B g c n : Nat) (w : World) (h : Mk B w g c) (hc : c ≤ 2305843009213693952) (hn : n ≤ 24) (hB : B ≤ w.heap.size) :
    Calls Tryd.prog 10 #[.pointer (some ⟨g, 0, none⟩), .int .i64 (n : Int)] w (PlantR B w g c n) := by
  have hgw := h.lt
  go_enter Tryd.func10, Tryd.ntmps10
  go_wp2_with fail
  refine (pname_c 0 w (by omega)).mono ?_
  rintro e w1 ⟨rfl, hb1⟩
  have hsz1 := hb1.size
  have h1 := h.below hb1
  have hS0 : PS B w g (.slice (some ⟨w1.heap.size, 0, none⟩) 1 1) (.slice (some ⟨w1.heap.size + 1, 0, none⟩) 1 1) [⟨1, Pl.pname 0, 0, 1, 0, 500⟩] [1] c ((w1.alloc (.cells #[.int .i64 1, .string (Pl.pname 0), .int .i64 0, .int .i64 1, .int .i64 0, .int .i64 500] 40)).alloc (.cells #[.int .i64 1] 3)) := by
    refine ⟨(h1.alloc _).alloc _, ?_, ?_, ?_⟩
    · exact (World.ownsRow_lit w1 _ 1 hsz1 (by simp [maxLen]) rfl).alloc _
    · have := World.ownsRow_lit (base := w.heap.size) (e := 3) (size := 1) (w1.alloc (.cells #[.int .i64 1, .string (Pl.pname 0), .int .i64 0, .int .i64 1, .int .i64 0, .int .i64 500] 40)) #[.int .i64 1] 1 (by simp; omega) (by simp [maxLen]) rfl
      simpa using this
    · have h2 : Below w.heap.size w ((w1.alloc (.cells #[.int .i64 1, .string (Pl.pname 0), .int .i64 0, .int .i64 1, .int .i64 0, .int .i64 500] 40)).alloc (.cells #[.int .i64 1] 3)) := (hb1.alloc hsz1 _).alloc (by simp; omega) _
      exact ⟨h2.os, h2.tape, h2.output, h2.size, fun i hi _ => h2.block i hi⟩
  have HS0 := Lib.hid hS0
  have hm0 := hS0.mkr
  clear hS0 h1
  go_wp2_with fail
  refine (next_c B g c 2 _ hm0 (by omega) (by omega) (by omega)).mono ?_
  rintro e w2 ⟨x, hx0, hx1, rfl, hm2, hg2⟩
  have hS2 := HS0.out.next hm2 hg2
  clear hm2 hg2 hm0 HS0
  have hsz2 := hS2.gr.size
  go_upto_if 17 with fail
  go_cut [6] (fun ov wx => ∃ o, (o = [1] ∨ o = [1, 0]) ∧ PS B w g (.slice (some ⟨w1.heap.size, 0, none⟩) 1 1) ov [⟨1, Pl.pname 0, 0, 1, 0, 500⟩] o (c + 1) wx)
  case first =>
    by_cases hx : x = 0
    · have d1 : (x == 0) = true := by simp [hx]
      rw [d1]
      have hoo := hS2.oo
      go_wp2_with (at_builtin
                   go_must (
                   refine wpList_push sl_int rfl (.tmp 18) (.tmp 19) rfl w.heap.size _ 1 _ rfl hoo 1 1 rfl rfl rfl (by simp [maxLen]) (by omega) hsz2 ?_
                   intro v' w3 own3 hgr
                   have hS3 := hS2.pushO (o' := [1, 0]) hB own3 hgr))
      go_meet
      exact ⟨[1, 0], .inr rfl, hS3⟩
    · have d1 : (x == 0) = false := by simp [hx]
      rw [d1]
      go_wp2_with fail
      go_meet
      exact ⟨[1], .inl rfl, hS2⟩
  case rest =>
    obtain ⟨o0, ho0, hS⟩ := hcut
    have hI0 := Lib.hid (Pl.PInv.start o0 ho0)
    have hol0 : o0.length ≤ 2 := by rcases ho0 with rfl | rfl <;> simp
    clear ho0 hS2 hsz2 hx0 hx1
    go_wp2_with fail
    go_loopw [5, 6, 7] (fun lv ov vn wr => PlI B w g c n lv ov vn wr) (fun lv _ _ _ => n + 1 - lenOf lv)
    case atStart => exact (show PlI _ _ _ _ _ _ _ _ _ from ⟨_, o0, 2, c + 1, rfl, hI0.out, by omega, by simp, .inr (by simp), by simpa using hol0, by simp, hS⟩)
    case round =>
      obtain ⟨l, o, nx, c', rfl, hI, hnx, hl1, hln, hol, hcc, hS⟩ := hrel
      have HI := Lib.hid hI
      have hnx2 := hI.two
      clear hI hol0 hI0
      obtain ⟨Al, cl, hlv, hcl1, hcl2⟩ := own_form hS.lo
      obtain ⟨Ao, co, hov, hco1, hco2⟩ := own_form hS.oo
      subst hlv hov
      have hszr := hS.gr.size
      by_cases h1 : l.length < n
      · have d1 : decide ((l.length : Int) < (n : Int)) = true := by simp; omega
        have d1' : decide (l.length < n) = true := by simp; omega
        by_cases h2 : 0 < o.length
        · have d2 : decide ((0 : Int) < (o.length : Int)) = true := by simp; omega
          have d2' : decide (0 < o.length) = true := by simp; omega
          by_cases h3 : nx < 62
          · have d3 : decide (nx < 62) = true := by simp; omega
            go_wp2_with fail
            refine (next_c B g c' (o.length : Int) _ hS.mkr (by omega) (by omega) (by omega)).mono ?_
            rintro e w3 ⟨i0, hi0, hi1, rfl, hm3, hg3⟩
            obtain ⟨i, rfl⟩ := Int.eq_ofNat_of_zero_le hi0
            have hin : i < o.length := by omega
            have hS3 := hS.next hm3 hg3
            clear hS hm3 hg3 d1 d1' d2 d2' d3
            obtain ⟨bo, rfl⟩ : ∃ bo, Ao = some ⟨bo, 0, none⟩ := by
              obtain ⟨g', cap', hv, _⟩ := hS3.oo.form (by omega)
              injection hv with hv
              exact ⟨g', hv⟩
            have hci := own_cell hS3.oo hin
            obtain ⟨at_, hat⟩ : ∃ a, o.getD i 0 = a := ⟨_, rfl⟩
            rw [hat] at hci
            have Hat := Lib.hid hat
            clear hat
            obtain ⟨ii, z, hii, hz, hiz1, hiz2, hzs⟩ := sl_int.info
            obtain ⟨N, hN⟩ : ∃ N, o.length = N := ⟨_, rfl⟩
            have hoo3 := hS3.oo
            rw [hN] at hoo3 hin hi1 hco1 h2 ⊢
            have HN := Lib.hid hN
            obtain ⟨A, hA, hnews⟩ : ∃ A : Addr, (if co = i + 1 then some (⟨bo, 0, none⟩ : Addr) else some ⟨bo, i + 1, none⟩) = some A ∧ Hid (∀ j u, ((o.drop (i + 1)).map (Value.int .i64))[j]? = some u → w3.drew.cell? (A.add j) = some u) := by
              by_cases h : co = i + 1
              · refine ⟨_, by rw [if_pos h], Lib.hid fun j u hu => ?_⟩
                rw [List.drop_of_length_le (by omega)] at hu
                simp at hu
              · refine ⟨_, by rw [if_neg h], Lib.hid fun j u hu => ?_⟩
                have hj : i + 1 + j < o.length := by
                  have := (List.getElem?_eq_some_iff.1 hu).1
                  simp at this
                  omega
                rw [List.getElem?_map, List.getElem?_drop, List.getElem?_eq_getElem hj] at hu
                simp only [Option.map_some, Option.some.injEq] at hu
                have hcj := own_cell hoo3 (j := i + 1 + j) (by omega)
                rw [List.getD_eq_getElem?_getD, List.getElem?_eq_getElem hj] at hcj
                rw [← hu]
                have e1 : ((⟨bo, i + 1, none⟩ : Addr).add j) = ⟨bo, i + 1 + j, none⟩ := by
                  unfold Addr.add
                  by_cases hj : j = 0 <;> simp [hj]
                rw [e1]
                exact hcj
            have s1 : Hid (((o.drop (i + 1)).map (Value.int .i64)).length = (N - (i + 1)) * 1) := Lib.hid (by simp; omega)
            have s2 : Hid (∀ u ∈ (o.drop (i + 1)).map (Value.int .i64), u.oneCell' = true) := Lib.hid (fun u hu => by
              obtain ⟨x, _, rfl⟩ := List.mem_map.1 hu
              rfl)
            have s3 : Hid (∀ j, j < ((o.drop (i + 1)).map (Value.int .i64)).length → (w3.drew.cell? ⟨bo, 0 + i * 1 + j, none⟩).isSome = true ∧ w3.drew.frozen? ⟨bo, 0 + i * 1 + j, none⟩ = false) := Lib.hid (fun j hj => by
              simp only [List.length_map, List.length_drop] at hj
              rw [show 0 + i * 1 + j = i + j by omega]
              exact ⟨by show (w3.cell? _).isSome = true; rw [own_cell hoo3 (j := i + j) (by omega)]; rfl, hoo3.frozenAt (i + j)⟩)
            have hic : i ≤ co := by omega
            have hwr : IntKind.i64.wrap ((i : Int) + 1) = (i : Int) + 1 := IntWalk.i64_in _ ⟨by omega, by unfold maxLen at hco2; omega⟩
            have hp0 : (0 : Int) ≤ (i : Int) + 1 := by omega
            have hp1 : (i : Int) + 1 ≤ (N : Int) := by omega
            have hp2 : ((i : Int) + 1).toNat = i + 1 := by omega
            rw [hN] at hol
            clear hN
            go_wp2_with fail
            go_region_law (refine step_append_room rfl (.tmp 44) (.tmp 48) 22 rfl 3 ii 1 Tryd.underlying22 hii hiz1 bo 0 i co (by simp [Act.eval, Act.put]) A (N - (i + 1)) (co - (i + 1)) ((o.drop (i + 1)).map (Value.int .i64)) (by simp [Act.eval, Act.put]) s1.out hnews.out s2.out (by omega) s3.out ?_)
            go_wp2_with fail
            obtain ⟨M, hM⟩ : ∃ M, i + (N - (i + 1)) = M := ⟨_, rfl⟩
            have hdm : List.drop (i + 1) (List.map (Value.int .i64) o) = (o.drop (i + 1)).map (Value.int .i64) := List.map_drop.symm
            have hS5 := PS.del (wr := w3.drew) (n := N) ⟨⟨hS3.mkr.ge, hS3.mkr.blk⟩, hS3.lo, by rw [HN.out]; exact hoo3, ⟨hS3.gr.os, hS3.gr.tape, hS3.gr.output, hS3.gr.size, hS3.gr.block⟩⟩ hB HN.out hin
            rw [hM] at hS5 ⊢
            rw [hdm]
            obtain ⟨W5, hW5⟩ : ∃ W5, w3.drew.setCells bo i ((o.drop (i + 1)).map (Value.int .i64)) = W5 := ⟨_, rfl⟩
            rw [hW5] at hS5 ⊢
            obtain ⟨p, hp⟩ : ∃ p, o.take i = p := ⟨_, rfl⟩
            obtain ⟨q, hq⟩ : ∃ q, o.drop (i + 1) = q := ⟨_, rfl⟩
            have hopq : o = p ++ at_ :: q := by
              rw [← hp, ← hq, ← Hat.out, List.getD_eq_getElem?_getD, List.getElem?_eq_getElem (by have := HN.out; omega), Option.getD_some, ← List.drop_eq_getElem_cons, List.take_append_drop]
            rw [hp, hq] at hS5
            have hMl : (p ++ q).length = M := by rw [← hp, ← hq, ← hM]; simp; have := HN.out; omega
            have HMl := Lib.hid hMl
            have hMN : M ≤ l.length := by omega
            have Hop := Lib.hid (hopq ▸ HI.out)
            have hlo5 := hS5.gr.size
            clear hW5 hp hq hopq hMl hdm hM hnews s1 s2 s3 hA hic hwr hp0 hp1 hp2 hci hS3 hoo3 hii hz hiz1 hiz2 hzs hin hi0 hi1
            refine (pname_c l.length W5 (by omega)).mono ?_
            rintro e w6 ⟨rfl, hb6⟩
            have hS6 := hS5.below hb6
            have hlt6 := own_lt hS6.lo
            have hS7 := hS6.below ((Below.refl w6.heap.size w6).alloc (Nat.le_refl _) (.cells #[.int .i64 0, .string (Pl.pname l.length), .int .i64 0, .int .i64 0, .int .i64 0, .int .i64 0] 40))
            have hsz6 := hS6.gr.size
            have hx7 := Blk.new w6 40 #[.int .i64 0, .string (Pl.pname l.length), .int .i64 0, .int .i64 0, .int .i64 0, .int .i64 0]
            clear hS5 hb6 hlo5
            go_wp2_with fail
            refine (next_c B g (c' + 1) 6 _ hS7.mkr (by omega) (by omega) (by omega)).mono ?_
            rintro e w8 ⟨t, ht0, ht1, rfl, hm8, hg8⟩
            have hS8 := hS7.next hm8 hg8
            have hx8 := hx7.grown hg8 (fun e => by have := Option.some.inj e; omega)
            have Hlv := Lib.hid (show (Value.slice Al l.length cl).ownBlock ≠ some w6.heap.size from fun e => by have := hlt6 _ e; omega)
            clear hS7 hm8 hg8 hx7 hlt6 hS6
            have hP : PX B w g (.slice Al l.length cl) (.slice (some ⟨bo, 0, none⟩) M co) l (p ++ q) (c' + 1 + 1) w6.heap.size #[.int .i64 0, .string (Pl.pname l.length), .int .i64 0, .int .i64 0, .int .i64 0, .int .i64 0] w8 := ⟨hS8, hx8, Hlv.out, hsz6⟩
            clear hS8 hx8
            have hl96 : l.length < 96 := by omega
            have hMle : (p ++ q).length ≤ l.length := by rw [HMl.out]; exact hMN
            have xc0 : w8.cell? ⟨w6.heap.size, 0, none⟩ = some (.int .i64 0) := hP.blk.cell 0
            have xc1 : w8.cell? ⟨w6.heap.size, 1, none⟩ = some (.string (Pl.pname l.length)) := hP.blk.cell 1
            have xc2 : w8.cell? ⟨w6.heap.size, 2, none⟩ = some (.int .i64 0) := hP.blk.cell 2
            have xc3 : w8.cell? ⟨w6.heap.size, 3, none⟩ = some (.int .i64 0) := hP.blk.cell 3
            have xc4 : w8.cell? ⟨w6.heap.size, 4, none⟩ = some (.int .i64 0) := hP.blk.cell 4
            have xc5 : w8.cell? ⟨w6.heap.size, 5, none⟩ = some (.int .i64 0) := hP.blk.cell 5
            have xf0 := hP.blk.frozen 0
            have xf1 := hP.blk.frozen 1
            have xf2 := hP.blk.frozen 2
            have xf3 := hP.blk.frozen 3
            have xf4 := hP.blk.frozen 4
            have xf5 := hP.blk.frozen 5
            go_upto_block 2 with fail
            go_cut [6, 7] (fun ov vn wx => CutI B w g c' w6.heap.size (.slice Al l.length cl) l ov vn wx)
            case first =>
              have ht : t = 0 ∨ t = 1 ∨ t = 2 ∨ t = 3 ∨ (t ≠ 0 ∧ t ≠ 1 ∧ t ≠ 2 ∧ t ≠ 3) := by omega
              rcases ht with ht | ht | ht | ht | ⟨h0, h1, h2, h3⟩
              · have e0 : (t == 0) = true := by simp [ht]
                clear ht
                have hP4 := ((((hP.set hB hgw 0 (.int .i64 2)).set hB hgw 2 (.int .i64 at_)).set hB hgw 3 (.int .i64 nx)).set hB hgw 4 (.int .i64 (nx + 1)))
                have HI2 := Lib.hid (Pl.PInv.sw Hop.out hl96 h3 ⟨2, Pl.pname l.length, at_, nx, nx + 1, 0⟩ (.inl rfl))
                clear hP
                go_wp2_with (at_builtin
                             go_must (
                             refine wpList_pushb sl_int rfl (.tmp 107) (.tmp 111) rfl w.heap.size _ _ _ rfl hP4.ps.oo 2 2 w8.heap.size (by simp) rfl rfl rfl (by rw [HMl.out]; simp only [maxLen]; omega) (by rw [HMl.out]; omega) hP4.ps.gr.size ?_
                             intro v' w9 own9 hgr
                             have hP9 := hP4.pushO (o' := p ++ q ++ [nx, nx + 1]) hB (own_app (L := p ++ q) (L2 := [nx, nx + 1]) own9) hgr))
                go_meet
                exact ⟨_, _, _, _, rfl, by simpa using hP9, HI2.out, by omega, by simp only [List.length_append, List.length_cons, List.length_nil] at hMle ⊢; omega, by omega⟩
              · have e0 : (t == 0) = false := by simp [ht]
                have e1 : (t == 1) = true := by simp [ht]
                clear ht
                have hP4 := ((((hP.set hB hgw 0 (.int .i64 2)).set hB hgw 2 (.int .i64 at_)).set hB hgw 3 (.int .i64 nx)).set hB hgw 4 (.int .i64 (nx + 1)))
                have HI2 := Lib.hid (Pl.PInv.sw Hop.out hl96 h3 ⟨2, Pl.pname l.length, at_, nx, nx + 1, 0⟩ (.inl rfl))
                clear hP
                go_wp2_with (at_builtin
                             go_must (
                             refine wpList_pushb sl_int rfl (.tmp 107) (.tmp 111) rfl w.heap.size _ _ _ rfl hP4.ps.oo 2 2 w8.heap.size (by simp) rfl rfl rfl (by rw [HMl.out]; simp only [maxLen]; omega) (by rw [HMl.out]; omega) hP4.ps.gr.size ?_
                             intro v' w9 own9 hgr
                             have hP9 := hP4.pushO (o' := p ++ q ++ [nx, nx + 1]) hB (own_app (L := p ++ q) (L2 := [nx, nx + 1]) own9) hgr))
                go_meet
                exact ⟨_, _, _, _, rfl, by simpa using hP9, HI2.out, by omega, by simp only [List.length_append, List.length_cons, List.length_nil] at hMle ⊢; omega, by omega⟩
              · have e0 : (t == 0) = false := by simp [ht]
                have e1 : (t == 1) = false := by simp [ht]
                have e2 : (t == 2) = true := by simp [ht]
                clear ht
                have hP4 := ((((hP.set hB hgw 0 (.int .i64 2)).set hB hgw 2 (.int .i64 nx)).set hB hgw 3 (.int .i64 at_)).set hB hgw 4 (.int .i64 (nx + 1)))
                have HI2 := Lib.hid (Pl.PInv.sw Hop.out hl96 h3 ⟨2, Pl.pname l.length, nx, at_, nx + 1, 0⟩ (.inr rfl))
                clear hP
                go_wp2_with (at_builtin
                             go_must (
                             refine wpList_pushb sl_int rfl (.tmp 125) (.tmp 129) rfl w.heap.size _ _ _ rfl hP4.ps.oo 2 2 w8.heap.size (by simp) rfl rfl rfl (by rw [HMl.out]; simp only [maxLen]; omega) (by rw [HMl.out]; omega) hP4.ps.gr.size ?_
                             intro v' w9 own9 hgr
                             have hP9 := hP4.pushO (o' := p ++ q ++ [nx, nx + 1]) hB (own_app (L := p ++ q) (L2 := [nx, nx + 1]) own9) hgr))
                go_meet
                exact ⟨_, _, _, _, rfl, by simpa using hP9, HI2.out, by omega, by simp only [List.length_append, List.length_cons, List.length_nil] at hMle ⊢; omega, by omega⟩
              · have e0 : (t == 0) = false := by simp [ht]
                have e1 : (t == 1) = false := by simp [ht]
                have e2 : (t == 2) = false := by simp [ht]
                have e3 : (t == 3) = true := by simp [ht]
                clear ht
                have hP4 := (((hP.set hB hgw 0 (.int .i64 3)).set hB hgw 2 (.int .i64 at_)).set hB hgw 3 (.int .i64 nx))
                have HI2 := Lib.hid (Pl.PInv.two_ Hop.out hl96 (by omega) ⟨3, Pl.pname l.length, at_, nx, 0, 0⟩ (.inl rfl) (.inr rfl))
                clear hP
                go_wp2_with (at_builtin
                             go_must (
                             refine wpList_pushb sl_int rfl (.tmp 140) (.tmp 142) rfl w.heap.size _ _ _ rfl hP4.ps.oo 1 1 w8.heap.size (by simp) rfl rfl rfl (by rw [HMl.out]; simp only [maxLen]; omega) (by rw [HMl.out]; omega) hP4.ps.gr.size ?_
                             intro v' w9 own9 hgr
                             have hP9 := hP4.pushO (o' := p ++ q ++ [nx]) hB (own_app (L := p ++ q) (L2 := [nx]) own9) hgr))
                go_meet
                exact ⟨_, _, _, _, rfl, by simpa using hP9, HI2.out, by omega, by simp only [List.length_append, List.length_cons, List.length_nil] at hMle ⊢; omega, by omega⟩
              · have e0 : (t == 0) = false := by simp [h0]
                have e1 : (t == 1) = false := by simp [h1]
                have e2 : (t == 2) = false := by simp [h2]
                have e3 : (t == 3) = false := by simp [h3]
                clear h0 h1 h2 h3
                have hPa := hP.below ((Below.refl w8.heap.size w8).alloc (Nat.le_refl _) (.cells #[.int .i64 1, .int .i64 300, .int .i64 100000] 3))
                have hIR : IR .i64 (w8.alloc (.cells #[.int .i64 1, .int .i64 300, .int .i64 100000] 3)) (some ⟨w8.heap.size, 0, none⟩) 3 [1, 300, 100000] := IR.new _ 3 rfl rfl (by simp [maxLen])
                have hgl := hP.ps.mkr.lt
                go_wp2_with fail
                refine (pick_c B g (c' + 1 + 1) w8.heap.size 3 3 [1, 300, 100000] _ hPa.ps.mkr (by omega) (by omega) (by omega) (by omega) hIR).mono ?_
                rintro e wa ⟨y, hy, rfl, hma, hga⟩
                have hPb := hPa.next hgw hma hga
                have hy1 : 1 ≤ y := by simp at hy; omega
                have hy2 : y ≤ 100000 := by simp at hy; omega
                clear hy hma hga hPa hIR hP xc0 xc1 xc2 xc3 xc4 xc5 xf0 xf1 xf2 xf3 xf4 xf5
                have xc0 : wa.cell? ⟨w6.heap.size, 0, none⟩ = some (.int .i64 0) := hPb.blk.cell 0
                have xc1 : wa.cell? ⟨w6.heap.size, 1, none⟩ = some (.string (Pl.pname l.length)) := hPb.blk.cell 1
                have xc2 : wa.cell? ⟨w6.heap.size, 2, none⟩ = some (.int .i64 0) := hPb.blk.cell 2
                have xc3 : wa.cell? ⟨w6.heap.size, 3, none⟩ = some (.int .i64 0) := hPb.blk.cell 3
                have xc4 : wa.cell? ⟨w6.heap.size, 4, none⟩ = some (.int .i64 0) := hPb.blk.cell 4
                have xc5 : wa.cell? ⟨w6.heap.size, 5, none⟩ = some (.int .i64 0) := hPb.blk.cell 5
                have xf0 := hPb.blk.frozen 0
                have xf1 := hPb.blk.frozen 1
                have xf2 := hPb.blk.frozen 2
                have xf3 := hPb.blk.frozen 3
                have xf4 := hPb.blk.frozen 4
                have xf5 := hPb.blk.frozen 5
                have hP4 := ((((hPb.set hB hgw 0 (.int .i64 1)).set hB hgw 2 (.int .i64 at_)).set hB hgw 3 (.int .i64 nx)).set hB hgw 5 (.int .i64 y))
                clear hPb
                go_wp2_with fail
                refine (next_c B g (c' + 1 + 1 + 1) 3 _ hP4.ps.mkr (by omega) (by omega) (by omega)).mono ?_
                rintro e wb ⟨zz, hz0, hz1, rfl, hmb, hgb⟩
                have hP5 : PX B w g (.slice Al l.length cl) (.slice (some ⟨bo, 0, none⟩) M co) l (p ++ q) (c' + 1 + 1 + 1 + 1) w6.heap.size #[.int .i64 1, .string (Pl.pname l.length), .int .i64 at_, .int .i64 nx, .int .i64 0, .int .i64 y] wb := by simpa using hP4.next hgw hmb hgb
                clear hmb hgb hP4 xc0 xc1 xc2 xc3 xc4 xc5 xf0 xf1 xf2 xf3 xf4 xf5
                by_cases hz : zz = 0
                · have e5 : (zz == 0) = true := by simp [hz]
                  clear hz
                  by_cases hM0 : 0 < M
                  · obtain ⟨K, rfl⟩ : ∃ K, M = K + 1 := ⟨M - 1, by omega⟩
                    have xc0 : wb.cell? ⟨w6.heap.size, 0, none⟩ = some (.int .i64 1) := hP5.blk.cell 0
                    have xc1 : wb.cell? ⟨w6.heap.size, 1, none⟩ = some (.string (Pl.pname l.length)) := hP5.blk.cell 1
                    have xc2 : wb.cell? ⟨w6.heap.size, 2, none⟩ = some (.int .i64 at_) := hP5.blk.cell 2
                    have xc3 : wb.cell? ⟨w6.heap.size, 3, none⟩ = some (.int .i64 nx) := hP5.blk.cell 3
                    have xc4 : wb.cell? ⟨w6.heap.size, 4, none⟩ = some (.int .i64 0) := hP5.blk.cell 4
                    have xc5 : wb.cell? ⟨w6.heap.size, 5, none⟩ = some (.int .i64 y) := hP5.blk.cell 5
                    have xf0 := hP5.blk.frozen 0
                    have xf1 := hP5.blk.frozen 1
                    have xf2 := hP5.blk.frozen 2
                    have xf3 := hP5.blk.frozen 3
                    have xf4 := hP5.blk.frozen 4
                    have xf5 := hP5.blk.frozen 5
                    have hoo5 : wb.ownsRow w.heap.size 3 1 (.slice (some ⟨bo, 0, none⟩) (K + 1) co) (K + 1) ((p ++ q).map (Value.int .i64)) := by have := hP5.ps.oo; rwa [HMl.out] at this
                    have hcK := own_cell hoo5 (j := K) (by omega)
                    have hKc : K ≤ co := by
                      obtain ⟨A', cc, hv, hv1, _⟩ := own_form hoo5
                      injection hv with _ _ e1
                      omega
                    have hrb : p ++ q = (p ++ q).take K ++ [(p ++ q).getD K 0] := by
                      have hK : K < (p ++ q).length := by rw [HMl.out]; omega
                      rw [List.getD_eq_getElem?_getD, List.getElem?_eq_getElem hK, Option.getD_some, List.take_append_getElem, List.take_of_length_le (by rw [HMl.out]; exact Nat.le_refl _)]
                    have hrl : ((p ++ q).take K).length = K := by rw [List.length_take, HMl.out]; omega
                    generalize (p ++ q).take K = r at hrb hrl
                    generalize (p ++ q).getD K 0 = b at hrb hcK
                    have hP6 := hP5.set hB hgw 3 (.int .i64 b)
                    rw [hrb] at hP6
                    have hP7 : PX B w g (.slice Al l.length cl) (.slice (some ⟨bo, 0, none⟩) K co) l r (c' + 1 + 1 + 1 + 1) w6.heap.size #[.int .i64 1, .string (Pl.pname l.length), .int .i64 at_, .int .i64 b, .int .i64 0, .int .i64 y] (wb.setCell ⟨w6.heap.size, 3, none⟩ (.int .i64 b)) := ⟨hP6.ps.init hrl, by simpa using hP6.blk, hP6.ne, hP6.ge⟩
                    have HI2 := Lib.hid (Pl.PInv.join Hop.out hrb hl96 (by omega) ⟨1, Pl.pname l.length, at_, b, 0, y⟩ hy1 hy2 rfl)
                    have hrl2 : r.length ≤ l.length + 2 := by omega
                    clear hrb hP6 hoo5 hrl hP5
                    go_wp2_with fail
                    go_meet
                    exact ⟨_, _, _, _, rfl, hP7, HI2.out, by omega, hrl2, by omega⟩
                  · obtain rfl : M = 0 := by omega
                    go_wp2_with fail
                    refine (next_c B g (c' + 1 + 1 + 1 + 1) 2 _ hP5.ps.mkr (by omega) (by omega) (by omega)).mono ?_
                    rintro e wc ⟨u, hu0, hu1, rfl, hmc, hgc⟩
                    have hP6 := hP5.next hgw hmc hgc
                    clear hmc hgc
                    by_cases hu : u = 0
                    · have e7 : (u == 0) = true := by simp [hu]
                      clear hu
                      have HI2 := Lib.hid (Pl.PInv.two_ Hop.out hl96 (by omega) ⟨1, Pl.pname l.length, at_, nx, 0, y⟩ (.inr ⟨y, hy1, hy2, rfl⟩) (.inr rfl))
                      go_wp2_with (at_builtin
                                   go_must (
                                   refine wpList_push sl_int rfl (.tmp 88) (.tmp 90) rfl w.heap.size _ _ _ rfl hP6.ps.oo 1 1 rfl rfl rfl (by rw [HMl.out]; simp only [maxLen]; omega) (by rw [HMl.out]; omega) hP6.ps.gr.size ?_
                                   intro v' w9 own9 hgr
                                   have hP9 := hP6.pushO (o' := p ++ q ++ [nx]) hB (own_app (L := p ++ q) (L2 := [nx]) own9) hgr))
                      go_meet
                      exact ⟨_, _, _, _, rfl, hP9, HI2.out, by omega, by simp only [List.length_append, List.length_cons, List.length_nil] at hMle ⊢; omega, by omega⟩
                    · have e7 : (u == 0) = false := by simp [hu]
                      clear hu
                      have HI2 := Lib.hid (Pl.PInv.two_ Hop.out hl96 (by omega) ⟨1, Pl.pname l.length, at_, nx, 0, y⟩ (.inr ⟨y, hy1, hy2, rfl⟩) (.inl rfl))
                      go_wp2_with fail
                      go_meet
                      exact ⟨_, _, _, _, rfl, hP6, HI2.out, by omega, by omega, by omega⟩
                · have e5 : (zz == 0) = false := by simp [hz]
                  clear hz
                  go_wp2_with fail
                  refine (next_c B g (c' + 1 + 1 + 1 + 1) 2 _ hP5.ps.mkr (by omega) (by omega) (by omega)).mono ?_
                  rintro e wc ⟨u, hu0, hu1, rfl, hmc, hgc⟩
                  have hP6 := hP5.next hgw hmc hgc
                  clear hmc hgc
                  by_cases hu : u = 0
                  · have e7 : (u == 0) = true := by simp [hu]
                    clear hu
                    have HI2 := Lib.hid (Pl.PInv.two_ Hop.out hl96 (by omega) ⟨1, Pl.pname l.length, at_, nx, 0, y⟩ (.inr ⟨y, hy1, hy2, rfl⟩) (.inr rfl))
                    go_wp2_with (at_builtin
                                 go_must (
                                 refine wpList_push sl_int rfl (.tmp 88) (.tmp 90) rfl w.heap.size _ _ _ rfl hP6.ps.oo 1 1 rfl rfl rfl (by rw [HMl.out]; simp only [maxLen]; omega) (by rw [HMl.out]; omega) hP6.ps.gr.size ?_
                                 intro v' w9 own9 hgr
                                 have hP9 := hP6.pushO (o' := p ++ q ++ [nx]) hB (own_app (L := p ++ q) (L2 := [nx]) own9) hgr))
                    go_meet
                    exact ⟨_, _, _, _, rfl, hP9, HI2.out, by omega, by simp only [List.length_append, List.length_cons, List.length_nil] at hMle ⊢; omega, by omega⟩
                  · have e7 : (u == 0) = false := by simp [hu]
                    clear hu
                    have HI2 := Lib.hid (Pl.PInv.two_ Hop.out hl96 (by omega) ⟨1, Pl.pname l.length, at_, nx, 0, y⟩ (.inr ⟨y, hy1, hy2, rfl⟩) (.inl rfl))
                    go_wp2_with fail
                    go_meet
                    exact ⟨_, _, _, _, rfl, hP6, HI2.out, by omega, by omega, by omega⟩
            case rest =>
              obtain ⟨x, o', nx', c'', rfl, hP, hI2, hnx', hol', hcc'⟩ := hcut
              have HI2 := Lib.hid hI2
              have xc0 : wc.cell? ⟨w6.heap.size, 0, none⟩ = some (.int .i64 x.k) := hP.blk.cell 0
              have xc1 : wc.cell? ⟨w6.heap.size, 1, none⟩ = some (.string x.nm) := hP.blk.cell 1
              have xc2 : wc.cell? ⟨w6.heap.size, 2, none⟩ = some (.int .i64 x.a) := hP.blk.cell 2
              have xc3 : wc.cell? ⟨w6.heap.size, 3, none⟩ = some (.int .i64 x.b) := hP.blk.cell 3
              have xc4 : wc.cell? ⟨w6.heap.size, 4, none⟩ = some (.int .i64 x.c) := hP.blk.cell 4
              have xc5 : wc.cell? ⟨w6.heap.size, 5, none⟩ = some (.int .i64 x.len) := hP.blk.cell 5
              clear hI2
              go_wp2_with (at_builtin
                           go_must (
                           refine wpList_push sl6 rfl (.tmp 146) (.tmp 148) rfl w.heap.size _ _ _ rfl hP.ps.lo 1 1 rfl rfl rfl (by simp only [maxLen]; omega) (by omega) hP.ps.gr.size ?_
                           intro v' w9 own9 hgr
                           have hS9 := hP.ps.pushL (l' := l ++ [x]) hB (by rw [List.length_append, flat6_snoc]; exact own9) hgr))
              obtain ⟨Av, cv, rfl, hcv1, hcv2⟩ := own_form own9
              go_roundw
              case rel => exact (show PlI _ _ _ _ _ _ _ _ _ from ⟨l ++ [x], o', nx', c'', rfl, HI2.out, hnx', by simp, .inl (by simp; omega), by simp; omega, by simp; omega, hS9⟩)
              case measure => simp [lenOf]; omega
          · have d3 : decide (nx < 62) = false := decide_eq_false (by omega)
            have HQ := Lib.hid (show PlJ B w g c n (.slice Al l.length cl) (.slice Ao o.length co) (.int .i64 nx) wr from ⟨l, o, nx, c', Ao, co, rfl, hco1, hco2, rfl, HI.out, hnx, hl1, by omega, by omega, hS.open_⟩)
            clear hS
            go_wp2_with fail
            go_loopw [5, 6, 7] (fun lv ov vn wr => PlJ B w g c n lv ov vn wr) (fun _ ov _ _ => lenOf ov)
            case atStart => exact HQ.out
            case round =>
              obtain ⟨l, o, nx, c', A, cp, rfl, hcp1, hcp2, rfl, hI, hnx, hl1, hlo, hco, hS⟩ := hrel
              have HI := Lib.hid hI
              have hnx2 := hI.two
              clear hI HQ
              obtain ⟨Al, cl, hlv, hcl1, hcl2⟩ := own_form hS.lo
              subst hlv
              have hszr := hS.gr.size
              have hcp3 := hcp2
              unfold maxLen at hcp3
              by_cases h1 : 0 < o.length
              · have d1 : decide ((0 : Int) < (o.length : Int)) = true := decide_eq_true (by omega)
                have d1' : decide (0 < o.length) = true := decide_eq_true (by omega)
                by_cases h2 : l.length < 96
                · have d2 : decide ((l.length : Int) < 96) = true := decide_eq_true (by omega)
                  have d2' : decide (l.length < 96) = true := decide_eq_true (by omega)
                  by_cases h3 : nx < 64
                  · have d3 : decide (nx < 64) = true := decide_eq_true (by omega)
                    obtain ⟨a, r, rfl⟩ : ∃ a r, o = a :: r := by
                      cases o with
                      | nil => simp at h1
                      | cons a r => exact ⟨a, r, rfl⟩
                    obtain ⟨b, off, rfl, hca⟩ := hS.head
                    simp only [List.length_cons] at hcp1 hlo hco d1 d1' ⊢
                    go_wp2_with fail
                    refine (next_c B g c' 5 _ hS.mkr (by omega) (by omega) (by omega)).mono ?_
                    rintro e w3 ⟨x, hx0, hx1, rfl, hm3, hg3⟩
                    have hS3 := hS.next hgw hm3 hg3
                    obtain ⟨b3, off3, hbo, hc3⟩ := hS3.head
                    injection hbo with hbo
                    injection hbo with hb1 hb2 _
                    subst hb1; subst hb2
                    have hT3 := hS3.tail (cap := cp) (by omega)
                    obtain ⟨A2, hA2⟩ : ∃ A2, (if cp = 1 then some (⟨b, off, none⟩ : Addr) else some ⟨b, off + 1, none⟩) = A2 := ⟨_, rfl⟩
                    rw [hA2] at hT3
                    clear hm3 hg3 hS hca d1 d1' d2 d2' d3
                    go_upto_if 164 with fail
                    go_cut [5, 7] (fun lv vn wx => ∃ (l' : List PE) (nx' : Int), vn = .int .i64 nx' ∧ Pl.PInv l' r nx' ∧ nx' ≤ 64 ∧ 1 ≤ l'.length ∧ l'.length ≤ l.length + 1 ∧ QS B w g lv A2 l' r (c' + 1) wx)
                    case first =>
                      by_cases hx : 0 < x
                      · have e1 : decide (0 < x) = true := decide_eq_true (by omega)
                        rw [e1]
                        clear e1 hx
                        have HI2 := Lib.hid (Pl.PInv.two_ (p := []) (q := r) HI.out (by omega) (by omega) ⟨1, Pl.pname l.length, a, nx, 0, 200⟩ (.inr ⟨200, by omega, by omega, rfl⟩) (.inl rfl))
                        have hsz3 := hS3.gr.size
                        have h63 : l.length + 1 ≤ maxLen := by unfold maxLen; omega
                        have h56 : (l.length + 1) * 56 ≤ 140737488355328 := by omega
                        have hne9 : (Value.slice Al l.length cl).ownBlock ≠ some b := hS3.apart_
                        go_wp2_with fail
                        go_region_held3 (fun W => W.cell? ⟨b, off, none⟩ = some (.int .i64 a)) (first | assumption | exact hc7 | exact cell_alloc hc7 _ | exact hc9) (first | (go_at_call 27; (with_reducible refine (pname_c l.length _ (by omega)).mono ?_); rintro e w7 ⟨rfl, hb7⟩; have hS7 := hT3.below (below_drew' hb7); have hc7 := keep_cell_d hb7 hc3) | (refine step_pushb sl6 (by rfl) (.tmp 165) (.tmp 174) (by rfl) w.heap.size (.slice Al l.length cl) l.length (flat6 l) (by rfl) hS7.lo 1 1 w7.heap.size rfl (by rfl) (by rfl) (by rfl) h63 h56 hS7.gr.size ?_; intro v' w9 own9 hgr; have hc9 := hgr.cell hc7 hne9))
                        have hS9 := hS7.pushL (l' := l ++ [⟨1, Pl.pname l.length, a, nx, 0, 200⟩]) hB (by rw [List.length_append, flat6_snoc]; exact own9) hgr
                        go_wp2_with fail
                        go_meet
                        exact ⟨_, nx + 1, rfl, HI2.out, by omega, by simp, by simp, hS9⟩
                      · have e1 : decide (0 < x) = false := decide_eq_false (by omega)
                        rw [e1]
                        have HI2 := Lib.hid HI.out.drop
                        go_wp2_with fail
                        go_meet
                        exact ⟨l, nx, rfl, HI2.out, hnx, hl1, by omega, hT3⟩
                    case rest =>
                      obtain ⟨l', nx', rfl, hI', hnx', hl1', hll, hS'⟩ := hcut
                      have HI' := Lib.hid hI'
                      clear hI' hT3 hS3 hc3
                      have hcp4 : 1 ≤ cp := by omega
                      go_wp2_with fail
                      go_roundw
                      case rel => exact (show PlJ _ _ _ _ _ _ _ _ _ from ⟨l', r, nx', c' + 1, A2, cp - 1, rfl, by omega, by omega, rfl, HI'.out, hnx', hl1', by omega, by omega, hS'⟩)
                      case measure => simp [lenOf]
                  · have d3 : decide (nx < 64) = false := decide_eq_false (by omega)
                    go_wp2_with fail
                    go_ret
                    exact (show PlantR _ _ _ _ _ _ _ from ⟨_, l, c', o, nx, rfl, hS.lo, hl1, by omega, HI.out, by omega, hS.mkr, hS.gr⟩)
                · have d2 : decide ((l.length : Int) < 96) = false := decide_eq_false (by omega)
                  have d2' : decide (l.length < 96) = false := decide_eq_false (by omega)
                  go_wp2_with fail
                  go_ret
                  exact (show PlantR _ _ _ _ _ _ _ from ⟨_, l, c', o, nx, rfl, hS.lo, hl1, by omega, HI.out, by omega, hS.mkr, hS.gr⟩)
              · have d1 : decide ((0 : Int) < (o.length : Int)) = false := decide_eq_false (by omega)
                have d1' : decide (0 < o.length) = false := decide_eq_false (by omega)
                go_wp2_with fail
                go_ret
                exact (show PlantR _ _ _ _ _ _ _ from ⟨_, l, c', o, nx, rfl, hS.lo, hl1, by omega, HI.out, by omega, hS.mkr, hS.gr⟩)
        · have d2 : decide ((0 : Int) < (o.length : Int)) = false := decide_eq_false (by omega)
          have d2' : decide (0 < o.length) = false := decide_eq_false (by omega)
          have HQ := Lib.hid (show PlJ B w g c n (.slice Al l.length cl) (.slice Ao o.length co) (.int .i64 nx) wr from ⟨l, o, nx, c', Ao, co, rfl, hco1, hco2, rfl, HI.out, hnx, hl1, by omega, by omega, hS.open_⟩)
          clear hS
          go_wp2_with fail
          go_loopw [5, 6, 7] (fun lv ov vn wr => PlJ B w g c n lv ov vn wr) (fun _ ov _ _ => lenOf ov)
          case atStart => exact HQ.out
          case round =>
            obtain ⟨l, o, nx, c', A, cp, rfl, hcp1, hcp2, rfl, hI, hnx, hl1, hlo, hco, hS⟩ := hrel
            have HI := Lib.hid hI
            have hnx2 := hI.two
            clear hI HQ
            obtain ⟨Al, cl, hlv, hcl1, hcl2⟩ := own_form hS.lo
            subst hlv
            have hszr := hS.gr.size
            have hcp3 := hcp2
            unfold maxLen at hcp3
            by_cases h1 : 0 < o.length
            · have d1 : decide ((0 : Int) < (o.length : Int)) = true := decide_eq_true (by omega)
              have d1' : decide (0 < o.length) = true := decide_eq_true (by omega)
              by_cases h2 : l.length < 96
              · have d2 : decide ((l.length : Int) < 96) = true := decide_eq_true (by omega)
                have d2' : decide (l.length < 96) = true := decide_eq_true (by omega)
                by_cases h3 : nx < 64
                · have d3 : decide (nx < 64) = true := decide_eq_true (by omega)
                  obtain ⟨a, r, rfl⟩ : ∃ a r, o = a :: r := by
                    cases o with
                    | nil => simp at h1
                    | cons a r => exact ⟨a, r, rfl⟩
                  obtain ⟨b, off, rfl, hca⟩ := hS.head
                  simp only [List.length_cons] at hcp1 hlo hco d1 d1' ⊢
                  go_wp2_with fail
                  refine (next_c B g c' 5 _ hS.mkr (by omega) (by omega) (by omega)).mono ?_
                  rintro e w3 ⟨x, hx0, hx1, rfl, hm3, hg3⟩
                  have hS3 := hS.next hgw hm3 hg3
                  obtain ⟨b3, off3, hbo, hc3⟩ := hS3.head
                  injection hbo with hbo
                  injection hbo with hb1 hb2 _
                  subst hb1; subst hb2
                  have hT3 := hS3.tail (cap := cp) (by omega)
                  obtain ⟨A2, hA2⟩ : ∃ A2, (if cp = 1 then some (⟨b, off, none⟩ : Addr) else some ⟨b, off + 1, none⟩) = A2 := ⟨_, rfl⟩
                  rw [hA2] at hT3
                  clear hm3 hg3 hS hca d1 d1' d2 d2' d3
                  go_upto_if 164 with fail
                  go_cut [5, 7] (fun lv vn wx => ∃ (l' : List PE) (nx' : Int), vn = .int .i64 nx' ∧ Pl.PInv l' r nx' ∧ nx' ≤ 64 ∧ 1 ≤ l'.length ∧ l'.length ≤ l.length + 1 ∧ QS B w g lv A2 l' r (c' + 1) wx)
                  case first =>
                    by_cases hx : 0 < x
                    · have e1 : decide (0 < x) = true := decide_eq_true (by omega)
                      rw [e1]
                      clear e1 hx
                      have HI2 := Lib.hid (Pl.PInv.two_ (p := []) (q := r) HI.out (by omega) (by omega) ⟨1, Pl.pname l.length, a, nx, 0, 200⟩ (.inr ⟨200, by omega, by omega, rfl⟩) (.inl rfl))
                      have hsz3 := hS3.gr.size
                      have h63 : l.length + 1 ≤ maxLen := by unfold maxLen; omega
                      have h56 : (l.length + 1) * 56 ≤ 140737488355328 := by omega
                      have hne9 : (Value.slice Al l.length cl).ownBlock ≠ some b := hS3.apart_
                      go_wp2_with fail
                      go_region_held3 (fun W => W.cell? ⟨b, off, none⟩ = some (.int .i64 a)) (first | assumption | exact hc7 | exact cell_alloc hc7 _ | exact hc9) (first | (go_at_call 27; (with_reducible refine (pname_c l.length _ (by omega)).mono ?_); rintro e w7 ⟨rfl, hb7⟩; have hS7 := hT3.below (below_drew' hb7); have hc7 := keep_cell_d hb7 hc3) | (refine step_pushb sl6 (by rfl) (.tmp 165) (.tmp 174) (by rfl) w.heap.size (.slice Al l.length cl) l.length (flat6 l) (by rfl) hS7.lo 1 1 w7.heap.size rfl (by rfl) (by rfl) (by rfl) h63 h56 hS7.gr.size ?_; intro v' w9 own9 hgr; have hc9 := hgr.cell hc7 hne9))
                      have hS9 := hS7.pushL (l' := l ++ [⟨1, Pl.pname l.length, a, nx, 0, 200⟩]) hB (by rw [List.length_append, flat6_snoc]; exact own9) hgr
                      go_wp2_with fail
                      go_meet
                      exact ⟨_, nx + 1, rfl, HI2.out, by omega, by simp, by simp, hS9⟩
                    · have e1 : decide (0 < x) = false := decide_eq_false (by omega)
                      rw [e1]
                      have HI2 := Lib.hid HI.out.drop
                      go_wp2_with fail
                      go_meet
                      exact ⟨l, nx, rfl, HI2.out, hnx, hl1, by omega, hT3⟩
                  case rest =>
                    obtain ⟨l', nx', rfl, hI', hnx', hl1', hll, hS'⟩ := hcut
                    have HI' := Lib.hid hI'
                    clear hI' hT3 hS3 hc3
                    have hcp4 : 1 ≤ cp := by omega
                    go_wp2_with fail
                    go_roundw
                    case rel => exact (show PlJ _ _ _ _ _ _ _ _ _ from ⟨l', r, nx', c' + 1, A2, cp - 1, rfl, by omega, by omega, rfl, HI'.out, hnx', hl1', by omega, by omega, hS'⟩)
                    case measure => simp [lenOf]
                · have d3 : decide (nx < 64) = false := decide_eq_false (by omega)
                  go_wp2_with fail
                  go_ret
                  exact (show PlantR _ _ _ _ _ _ _ from ⟨_, l, c', o, nx, rfl, hS.lo, hl1, by omega, HI.out, by omega, hS.mkr, hS.gr⟩)
              · have d2 : decide ((l.length : Int) < 96) = false := decide_eq_false (by omega)
                have d2' : decide (l.length < 96) = false := decide_eq_false (by omega)
                go_wp2_with fail
                go_ret
                exact (show PlantR _ _ _ _ _ _ _ from ⟨_, l, c', o, nx, rfl, hS.lo, hl1, by omega, HI.out, by omega, hS.mkr, hS.gr⟩)
            · have d1 : decide ((0 : Int) < (o.length : Int)) = false := decide_eq_false (by omega)
              have d1' : decide (0 < o.length) = false := decide_eq_false (by omega)
              go_wp2_with fail
              go_ret
              exact (show PlantR _ _ _ _ _ _ _ from ⟨_, l, c', o, nx, rfl, hS.lo, hl1, by omega, HI.out, by omega, hS.mkr, hS.gr⟩)
      · have d1 : decide ((l.length : Int) < (n : Int)) = false := decide_eq_false (by omega)
        have d1' : decide (l.length < n) = false := decide_eq_false (by omega)
        have HQ := Lib.hid (show PlJ B w g c n (.slice Al l.length cl) (.slice Ao o.length co) (.int .i64 nx) wr from ⟨l, o, nx, c', Ao, co, rfl, hco1, hco2, rfl, HI.out, hnx, hl1, by omega, by omega, hS.open_⟩)
        clear hS
        go_wp2_with fail
        go_loopw [5, 6, 7] (fun lv ov vn wr => PlJ B w g c n lv ov vn wr) (fun _ ov _ _ => lenOf ov)
        case atStart => exact HQ.out
        case round =>
          obtain ⟨l, o, nx, c', A, cp, rfl, hcp1, hcp2, rfl, hI, hnx, hl1, hlo, hco, hS⟩ := hrel
          have HI := Lib.hid hI
          have hnx2 := hI.two
          clear hI HQ
          obtain ⟨Al, cl, hlv, hcl1, hcl2⟩ := own_form hS.lo
          subst hlv
          have hszr := hS.gr.size
          have hcp3 := hcp2
          unfold maxLen at hcp3
          by_cases h1 : 0 < o.length
          · have d1 : decide ((0 : Int) < (o.length : Int)) = true := decide_eq_true (by omega)
            have d1' : decide (0 < o.length) = true := decide_eq_true (by omega)
            by_cases h2 : l.length < 96
            · have d2 : decide ((l.length : Int) < 96) = true := decide_eq_true (by omega)
              have d2' : decide (l.length < 96) = true := decide_eq_true (by omega)
              by_cases h3 : nx < 64
              · have d3 : decide (nx < 64) = true := decide_eq_true (by omega)
                obtain ⟨a, r, rfl⟩ : ∃ a r, o = a :: r := by
                  cases o with
                  | nil => simp at h1
                  | cons a r => exact ⟨a, r, rfl⟩
                obtain ⟨b, off, rfl, hca⟩ := hS.head
                simp only [List.length_cons] at hcp1 hlo hco d1 d1' ⊢
                go_wp2_with fail
                refine (next_c B g c' 5 _ hS.mkr (by omega) (by omega) (by omega)).mono ?_
                rintro e w3 ⟨x, hx0, hx1, rfl, hm3, hg3⟩
                have hS3 := hS.next hgw hm3 hg3
                obtain ⟨b3, off3, hbo, hc3⟩ := hS3.head
                injection hbo with hbo
                injection hbo with hb1 hb2 _
                subst hb1; subst hb2
                have hT3 := hS3.tail (cap := cp) (by omega)
                obtain ⟨A2, hA2⟩ : ∃ A2, (if cp = 1 then some (⟨b, off, none⟩ : Addr) else some ⟨b, off + 1, none⟩) = A2 := ⟨_, rfl⟩
                rw [hA2] at hT3
                clear hm3 hg3 hS hca d1 d1' d2 d2' d3
                go_upto_if 164 with fail
                go_cut [5, 7] (fun lv vn wx => ∃ (l' : List PE) (nx' : Int), vn = .int .i64 nx' ∧ Pl.PInv l' r nx' ∧ nx' ≤ 64 ∧ 1 ≤ l'.length ∧ l'.length ≤ l.length + 1 ∧ QS B w g lv A2 l' r (c' + 1) wx)
                case first =>
                  by_cases hx : 0 < x
                  · have e1 : decide (0 < x) = true := decide_eq_true (by omega)
                    rw [e1]
                    clear e1 hx
                    have HI2 := Lib.hid (Pl.PInv.two_ (p := []) (q := r) HI.out (by omega) (by omega) ⟨1, Pl.pname l.length, a, nx, 0, 200⟩ (.inr ⟨200, by omega, by omega, rfl⟩) (.inl rfl))
                    have hsz3 := hS3.gr.size
                    have h63 : l.length + 1 ≤ maxLen := by unfold maxLen; omega
                    have h56 : (l.length + 1) * 56 ≤ 140737488355328 := by omega
                    have hne9 : (Value.slice Al l.length cl).ownBlock ≠ some b := hS3.apart_
                    go_wp2_with fail
                    go_region_held3 (fun W => W.cell? ⟨b, off, none⟩ = some (.int .i64 a)) (first | assumption | exact hc7 | exact cell_alloc hc7 _ | exact hc9) (first | (go_at_call 27; (with_reducible refine (pname_c l.length _ (by omega)).mono ?_); rintro e w7 ⟨rfl, hb7⟩; have hS7 := hT3.below (below_drew' hb7); have hc7 := keep_cell_d hb7 hc3) | (refine step_pushb sl6 (by rfl) (.tmp 165) (.tmp 174) (by rfl) w.heap.size (.slice Al l.length cl) l.length (flat6 l) (by rfl) hS7.lo 1 1 w7.heap.size rfl (by rfl) (by rfl) (by rfl) h63 h56 hS7.gr.size ?_; intro v' w9 own9 hgr; have hc9 := hgr.cell hc7 hne9))
                    have hS9 := hS7.pushL (l' := l ++ [⟨1, Pl.pname l.length, a, nx, 0, 200⟩]) hB (by rw [List.length_append, flat6_snoc]; exact own9) hgr
                    go_wp2_with fail
                    go_meet
                    exact ⟨_, nx + 1, rfl, HI2.out, by omega, by simp, by simp, hS9⟩
                  · have e1 : decide (0 < x) = false := decide_eq_false (by omega)
                    rw [e1]
                    have HI2 := Lib.hid HI.out.drop
                    go_wp2_with fail
                    go_meet
                    exact ⟨l, nx, rfl, HI2.out, hnx, hl1, by omega, hT3⟩
                case rest =>
                  obtain ⟨l', nx', rfl, hI', hnx', hl1', hll, hS'⟩ := hcut
                  have HI' := Lib.hid hI'
                  clear hI' hT3 hS3 hc3
                  have hcp4 : 1 ≤ cp := by omega
                  go_wp2_with fail
                  go_roundw
                  case rel => exact (show PlJ _ _ _ _ _ _ _ _ _ from ⟨l', r, nx', c' + 1, A2, cp - 1, rfl, by omega, by omega, rfl, HI'.out, hnx', hl1', by omega, by omega, hS'⟩)
                  case measure => simp [lenOf]
              · have d3 : decide (nx < 64) = false := decide_eq_false (by omega)
                go_wp2_with fail
                go_ret
                exact (show PlantR _ _ _ _ _ _ _ from ⟨_, l, c', o, nx, rfl, hS.lo, hl1, by omega, HI.out, by omega, hS.mkr, hS.gr⟩)
            · have d2 : decide ((l.length : Int) < 96) = false := decide_eq_false (by omega)
              have d2' : decide (l.length < 96) = false := decide_eq_false (by omega)
              go_wp2_with fail
              go_ret
              exact (show PlantR _ _ _ _ _ _ _ from ⟨_, l, c', o, nx, rfl, hS.lo, hl1, by omega, HI.out, by omega, hS.mkr, hS.gr⟩)
          · have d1 : decide ((0 : Int) < (o.length : Int)) = false := decide_eq_false (by omega)
            have d1' : decide (0 < o.length) = false := decide_eq_false (by omega)
            go_wp2_with fail
            go_ret
            exact (show PlantR _ _ _ _ _ _ _ from ⟨_, l, c', o, nx, rfl, hS.lo, hl1, by omega, HI.out, by omega, hS.mkr, hS.gr⟩)
end Go.Proofs.YtkkpkekkaoccbaaDoor
