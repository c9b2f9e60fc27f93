/- The walk of rollin's push. -/
import Derived.Test.YtocohkgdkebmdaaGreatTlO
import Derived.Test.YtocohkgdkebmdaaGreatTlSolve
import Derived.Deep.RegionLaw
import Derived.BigRegion
namespace Go.Proofs.YtocohkgdkebmdaaGreat
open Go.RowKit
/-- Two slices of rows with no block in common, and a row apart from all of them. -/
structure Own2 (w : World) (B : Nat) (eO eI : TypeId) (v : Value) (n : Nat) (L : List (List Nat)) (vs : List Value) (v' : Value) (n' : Nat) (L' : List (List Nat)) (vs' : List Value) (lv : Value) (lr : List Nat) : Prop where
  a : OwnLL w B eO eI v n L vs
  b : OwnLL w B eO eI v' n' L' vs'
  o : apart v v'
  x : ∀ i j, i < n → j < n' → apart (vs.getD i nilS) (vs'.getD j nilS)
  r : w.ownsRow B eI 1 lv lr.length (ints64 lr)
  ra : ∀ i, i < n → apart (vs.getD i nilS) lv
  rb : ∀ j, j < n' → apart (vs'.getD j nilS) lv
section
variable {w w' : World} {B n n' : Nat} {eO eI : TypeId} {v v' lv : Value} {L L' : List (List Nat)} {vs vs' : List Value} {lr : List Nat}
theorem Own2.symm (h : Own2 w B eO eI v n L vs v' n' L' vs' lv lr) : Own2 w B eO eI v' n' L' vs' v n L vs lv lr :=
  ⟨h.b, h.a, h.o.symm, fun i j hi hj => (h.x j i hj hi).symm, h.r, h.rb, h.ra⟩
theorem Own2.below (h : Own2 w B eO eI v n L vs v' n' L' vs' lv lr) (hb : Below w.heap.size w w') : Own2 w' B eO eI v n L vs v' n' L' vs' lv lr :=
  ⟨h.a.below hb, h.b.below hb, h.o, h.x, own_below h.r hb, h.ra, h.rb⟩
theorem Own2.drewN (h : Own2 w B eO eI v n L vs v' n' L' vs' lv lr) (k : Nat) : Own2 (w.drewN k) B eO eI v n L vs v' n' L' vs' lv lr :=
  ⟨⟨h.a.outer, h.a.len, h.a.inner, h.a.far⟩, ⟨h.b.outer, h.b.len, h.b.inner, h.b.far⟩, h.o, h.x, h.r, h.ra, h.rb⟩
/-- The same rows behind a store into a block that is none of them. -/
theorem OwnLL.far_set {k j : Nat} {u : Value} (h : OwnLL w B eO eI v n L vs) (ho : v.ownBlock ≠ some k) (hi : ∀ i, i < n → (vs.getD i nilS).ownBlock ≠ some k) : OwnLL (w.setCell ⟨k, j, none⟩ u) B eO eI v n L vs :=
  ⟨own_set_other h.outer ho _, h.len, fun i hin => own_set_other (h.inner i hin) (hi i hin) _, h.far⟩
theorem Own2.far_set {k j : Nat} {u : Value} {t : TypeId} {cs : Array Value} (h : Own2 w B eO eI v n L vs v' n' L' vs' lv lr) (hk : Blk w k t cs) (h1 : eO ≠ t) (h2 : eI ≠ t) : Own2 (w.setCell ⟨k, j, none⟩ u) B eO eI v n L vs v' n' L' vs' lv lr :=
  ⟨h.a.far_set (own_blk_ne h.a.outer hk h1) (fun i hi => own_blk_ne (h.a.inner i hi) hk h2), h.b.far_set (own_blk_ne h.b.outer hk h1) (fun i hi => own_blk_ne (h.b.inner i hi) hk h2), h.o, h.x, own_set_other h.r (own_blk_ne h.r hk h2) _, h.ra, h.rb⟩
/-- A row of the first slice is grown and put back into its place. -/
theorem Own2.grown {g cap i : Nat} {v1 : Value} {l1 : List Nat} (hne : eI ≠ eO) (h : Own2 w B eO eI (.slice (some ⟨g, 0, none⟩) n cap) n L vs v' n' L' vs' lv lr) (hi : i < n) (hg : Grew w (vs.getD i nilS) v1 w')
    (hv : w'.ownsRow B eI 1 v1 l1.length (ints64 l1)) : Own2 (w'.setCell ⟨g, i, none⟩ v1) B eO eI (.slice (some ⟨g, 0, none⟩) n cap) n (L.set i l1) (vs.set i v1) v' n' L' vs' lv lr := by
  have hvl : vs.length = n := h.a.vlen
  have hgb : (Value.slice (some ⟨g, 0, none⟩) n cap).ownBlock = some g := rfl
  have hin := h.a.inner i hi
  have k1 := hg.keep h.b.outer (own_ne h.b.outer hin hne.symm)
  have hT : v'.ownBlock ≠ some g := by
    rcases h.o.symm with e | e
    · rw [e]; simp
    · rw [← hgb]; exact e
  have hblk : ∀ (u : Value) (m : Nat) (xs : List Value), w.ownsRow B eI 1 u m xs → u.ownBlock ≠ some g := by
    intro u m xs hu e
    rcases own_ne hu h.a.outer hne with h1 | h1
    · rw [h1] at e; cases e
    · exact h1 (by rw [e, hgb])
  refine ⟨OwnLL.grown hne h.a hi hg hv, ⟨own_set_other k1 hT _, h.b.len, fun j hj => own_set_other (hg.keep (h.b.inner j hj) (h.x i j hi hj).symm) (hblk _ _ _ (h.b.inner j hj)) _, h.b.far⟩, h.o, fun k j hk hj => ?_, own_set_other (hg.keep h.r (h.ra i hi).symm) (hblk _ _ _ h.r) _, fun k hk => ?_, h.rb⟩
  · by_cases e : i = k
    · subst e
      rw [getD_set_same (by omega)]
      exact (hg.apart_l (h.b.inner j hj) (h.x i j hi hj).symm).symm
    · rw [getD_set_other e]
      exact h.x k j hk hj
  · by_cases e : i = k
    · subst e
      rw [getD_set_same (by omega)]
      exact (hg.apart_l h.r (h.ra i hi).symm).symm
    · rw [getD_set_other e]
      exact h.ra k hk
/-- A row of the first slice is taken away, and becomes the further row. -/
theorem Own2.take {g cap i : Nat} (hne : eI ≠ eO) (h : Own2 w B eO eI (.slice (some ⟨g, 0, none⟩) n cap) n L vs v' n' L' vs' lv lr) (hi : i < n) :
    Own2 (w.setCell ⟨g, i, none⟩ nilS) B eO eI (.slice (some ⟨g, 0, none⟩) n cap) n (L.set i []) (vs.set i nilS) v' n' L' vs' (vs.getD i nilS) (L.getD i []) := by
  have hvl : vs.length = n := h.a.vlen
  have hgb : (Value.slice (some ⟨g, 0, none⟩) n cap).ownBlock = some g := rfl
  have hT : v'.ownBlock ≠ some g := by
    rcases h.o.symm with e | e
    · rw [e]; simp
    · rw [← hgb]; exact e
  have hblk : ∀ (u : Value) (m : Nat) (xs : List Value), w.ownsRow B eI 1 u m xs → u.ownBlock ≠ some g := by
    intro u m xs hu e
    rcases own_ne hu h.a.outer hne with h1 | h1
    · rw [h1] at e; cases e
    · exact h1 (by rw [e, hgb])
  refine ⟨OwnLL.clear hne h.a hi, h.b.far_set hT (fun j hj => hblk _ _ _ (h.b.inner j hj)), h.o, fun k j hk hj => ?_, own_set_other (h.a.inner i hi) (hblk _ _ _ (h.a.inner i hi)) _, fun k hk => ?_, fun j hj => (h.x i j hi hj).symm⟩
  · by_cases e : i = k
    · subst e
      rw [getD_set_same (by omega)]
      exact .inl rfl
    · rw [getD_set_other e]
      exact h.x k j hk hj
  · by_cases e : i = k
    · subst e
      rw [getD_set_same (by omega)]
      exact .inl rfl
    · rw [getD_set_other e]
      exact h.a.far k i (fun e2 => e e2.symm) hk hi
/-- The further row is let go. -/
theorem Own2.drop (h : Own2 w B eO eI v n L vs v' n' L' vs' lv lr) : Own2 w B eO eI v n L vs v' n' L' vs' nilS [] :=
  ⟨h.a, h.b, h.o, h.x, ⟨rfl, .inl ⟨rfl, rfl⟩⟩, fun _ _ => apart.symm (.inl rfl), fun _ _ => apart.symm (.inl rfl)⟩
end
theorem sl_int : SlT Tryz.prog 22 3 1 8 := slT_of (z := .int .i64 0) Tryz.underlying22 (by kernel_rfl) rfl (by decide)
theorem sl_lint : SlT Tryz.prog 43 22 1 24 := slT_of (z := nilS) Tryz.underlying43 (by kernel_rfl) rfl (by decide)
/-- The machine in memory: its block is gm; lv is a row that somebody holds beside it. -/
structure MachS (w : World) (B gm gs : Nat) (A : Option Addr) (n c k S : Nat) (AK : Option Addr) (cK : Nat) (vT : Value) (M : Tl.MC) (vsS vsT : List Value) (lv : Value) (lr : List Nat) : Prop where
  blk : Blk w gm 105 #[.slice A n c, .int .i64 k, .int .i64 S, .slice AK n cK, .slice (some ⟨gs, 0, none⟩) S S, vT, .int .i64 M.mv, .int .i64 M.pu]
  own : Own2 w B 22 3 (.slice (some ⟨gs, 0, none⟩) S S) S M.st vsS vT M.tn.length M.tn vsT lv lr
  ge : B ≤ gm
section
variable {w w' : World} {B gm gs n c k S cK : Nat} {A AK : Option Addr} {vT : Value} {M : Tl.MC} {vsS vsT : List Value} {lv : Value} {lr : List Nat}
theorem MachS.below (h : MachS w B gm gs A n c k S AK cK vT M vsS vsT lv lr) (hb : Below w.heap.size w w') : MachS w' B gm gs A n c k S AK cK vT M vsS vsT lv lr :=
  ⟨h.blk.below hb h.blk.lt, h.own.below hb, h.ge⟩
theorem MachS.drewN (h : MachS w B gm gs A n c k S AK cK vT M vsS vsT lv lr) (q : Nat) : MachS (w.drewN q) B gm gs A n c k S AK cK vT M vsS vsT lv lr :=
  ⟨h.blk.drewN q, h.own.drewN q, h.ge⟩
theorem MachS.drew (h : MachS w B gm gs A n c k S AK cK vT M vsS vsT lv lr) : MachS w.drew B gm gs A n c k S AK cK vT M vsS vsT lv lr := ⟨h.blk.drew, ⟨h.own.a.drew, h.own.b.drew, h.own.o, h.own.x, h.own.r, h.own.ra, h.own.rb⟩, h.ge⟩
/-- One move more. -/
theorem MachS.moved (h : MachS w B gm gs A n c k S AK cK vT M vsS vsT lv lr) : MachS (w.setCell ⟨gm, 6, none⟩ (.int .i64 (M.mv + 1 : Nat))) B gm gs A n c k S AK cK vT { M with mv := M.mv + 1 } vsS vsT lv lr :=
  ⟨by simpa using h.blk.set_ 6 (.int .i64 (M.mv + 1 : Nat)), h.own.far_set h.blk (by decide) (by decide), h.ge⟩
theorem MachS.pushed (h : MachS w B gm gs A n c k S AK cK vT M vsS vsT lv lr) : MachS (w.setCell ⟨gm, 7, none⟩ (.int .i64 (M.pu + 1 : Nat))) B gm gs A n c k S AK cK vT { M with pu := M.pu + 1 } vsS vsT lv lr :=
  ⟨by simpa using h.blk.set_ 7 (.int .i64 (M.pu + 1 : Nat)), h.own.far_set h.blk (by decide) (by decide), h.ge⟩
/-- An item is appended to a sorting track. -/
theorem MachS.onS {i : Nat} {v1 : Value} {l1 : List Nat} (h : MachS w B gm gs A n c k S AK cK vT M vsS vsT lv lr) (hi : i < S) (hg : Grew w (vsS.getD i nilS) v1 w') (hv : w'.ownsRow B 3 1 v1 l1.length (ints64 l1)) :
    MachS (w'.setCell ⟨gs, i, none⟩ v1) B gm gs A n c k S AK cK vT { M with st := M.st.set i l1 } (vsS.set i v1) vsT lv lr := by
  have h1 : (vsS.getD i nilS).ownBlock ≠ some gm := own_blk_ne (h.own.a.inner i hi) h.blk (by decide)
  have h2 : (Value.slice (some ⟨gs, 0, none⟩) S S).ownBlock ≠ some gm := own_blk_ne h.own.a.outer h.blk (by decide)
  refine ⟨(h.blk.grown hg.grown (fun e => h1 e.symm)).far (fun e => h2 (by rw [e]; rfl)) _, h.own.grown (by decide) hi hg hv, h.ge⟩
/-- An item is appended to the track of a train. -/
theorem MachS.onT {gt cap i : Nat} {v1 : Value} {l1 : List Nat} (h : MachS w B gm gs A n c k S AK cK (.slice (some ⟨gt, 0, none⟩) M.tn.length cap) M vsS vsT lv lr) (hi : i < M.tn.length) (hg : Grew w (vsT.getD i nilS) v1 w') (hv : w'.ownsRow B 3 1 v1 l1.length (ints64 l1)) :
    MachS (w'.setCell ⟨gt, i, none⟩ v1) B gm gs A n c k S AK cK (.slice (some ⟨gt, 0, none⟩) M.tn.length cap) { M with tn := M.tn.set i l1 } vsS (vsT.set i v1) lv lr := by
  have h1 : (vsT.getD i nilS).ownBlock ≠ some gm := own_blk_ne (h.own.b.inner i hi) h.blk (by decide)
  have h2 : (Value.slice (some ⟨gt, 0, none⟩) M.tn.length cap).ownBlock ≠ some gm := own_blk_ne h.own.b.outer h.blk (by decide)
  refine ⟨(h.blk.grown hg.grown (fun e => h1 e.symm)).far (fun e => h2 (by rw [e]; rfl)) _, ?_, h.ge⟩
  have := (h.own.symm.grown (by decide) hi hg hv).symm
  simpa using this
/-- A sorting track is emptied; its row is held beside the machine. -/
theorem MachS.take {i : Nat} (h : MachS w B gm gs A n c k S AK cK vT M vsS vsT lv lr) (hi : i < S) :
    MachS (w.setCell ⟨gs, i, none⟩ nilS) B gm gs A n c k S AK cK vT { M with st := M.st.set i [] } (vsS.set i nilS) vsT (vsS.getD i nilS) (M.st.getD i []) := by
  have h2 : (Value.slice (some ⟨gs, 0, none⟩) S S).ownBlock ≠ some gm := own_blk_ne h.own.a.outer h.blk (by decide)
  exact ⟨h.blk.far (fun e => h2 (by rw [e]; rfl)) _, h.own.take (by decide) hi, h.ge⟩
theorem MachS.drop (h : MachS w B gm gs A n c k S AK cK vT M vsS vsT lv lr) : MachS w B gm gs A n c k S AK cK vT M vsS vsT nilS [] := ⟨h.blk, h.own.drop, h.ge⟩
end
end Go.Proofs.YtocohkgdkebmdaaGreat
namespace Go.Proofs.YtocohkgdkebmdaaGreat
open Go.RowKit
namespace Tl
/-- No row is longer than the moves. -/
def MBd (M : MC) : Prop := (∀ i, (M.st.getD i []).length ≤ M.mv) ∧ ∀ j, (M.tn.getD j []).length ≤ M.mv
end Tl
theorem tmach_push_len {l : List Nat} (x : Nat) : (l ++ [x]).length = l.length + 1 := by simp
theorem nbit_step {k b S : Nat} (h : b < S) : Tl.nbit k b (S - b) = if k.testBit b = true then some b else Tl.nbit k (b + 1) (S - (b + 1)) := by
  obtain ⟨f, hf⟩ : ∃ f, S - b = f + 1 := ⟨S - b - 1, by omega⟩
  rw [hf, show S - (b + 1) = f by omega]
  rfl
theorem nbit_end {k b S : Nat} (h : S ≤ b) : Tl.nbit k b (S - b) = none := by rw [show S - b = 0 by omega]; rfl
theorem bit_yes {k b : Nat} (hk : k < 4096) (h : k.testBit b = true) : bits .and .i64 ((k : Int) / 2 ^ b) 1 = 1 := by
  rw [i64_bit k b (by omega)]
  rw [Nat.testBit_eq_decide_div_mod_eq, decide_eq_true_eq] at h
  rw [h]; rfl
theorem bit_no {k b : Nat} (hk : k < 4096) (h : k.testBit b = false) : bits .and .i64 ((k : Int) / 2 ^ b) 1 = 0 := by
  rw [i64_bit k b (by omega)]
  rw [Nat.testBit_eq_decide_div_mod_eq, decide_eq_false_iff_not] at h
  rw [show k / 2 ^ b % 2 = 0 by omega]; rfl
theorem codes_at {w : World} {B n x : Nat} {AK : Option Addr} {K : List Nat} (h : Reads w B 1 AK n (ints64 K)) (hx : x < n) : ∃ ad, AK = some ad ∧ ad.block < B ∧ w.cell? (ad.add x) = some (.int .i64 (Tl.kAt K x : Nat)) := by
  obtain ⟨ad, u, e, hb, hu, hc⟩ := h.at_ hx
  have hl : K.length = n := by have := h.1; simpa [ints64] using this
  rw [ints64_at K x (by omega)] at hu
  refine ⟨ad, e, hb, ?_⟩
  rw [hc, ← hu]
  rfl
theorem items_at {w : World} {B n x : Nat} {A : Option Addr} {l : List IT} (h : Reads w B 4 A n (flat4 l)) (hB : B ≤ w.heap.size) (hx : x < n) : ∃ ad, A = some ad ∧ w.cell? (ad.add (x * 4)) = some (.int .i64 (Tl.it l x).tr) ∧ w.cell? ⟨(ad.add (x * 4)).block, (ad.add (x * 4)).off + 1, none⟩ = some (.int .i64 (Tl.it l x).bl) ∧
    w.cell? ⟨(ad.add (x * 4)).block, (ad.add (x * 4)).off + 2, none⟩ = some (.int .i64 (Tl.it l x).rd) ∧ w.cell? ⟨(ad.add (x * 4)).block, (ad.add (x * 4)).off + 3, none⟩ = some (.int .i64 (Tl.it l x).ln) := by
  obtain ⟨ad, p, e, _, hp, h1, h2, h3, h4⟩ := IR4.at_ (h.more hB) hx
  rw [(itm_at hp).1]
  exact ⟨ad, e, h1, h2, h3, h4⟩
/-- What push leaves. -/
def PushR (B gm gs : Nat) (A : Option Addr) (n c k S : Nat) (AK : Option Addr) (cK : Nat) (vT : Value) (M : Tl.MC) (lv : Value) (lr : List Nat) (w : World) (e : Ending) (w' : World) : Prop :=
  e = .returned (.tuple #[]) ∧ Below B w w' ∧ ∃ vsS vsT, MachS w' B gm gs A n c k S AK cK vT M vsS vsT lv lr
theorem push_some {l : List IT} {K : List Nat} {S t x b : Nat} {M : Tl.MC} (h : Tl.nbit (Tl.kAt K x) t (S - t) = some b) : Tl.pushM l K S t M x = { M with st := M.st.set b (M.st.getD b [] ++ [x]), mv := M.mv + 1 } := by
  unfold Tl.pushM
  rw [h]
  rfl
theorem push_none {l : List IT} {K : List Nat} {S t x : Nat} {M : Tl.MC} (h : Tl.nbit (Tl.kAt K x) t (S - t) = none) : Tl.pushM l K S t M x = { M with tn := M.tn.set (Tl.it l x).tr (M.tn.getD (Tl.it l x).tr [] ++ [x]), mv := M.mv + 1 } := by
  unfold Tl.pushM
  rw [h]
  rfl
theorem own9_snoc {w : World} {B e x : Nat} {A : Option Addr} {c : Nat} {row : List Nat} (h : w.ownsRow B e 1 (.slice A (row.length + 1) c) (row.length + 1) (ints64 row ++ #[Value.int .i64 x].toList)) :
    w.ownsRow B e 1 (.slice A (row.length + 1) c) (row ++ [x]).length (ints64 (row ++ [x])) := by
  rw [tmach_push_len]
  simpa [ints64] using h
set_option maxRecDepth 100000 in
set_option maxHeartbeats 4000000 in
theorem mpush_c (B gm gs n c k S cK x t : Nat) (A AK : Option Addr) (vT : Value) (M : Tl.MC) (vsS vsT : List Value) (lv : Value) (lr : List Nat) (l : List IT) (K : List Nat) (w : World)
    (h : MachS w B gm gs A n c k S AK cK vT M vsS vsT lv lr) (hI : Reads w B 4 A n (flat4 l)) (hK : Reads w B 1 AK n (ints64 K)) (hB : B ≤ w.heap.size) (hx : x < n) (ht : t ≤ S) (hS : S ≤ 12)
    (hKb : Tl.kAt K x < 4096) (htr : (Tl.it l x).tr < M.tn.length) (hbd : Tl.MBd M) (hmv : M.mv ≤ 1000000) :
    Calls Tryz.prog 83 #[.pointer (some ⟨gm, 0, none⟩), .int .i64 x, .int .i64 t] w (PushR B gm gs A n c k S AK cK vT (Tl.pushM l K S t M x) lv lr w) := by
  have c6 := h.blk.cell 6
  have z6 := h.blk.frozen 6
  simp at c6
  have hm1 := h.moved
  rw [show ((M.mv + 1 : Nat) : Int) = (M.mv : Int) + 1 from rfl] at hm1
  have hbs : Below B w (w.setCell ⟨gm, 6, none⟩ (.int .i64 ((M.mv : Int) + 1))) := (Below.refl _ _).setCell (p := ⟨gm, 6, none⟩) h.ge _
  go_enter Tryz.func83, Tryz.ntmps83
  go_wp2_with fail
  clear c6 z6 h
  replace hI := hI.below hbs
  replace hK := hK.below hbs
  replace hB := Nat.le_trans hB hbs.size
  generalize w.setCell ⟨gm, 6, none⟩ (.int .i64 ((M.mv : Int) + 1)) = W1 at *
  have HM := Lib.hid hm1
  have Hbd := Lib.hid hbd
  have HP : Hid (∀ M', M' = Tl.pushM l K S t M x → Tl.pushM l K S t M x = M') := Lib.hid fun _ e => e.symm
  clear hbd
  have c2 := hm1.blk.cell 2
  have c3 := hm1.blk.cell 3
  have c4 := hm1.blk.cell 4
  have c5 := hm1.blk.cell 5
  have c0 := hm1.blk.cell 0
  simp at c0 c2 c3 c4 c5
  clear hm1
  obtain ⟨ak, rfl, hab, ck⟩ := codes_at hK hx
  obtain ⟨ai, rfl, ci, _⟩ := items_at hI hB hx
  obtain ⟨q, hq⟩ : ∃ q, Tl.kAt K x = q := ⟨_, rfl⟩
  obtain ⟨tr, htrE⟩ : ∃ tr, (Tl.it l x).tr = tr := ⟨_, rfl⟩
  rw [hq] at ck hKb
  rw [htrE] at ci htr
  have Hq := Lib.hid hq
  have Htr := Lib.hid htrE
  clear hq htrE
  go_loop [6] (fun p => ∃ b : Nat, t ≤ b ∧ b ≤ S ∧ p = .int .i64 b ∧ Hid (Tl.nbit q t (S - t) = Tl.nbit q b (S - b))) (fun p => S - (intOf p).toNat)
  case atStart => exact ⟨t, by omega, ht, rfl, Lib.hid rfl⟩
  case round =>
    obtain ⟨b, htb, hbS, rfl, hn⟩ := hrel
    by_cases hlt : b < S
    · have hst := nbit_step (k := q) hlt
      cases htt : q.testBit b with
      | false =>
        rw [htt] at hst
        have hn2 := Lib.hid (hn.out.trans hst)
        have hb0 := bit_no hKb htt
        clear hst hn htt
        go_wp2_with fail
        go_round
        case rel => exact ⟨b + 1, by omega, by omega, by go_num, hn2⟩
        case measure => simp [intOf]; omega
      | true =>
        rw [htt, if_pos rfl] at hst
        have hn2 := Lib.hid (hn.out.trans hst)
        have hb1 := bit_yes hKb htt
        clear hst hn htt
        have hm1 := HM.out
        obtain ⟨vb, hvb⟩ : ∃ vb, vsS.getD b nilS = vb := ⟨_, rfl⟩
        obtain ⟨row, hrow⟩ : ∃ row, M.st.getD b [] = row := ⟨_, rfl⟩
        have own1 := hm1.own.a.inner b hlt
        have cb := hm1.own.a.cellO hlt
        rw [hvb, hrow] at own1
        rw [hvb] at cb
        have hrl : row.length ≤ M.mv := by rw [← hrow]; exact Hbd.out.1 b
        obtain ⟨Ab, cap, rfl, _, _⟩ := own_form own1
        have n1 : (Value.slice Ab row.length cap).ownBlock ≠ some gm := own_blk_ne own1 hm1.blk (by decide)
        have n2 : apart (Value.slice (some ⟨gs, 0, none⟩) S S) (.slice Ab row.length cap) := own_ne hm1.own.a.outer own1 (by decide)
        have own1d := own_drew own1
        have hBd : B ≤ W1.drew.heap.size := hB
        have c4a := fun o : Obj => cell_alloc c4 o
        have cba := fun o : Obj => cell_alloc cb o
        have hms : row.length + 1 ≤ maxLen := by unfold maxLen; omega
        have hms2 : (row.length + 1) * 8 ≤ 140737488355328 := by omega
        have HO := Lib.hid hm1.own.a.outer
        have HB := Lib.hid hm1.blk
        have Hrow := Lib.hid hrow
        have Hvb := Lib.hid hvb
        clear hm1 hrow hvb
        go_wp2_with fail
        go_region_law (refine step_pushb sl_int (by rfl) (.tmp 48) (.tmp 50) (by rfl) B (.slice Ab row.length cap) row.length (ints64 row) (by rfl) own1d 1 1 W1.drew.heap.size rfl (by rfl) (by rfl) (by rfl) hms hms2 hBd ?_
                       intro v' w9 own9 hgr
                       obtain ⟨A9, c9, rfl, _, _⟩ := own_form own9
                       have c4' := (HB.out.drew.grown hgr.grown (fun e => n1 e.symm)).cell 4
                       simp at c4'
                       have cb' := hgr.cell (a := ⟨gs, b, none⟩) cb (by rcases n2.symm with e | e; (rw [e]; simp); exact e)
                       have zb' := (hgr.keep (own_drew HO.out) n2).frozenAt b)
        all_goals
          go_wp2_with fail
          refine bodyPost_ret (results_none rfl _ _ _) rfl ?_
          have hm9 := MachS.onS HM.out.drew hlt (by rw [Hvb.out]; exact hgr) (own9_snoc own9)
          have hpp := push_some (l := l) (M := M) (by rw [Hq.out]; exact hn2.out)
          rw [Hrow.out] at hpp
          rw [hpp]
          refine ⟨rfl, ?_, _, _, hm9⟩
          exact (hbs.trans (below_drew' (hgr.below (own_ge own1d) hBd))).setCell (p := ⟨gs, b, none⟩) (own_ge HO.out _ rfl) _
    · obtain rfl : b = S := by omega
      have hn2 := Lib.hid (hn.out.trans (nbit_end (Nat.le_refl _)))
      clear hn
      have hm1 := HM.out
      have hto := hm1.own.b.outer
      obtain ⟨gt, capT, hvT, _, _⟩ := hto.form (by show 0 < M.tn.length; omega)
      subst hvT
      obtain ⟨vb, hvb⟩ : ∃ vb, vsT.getD tr nilS = vb := ⟨_, rfl⟩
      obtain ⟨row, hrow⟩ : ∃ row, M.tn.getD tr [] = row := ⟨_, rfl⟩
      obtain ⟨nT, hnT⟩ : ∃ nT, M.tn.length = nT := ⟨_, rfl⟩
      have own1 := hm1.own.b.inner tr htr
      have cb := hm1.own.b.cellO htr
      rw [hvb, hrow] at own1
      rw [hvb] at cb
      have hrl : row.length ≤ M.mv := by rw [← hrow]; exact Hbd.out.2 tr
      obtain ⟨Ab, cap, rfl, _, _⟩ := own_form own1
      have n1 : (Value.slice Ab row.length cap).ownBlock ≠ some gm := own_blk_ne own1 hm1.blk (by decide)
      have n2 : apart (Value.slice (some ⟨gt, 0, none⟩) M.tn.length capT) (.slice Ab row.length cap) := own_ne hto own1 (by decide)
      rw [hnT] at n2 hto c5 htr
      have own1d := own_drew own1
      have hBd : B ≤ W1.drew.heap.size := hB
      have c5a := fun o : Obj => cell_alloc c5 o
      have cba := fun o : Obj => cell_alloc cb o
      have hms : row.length + 1 ≤ maxLen := by unfold maxLen; omega
      have hms2 : (row.length + 1) * 8 ≤ 140737488355328 := by omega
      have HO := Lib.hid hto
      have HB := Lib.hid hm1.blk
      have Hrow := Lib.hid hrow
      have Hvb := Lib.hid hvb
      have HnT := Lib.hid hnT
      rw [hnT] at HB
      clear hm1 hrow hvb hnT hto
      go_wp2_with fail
      go_region_law (refine step_pushb sl_int (by rfl) (.tmp 73) (.tmp 75) (by rfl) B (.slice Ab row.length cap) row.length (ints64 row) (by rfl) own1d 1 1 W1.drew.heap.size rfl (by rfl) (by rfl) (by rfl) hms hms2 hBd ?_
                     intro v' w9 own9 hgr
                     obtain ⟨A9, c9, rfl, _, _⟩ := own_form own9
                     have c5' := (HB.out.drew.grown hgr.grown (fun e => n1 e.symm)).cell 5
                     simp at c5'
                     have cb' := hgr.cell (a := ⟨gt, tr, none⟩) cb (by rcases n2.symm with e | e; (rw [e]; simp); exact e)
                     have zb' := (hgr.keep (own_drew HO.out) n2).frozenAt tr)
      all_goals
        go_wp2_with fail
        refine bodyPost_end (results_none rfl _ _ _) rfl ?_
        have hm9 := MachS.onT (M := { M with mv := M.mv + 1 }) HM.out.drew (by rw [HnT.out]; exact htr) (by rw [Hvb.out]; exact hgr) (own9_snoc own9)
        have hpp := push_none (l := l) (M := M) (by rw [Hq.out]; exact hn2.out)
        rw [Htr.out, Hrow.out] at hpp
        rw [hpp]
        refine ⟨rfl, ?_, _, _, hm9⟩
        exact (hbs.trans (below_drew' (hgr.below (own_ge own1d) hBd))).setCell (p := ⟨gt, tr, none⟩) (own_ge HO.out _ rfl) _
end Go.Proofs.YtocohkgdkebmdaaGreat
