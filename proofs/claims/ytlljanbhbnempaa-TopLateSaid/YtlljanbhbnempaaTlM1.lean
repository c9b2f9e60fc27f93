/- The machine of rollin in memory: two slices of slices of integers of the call's own, a further row, and the machine's block. -/
import Derived.Test.YtlljanbhbnempaaTlR
import Derived.Test.YtlljanbhbnempaaTlMach2
import Derived.Test.YtlljanbhbnempaaTlO
namespace Go.Proofs.Ytlljanbhbnempaa
open Go.RowKit
/-- Two slices of rows with no block in common, and a row apart from all of them. -/
structure Own2 (w : World) (B : Nat) (eO eI : TypeId) (v : Value) (n : Nat) (L : List (List Nat)) (vs : List Value) (v' : Value) (n' : Nat) (L' : List (List Nat)) (vs' : List Value) (lv : Value) (lr : List Nat) : Prop where
  a : OwnLL w B eO eI v n L vs
  b : OwnLL w B eO eI v' n' L' vs'
  o : apart v v'
  x : ∀ i j, i < n → j < n' → apart (vs.getD i nilS) (vs'.getD j nilS)
  r : w.ownsRow B eI 1 lv lr.length (ints64 lr)
  ra : ∀ i, i < n → apart (vs.getD i nilS) lv
  rb : ∀ j, j < n' → apart (vs'.getD j nilS) lv
section
variable {w w' : World} {B n n' : Nat} {eO eI : TypeId} {v v' lv : Value} {L L' : List (List Nat)} {vs vs' : List Value} {lr : List Nat}
theorem Own2.symm (h : Own2 w B eO eI v n L vs v' n' L' vs' lv lr) : Own2 w B eO eI v' n' L' vs' v n L vs lv lr :=
  ⟨h.b, h.a, h.o.symm, fun i j hi hj => (h.x j i hj hi).symm, h.r, h.rb, h.ra⟩
theorem Own2.below (h : Own2 w B eO eI v n L vs v' n' L' vs' lv lr) (hb : Below w.heap.size w w') : Own2 w' B eO eI v n L vs v' n' L' vs' lv lr :=
  ⟨h.a.below hb, h.b.below hb, h.o, h.x, own_below h.r hb, h.ra, h.rb⟩
theorem Own2.drewN (h : Own2 w B eO eI v n L vs v' n' L' vs' lv lr) (k : Nat) : Own2 (w.drewN k) B eO eI v n L vs v' n' L' vs' lv lr :=
  ⟨⟨h.a.outer, h.a.len, h.a.inner, h.a.far⟩, ⟨h.b.outer, h.b.len, h.b.inner, h.b.far⟩, h.o, h.x, h.r, h.ra, h.rb⟩
/-- The same rows behind a store into a block that is none of them. -/
theorem OwnLL.far_set {k j : Nat} {u : Value} (h : OwnLL w B eO eI v n L vs) (ho : v.ownBlock ≠ some k) (hi : ∀ i, i < n → (vs.getD i nilS).ownBlock ≠ some k) : OwnLL (w.setCell ⟨k, j, none⟩ u) B eO eI v n L vs :=
  ⟨own_set_other h.outer ho _, h.len, fun i hin => own_set_other (h.inner i hin) (hi i hin) _, h.far⟩
theorem Own2.far_set {k j : Nat} {u : Value} {t : TypeId} {cs : Array Value} (h : Own2 w B eO eI v n L vs v' n' L' vs' lv lr) (hk : Blk w k t cs) (h1 : eO ≠ t) (h2 : eI ≠ t) : Own2 (w.setCell ⟨k, j, none⟩ u) B eO eI v n L vs v' n' L' vs' lv lr :=
  ⟨h.a.far_set (own_blk_ne h.a.outer hk h1) (fun i hi => own_blk_ne (h.a.inner i hi) hk h2), h.b.far_set (own_blk_ne h.b.outer hk h1) (fun i hi => own_blk_ne (h.b.inner i hi) hk h2), h.o, h.x, own_set_other h.r (own_blk_ne h.r hk h2) _, h.ra, h.rb⟩
/-- A row of the first slice is grown and put back into its place. -/
theorem Own2.grown {g cap i : Nat} {v1 : Value} {l1 : List Nat} (hne : eI ≠ eO) (h : Own2 w B eO eI (.slice (some ⟨g, 0, none⟩) n cap) n L vs v' n' L' vs' lv lr) (hi : i < n) (hg : Grew w (vs.getD i nilS) v1 w')
    (hv : w'.ownsRow B eI 1 v1 l1.length (ints64 l1)) : Own2 (w'.setCell ⟨g, i, none⟩ v1) B eO eI (.slice (some ⟨g, 0, none⟩) n cap) n (L.set i l1) (vs.set i v1) v' n' L' vs' lv lr := by
  have hvl : vs.length = n := h.a.vlen
  have hgb : (Value.slice (some ⟨g, 0, none⟩) n cap).ownBlock = some g := rfl
  have hin := h.a.inner i hi
  have k1 := hg.keep h.b.outer (own_ne h.b.outer hin hne.symm)
  have hT : v'.ownBlock ≠ some g := by
    rcases h.o.symm with e | e
    · rw [e]; simp
    · rw [← hgb]; exact e
  have hblk : ∀ (u : Value) (m : Nat) (xs : List Value), w.ownsRow B eI 1 u m xs → u.ownBlock ≠ some g := by
    intro u m xs hu e
    rcases own_ne hu h.a.outer hne with h1 | h1
    · rw [h1] at e; cases e
    · exact h1 (by rw [e, hgb])
  refine ⟨OwnLL.grown hne h.a hi hg hv, ⟨own_set_other k1 hT _, h.b.len, fun j hj => own_set_other (hg.keep (h.b.inner j hj) (h.x i j hi hj).symm) (hblk _ _ _ (h.b.inner j hj)) _, h.b.far⟩, h.o, fun k j hk hj => ?_, own_set_other (hg.keep h.r (h.ra i hi).symm) (hblk _ _ _ h.r) _, fun k hk => ?_, h.rb⟩
  · by_cases e : i = k
    · subst e
      rw [getD_set_same (by omega)]
      exact (hg.apart_l (h.b.inner j hj) (h.x i j hi hj).symm).symm
    · rw [getD_set_other e]
      exact h.x k j hk hj
  · by_cases e : i = k
    · subst e
      rw [getD_set_same (by omega)]
      exact (hg.apart_l h.r (h.ra i hi).symm).symm
    · rw [getD_set_other e]
      exact h.ra k hk
/-- A row of the first slice is taken away, and becomes the further row. -/
theorem Own2.take {g cap i : Nat} (hne : eI ≠ eO) (h : Own2 w B eO eI (.slice (some ⟨g, 0, none⟩) n cap) n L vs v' n' L' vs' lv lr) (hi : i < n) :
    Own2 (w.setCell ⟨g, i, none⟩ nilS) B eO eI (.slice (some ⟨g, 0, none⟩) n cap) n (L.set i []) (vs.set i nilS) v' n' L' vs' (vs.getD i nilS) (L.getD i []) := by
  have hvl : vs.length = n := h.a.vlen
  have hgb : (Value.slice (some ⟨g, 0, none⟩) n cap).ownBlock = some g := rfl
  have hT : v'.ownBlock ≠ some g := by
    rcases h.o.symm with e | e
    · rw [e]; simp
    · rw [← hgb]; exact e
  have hblk : ∀ (u : Value) (m : Nat) (xs : List Value), w.ownsRow B eI 1 u m xs → u.ownBlock ≠ some g := by
    intro u m xs hu e
    rcases own_ne hu h.a.outer hne with h1 | h1
    · rw [h1] at e; cases e
    · exact h1 (by rw [e, hgb])
  refine ⟨OwnLL.clear hne h.a hi, h.b.far_set hT (fun j hj => hblk _ _ _ (h.b.inner j hj)), h.o, fun k j hk hj => ?_, own_set_other (h.a.inner i hi) (hblk _ _ _ (h.a.inner i hi)) _, fun k hk => ?_, fun j hj => (h.x i j hi hj).symm⟩
  · by_cases e : i = k
    · subst e
      rw [getD_set_same (by omega)]
      exact .inl rfl
    · rw [getD_set_other e]
      exact h.x k j hk hj
  · by_cases e : i = k
    · subst e
      rw [getD_set_same (by omega)]
      exact .inl rfl
    · rw [getD_set_other e]
      exact h.a.far k i (fun e2 => e e2.symm) hk hi
/-- The further row is let go. -/
theorem Own2.drop (h : Own2 w B eO eI v n L vs v' n' L' vs' lv lr) : Own2 w B eO eI v n L vs v' n' L' vs' nilS [] :=
  ⟨h.a, h.b, h.o, h.x, ⟨rfl, .inl ⟨rfl, rfl⟩⟩, fun _ _ => apart.symm (.inl rfl), fun _ _ => apart.symm (.inl rfl)⟩
end
theorem sl_int : SlT Try.prog 22 3 1 8 := slT_of (z := .int .i64 0) Try.underlying22 (by kernel_rfl) rfl (by decide)
theorem sl_lint : SlT Try.prog 37 22 1 24 := slT_of (z := nilS) Try.underlying37 (by kernel_rfl) rfl (by decide)
/-- The machine in memory: its block is gm; lv is a row that somebody holds beside it. -/
structure MachS (w : World) (B gm gs : Nat) (A : Option Addr) (n c k S : Nat) (AK : Option Addr) (cK : Nat) (vT : Value) (M : Tl.MC) (vsS vsT : List Value) (lv : Value) (lr : List Nat) : Prop where
  blk : Blk w gm 66 #[.slice A n c, .int .i64 k, .int .i64 S, .slice AK n cK, .slice (some ⟨gs, 0, none⟩) S S, vT, .int .i64 M.mv, .int .i64 M.pu]
  own : Own2 w B 22 3 (.slice (some ⟨gs, 0, none⟩) S S) S M.st vsS vT M.tn.length M.tn vsT lv lr
  ge : B ≤ gm
section
variable {w w' : World} {B gm gs n c k S cK : Nat} {A AK : Option Addr} {vT : Value} {M : Tl.MC} {vsS vsT : List Value} {lv : Value} {lr : List Nat}
theorem MachS.below (h : MachS w B gm gs A n c k S AK cK vT M vsS vsT lv lr) (hb : Below w.heap.size w w') : MachS w' B gm gs A n c k S AK cK vT M vsS vsT lv lr :=
  ⟨h.blk.below hb h.blk.lt, h.own.below hb, h.ge⟩
theorem MachS.drewN (h : MachS w B gm gs A n c k S AK cK vT M vsS vsT lv lr) (q : Nat) : MachS (w.drewN q) B gm gs A n c k S AK cK vT M vsS vsT lv lr :=
  ⟨h.blk.drewN q, h.own.drewN q, h.ge⟩
theorem MachS.drew (h : MachS w B gm gs A n c k S AK cK vT M vsS vsT lv lr) : MachS w.drew B gm gs A n c k S AK cK vT M vsS vsT lv lr := ⟨h.blk.drew, ⟨h.own.a.drew, h.own.b.drew, h.own.o, h.own.x, h.own.r, h.own.ra, h.own.rb⟩, h.ge⟩
/-- One move more. -/
theorem MachS.moved (h : MachS w B gm gs A n c k S AK cK vT M vsS vsT lv lr) : MachS (w.setCell ⟨gm, 6, none⟩ (.int .i64 (M.mv + 1 : Nat))) B gm gs A n c k S AK cK vT { M with mv := M.mv + 1 } vsS vsT lv lr :=
  ⟨by simpa using h.blk.set_ 6 (.int .i64 (M.mv + 1 : Nat)), h.own.far_set h.blk (by decide) (by decide), h.ge⟩
theorem MachS.pushed (h : MachS w B gm gs A n c k S AK cK vT M vsS vsT lv lr) : MachS (w.setCell ⟨gm, 7, none⟩ (.int .i64 (M.pu + 1 : Nat))) B gm gs A n c k S AK cK vT { M with pu := M.pu + 1 } vsS vsT lv lr :=
  ⟨by simpa using h.blk.set_ 7 (.int .i64 (M.pu + 1 : Nat)), h.own.far_set h.blk (by decide) (by decide), h.ge⟩
/-- An item is appended to a sorting track. -/
theorem MachS.onS {i : Nat} {v1 : Value} {l1 : List Nat} (h : MachS w B gm gs A n c k S AK cK vT M vsS vsT lv lr) (hi : i < S) (hg : Grew w (vsS.getD i nilS) v1 w') (hv : w'.ownsRow B 3 1 v1 l1.length (ints64 l1)) :
    MachS (w'.setCell ⟨gs, i, none⟩ v1) B gm gs A n c k S AK cK vT { M with st := M.st.set i l1 } (vsS.set i v1) vsT lv lr := by
  have h1 : (vsS.getD i nilS).ownBlock ≠ some gm := own_blk_ne (h.own.a.inner i hi) h.blk (by decide)
  have h2 : (Value.slice (some ⟨gs, 0, none⟩) S S).ownBlock ≠ some gm := own_blk_ne h.own.a.outer h.blk (by decide)
  refine ⟨(h.blk.grown hg.grown (fun e => h1 e.symm)).far (fun e => h2 (by rw [e]; rfl)) _, h.own.grown (by decide) hi hg hv, h.ge⟩
/-- An item is appended to the track of a train. -/
theorem MachS.onT {gt cap i : Nat} {v1 : Value} {l1 : List Nat} (h : MachS w B gm gs A n c k S AK cK (.slice (some ⟨gt, 0, none⟩) M.tn.length cap) M vsS vsT lv lr) (hi : i < M.tn.length) (hg : Grew w (vsT.getD i nilS) v1 w') (hv : w'.ownsRow B 3 1 v1 l1.length (ints64 l1)) :
    MachS (w'.setCell ⟨gt, i, none⟩ v1) B gm gs A n c k S AK cK (.slice (some ⟨gt, 0, none⟩) M.tn.length cap) { M with tn := M.tn.set i l1 } vsS (vsT.set i v1) lv lr := by
  have h1 : (vsT.getD i nilS).ownBlock ≠ some gm := own_blk_ne (h.own.b.inner i hi) h.blk (by decide)
  have h2 : (Value.slice (some ⟨gt, 0, none⟩) M.tn.length cap).ownBlock ≠ some gm := own_blk_ne h.own.b.outer h.blk (by decide)
  refine ⟨(h.blk.grown hg.grown (fun e => h1 e.symm)).far (fun e => h2 (by rw [e]; rfl)) _, ?_, h.ge⟩
  have := (h.own.symm.grown (by decide) hi hg hv).symm
  simpa using this
/-- A sorting track is emptied; its row is held beside the machine. -/
theorem MachS.take {i : Nat} (h : MachS w B gm gs A n c k S AK cK vT M vsS vsT lv lr) (hi : i < S) :
    MachS (w.setCell ⟨gs, i, none⟩ nilS) B gm gs A n c k S AK cK vT { M with st := M.st.set i [] } (vsS.set i nilS) vsT (vsS.getD i nilS) (M.st.getD i []) := by
  have h2 : (Value.slice (some ⟨gs, 0, none⟩) S S).ownBlock ≠ some gm := own_blk_ne h.own.a.outer h.blk (by decide)
  exact ⟨h.blk.far (fun e => h2 (by rw [e]; rfl)) _, h.own.take (by decide) hi, h.ge⟩
theorem MachS.drop (h : MachS w B gm gs A n c k S AK cK vT M vsS vsT lv lr) : MachS w B gm gs A n c k S AK cK vT M vsS vsT nilS [] := ⟨h.blk, h.own.drop, h.ge⟩
end
end Go.Proofs.Ytlljanbhbnempaa
