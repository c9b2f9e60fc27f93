/- The least codes do not depend on the order; the walk of certificate.Make. -/
import Derived.Test.YtocohkgdkebmdaaGreatTlWs
namespace Go.Proofs.YtocohkgdkebmdaaGreat
open Go.RowKit
namespace Tl
theorem solveGo_complete {l : List IT} {w : Nat} {K : List Nat} (hs : Sol l w K) : ∀ (r done b Kc : List Nat), Ord l (done ++ r) → Kc.length = l.length → (∀ x ∈ done, kAt Kc x = kAt K x) →
    ∃ b2 K2, solveGo l w r b Kc = some (b2, K2) ∧ K2.length = l.length ∧ ∀ x ∈ done ++ r, kAt K2 x = kAt K x := by
  intro r
  induction r with
  | nil => intro done b Kc ho hl hd; exact ⟨b, Kc, rfl, hl, fun x hx => hd x (by simpa using hx)⟩
  | cons y r ih =>
    intro done b Kc ho hl hd
    have hy : y < l.length := by
      have := (ho.perm.mem_iff (a := y)).1 (by simp)
      simpa using this
    have hb : base l Kc y = base l K y := by
      unfold base
      refine baseTo_congr l.length fun x hx hr => hd x ?_
      have h1 := (rel_bl hr).2
      have hm : x ∈ done ++ y :: r := (ho.perm.mem_iff (a := x)).2 (by simpa using hx)
      rcases List.mem_append.1 hm with hm | hm
      · exact hm
      · exfalso
        have h2 := (List.pairwise_append.1 ho.blk).2.1
        rw [List.pairwise_cons] at h2
        rcases List.mem_cons.1 hm with e | hm
        · subst e; omega
        · have := h2.1 x hm; omega
    have hnod : (done ++ y :: r).Nodup := ho.perm.nodup_iff.2 List.nodup_range
    have hyd : y ∉ done := fun hm => (List.nodup_append.1 hnod).2.2 y hm y (List.mem_cons_self ..) rfl
    unfold solveGo
    rw [hb, hs.2 y hy]
    obtain ⟨b2, K2, h1, h2, h3⟩ := ih (done ++ [y]) (b.set y (base l K y)) (Kc.set y (kAt K y)) (by rw [List.append_assoc]; exact ho) (by simpa using hl) (fun x hx => by
      rcases List.mem_append.1 hx with hx | hx
      · have hne : y ≠ x := fun e => hyd (by rw [e]; exact hx)
        rw [kAt_set_other hne]; exact hd x hx
      · rw [List.mem_singleton.1 hx, kAt_set_same (by omega)])
    exact ⟨b2, K2, h1, h2, fun x hx => h3 x (by rw [List.append_assoc]; exact hx)⟩
theorem solve_complete {l : List IT} {w : Nat} {K o : List Nat} (hs : Sol l w K) (ho : Ord l o) : ∃ b, solve l w o = some (b, K) := by
  obtain ⟨b2, K2, h1, h2, h3⟩ := solveGo_complete hs o [] (zeros l.length) (zeros l.length) (by simpa using ho) (by simp [zeros]) (by intro x hx; cases hx)
  have e : K2 = K := by
    refine list_ext_getD (by rw [h2, hs.1]) fun k hk => ?_
    exact h3 k (by rw [List.nil_append]; exact (ho.perm.mem_iff).2 (by simp; omega))
  subst e
  exact ⟨b2, h1⟩
/-- Two orders give the same codes. -/
theorem solve_same {l : List IT} {w : Nat} {o o' : List Nat} (ho : Ord l o) (ho' : Ord l o') : (solve l w o = none → solve l w o' = none) ∧ ∀ b K, solve l w o = some (b, K) → ∃ b', solve l w o' = some (b', K) := by
  refine ⟨fun h => ?_, fun b K h => solve_complete (solve_sol ho h).1 ho'⟩
  cases h2 : solve l w o' with
  | none => rfl
  | some bK =>
    obtain ⟨b, K⟩ := bK
    obtain ⟨b', h3⟩ := solve_complete (solve_sol ho' h2).1 ho
    rw [h] at h3
    cases h3
end Tl
/-- What a proof is. -/
def proofV (S : Nat) (AK : Option Addr) (n cK : Nat) (v : Value) : Value := .agg #[.int .i64 S, .slice AK n cK, v]
/-- What Make leaves. -/
def MkR (l : List IT) (k n : Nat) (w : World) (e : Ending) (w' : World) : Prop :=
  ∃ o : List Nat, Tl.Ord l o ∧ Below w.heap.size w w' ∧
    ((Tl.solve l k o = none ∧ e = .returned (.tuple #[proofV 0 none 0 0 nilS, .int .i64 15])) ∨
     ∃ (b K : List Nat) (g : Nat) (v : Value) (ch : List Nat), Tl.solve l k o = some (b, K) ∧ e = .returned (.tuple #[proofV (Tl.stepsOf K) (some ⟨g, 0, none⟩) n n v, .int .i64 0]) ∧
       w'.ownsRow w.heap.size 3 1 (.slice (some ⟨g, 0, none⟩) n n) n (ints64 K) ∧ w'.ownsRow w.heap.size 3 1 v ch.length (ints64 ch.reverse) ∧
       ((n = 0 ∧ ch = []) ∨ ∃ y, Tl.Chn l K y ch ∧ Tl.base l K y = 0 ∧ Tl.kAt K (ch.getD 0 0) = Tl.maxTo K n ∧ ch.length ≤ 32))
/-- A plan, its parts apart. -/
def LsP (l : List IT) (k n : Nat) (w : World) (s : Int) (A : Option Addr) (m c : Nat) (x : Int) (W : World) : Prop :=
  ∃ o : List Nat, Tl.Ord l o ∧ Below w.heap.size w W ∧
      ((Tl.solve l k o = none ∧ s = 0 ∧ A = none ∧ m = 0 ∧ c = 0 ∧ x = 15) ∨
       ∃ (b K : List Nat) (g : Nat), Tl.solve l k o = some (b, K) ∧ s = (Tl.stepsOf K : Nat) ∧ A = some ⟨g, 0, none⟩ ∧ n = m ∧ n = c ∧ x = 0 ∧ W.ownsRow w.heap.size 3 1 (.slice (some ⟨g, 0, none⟩) n n) n (ints64 K))
theorem lsr_form {l : List IT} {k n : Nat} {w W : World} {e : Ending} (h : LsR l k n w e W) : ∃ (s : Int) (A : Option Addr) (m c : Nat) (x : Int), e = .returned (.tuple #[.agg #[.int .i64 s, .slice A m c], .int .i64 x]) ∧ LsP l k n w s A m c x W := by
  obtain ⟨o, ho, hb, h | ⟨b, K, g, h1, h2, h3⟩⟩ := h
  · exact ⟨0, none, 0, 0, 15, h.2, o, ho, hb, .inl ⟨h.1, rfl, rfl, rfl, rfl, rfl⟩⟩
  · exact ⟨_, _, _, _, 0, h2, o, ho, hb, .inr ⟨b, K, g, h1, rfl, rfl, rfl, rfl, rfl, h3⟩⟩
theorem wtr_form {l : List IT} {k n : Nat} {w W : World} {e : Ending} {o b K : List Nat} (h : WtR l k n w e W) (ho : Tl.Ord l o) (hso : Tl.solve l k o = some (b, K)) :
    ∃ (v : Value) (ch : List Nat), e = .returned (.tuple #[v, .int .i64 0]) ∧ Below w.heap.size w W ∧ W.ownsRow w.heap.size 3 1 v ch.length (ints64 ch.reverse) ∧
      ((n = 0 ∧ ch = []) ∨ ∃ y, Tl.Chn l K y ch ∧ Tl.base l K y = 0 ∧ Tl.kAt K (ch.getD 0 0) = Tl.maxTo K n ∧ ch.length ≤ 32) := by
  obtain ⟨o', ho', hb, h | h | h⟩ := h
  · have := (Tl.solve_same ho' ho).1 h.1
    rw [hso] at this
    cases this
  · exact ⟨nilS, [], h.2.2, hb, ⟨rfl, .inl ⟨rfl, rfl⟩⟩, .inl ⟨h.1, rfl⟩⟩
  · obtain ⟨b', K', y, ch, v, h1, h2, h3, h4, h5, h6, h7⟩ := h
    obtain ⟨b2, h8⟩ := (Tl.solve_same ho' ho).2 b' K' h1
    rw [hso] at h8
    cases h8
    exact ⟨v, ch, h6, hb, h7, .inr ⟨y, h2, h3, h4, h5⟩⟩
set_option maxRecDepth 100000 in
set_option maxHeartbeats 4000000 in
theorem cmake_c (A : Option Addr) (n c k : Nat) (l : List IT) (w : World) (hj : Tl.JobOk l k) (hn : n ≤ 12) (h : IR4 w A n l) :
    Calls Tryz.prog 58 #[jobV A n c k] w (MkR l k n w) := by
  have hl := h.len
  obtain ⟨W0, hW0⟩ : ∃ W0, (w.alloc (.cells #[.slice A n c, .int .i64 k] 57)).alloc (.cells #[.int .i64 0, .slice none 0 0, .slice none 0 0] 61) = W0 := ⟨_, rfl⟩
  have hB1 : Blk W0 w.heap.size 57 #[.slice A n c, .int .i64 k] := by rw [← hW0]; exact (Blk.new w _ _).alloc _
  have hB2 : Blk W0 (w.heap.size + 1) 61 #[.int .i64 0, .slice none 0 0, .slice none 0 0] := by
    rw [← hW0]
    have := Blk.new (w.alloc (.cells #[.slice A n c, .int .i64 k] 57)) 61 #[.int .i64 0, .slice none 0 0, .slice none 0 0]
    simpa using this
  have hb0 : Below w.heap.size w W0 := by rw [← hW0]; exact ((Below.refl _ _).alloc (Nat.le_refl _) _).alloc (by simp) _
  have hs0 := hb0.size
  have h0 := h.below hb0
  have HL := Lib.hid (least_c A n c k l W0 hj hn h0)
  have HJ := Lib.hid hj
  unfold jobV at HL ⊢
  obtain ⟨B, hB⟩ : ∃ B, w.heap.size = B := ⟨_, rfl⟩
  rw [hB] at hB1 hB2 hb0 hs0
  have j0 := hB1.cell 0
  have j1 := hB1.cell 1
  simp at j0 j1
  clear h hB1 hj
  go_enter Tryz.func58, Tryz.ntmps58
  go_wp2_with fail
  clear hW0
  refine HL.out.mono ?_
  intro e w1 hls
  obtain ⟨S, AS, m, cS, x, rfl, o, ho, hb1, hcase⟩ := lsr_form hls
  replace j0 := keep_cell hb1 j0
  replace j1 := keep_cell hb1 j1
  have hX := hB2.below hb1 hB2.lt
  have h1 := h0.below hb1
  have hs1 : B ≤ w1.heap.size := Nat.le_trans hs0 hb1.size
  have hb2 : Below B w w1 := hb0.trans (hb1.mono hs0)
  clear HL hb0 hb1 h0 hB2 hls
  rcases hcase with ⟨hno, rfl, rfl, rfl, rfl, rfl⟩ | ⟨b, K, g, hso, rfl, rfl, rfl, rfl, rfl, own⟩
  · have hX2 := hX.alloc (.cells #[.int .i64 0, .slice none 0 0] 59)
    have hbq := hb2.alloc hs1 (.cells #[.int .i64 0, .slice none 0 0] 59)
    have hX3 := ((hX2.set_ 0 (.int .i64 0)).set_ 1 (.slice none 0 0)).set_ 2 (.slice none 0 0)
    have hbx := ((hbq.setCell (p := ⟨B + 1, 0, none⟩) (show B ≤ B + 1 by omega) (.int .i64 0)).setCell (p := ⟨B + 1, 1, none⟩) (show B ≤ B + 1 by omega) (.slice none 0 0)).setCell (p := ⟨B + 1, 2, none⟩) (show B ≤ B + 1 by omega) (.slice none 0 0)
    have q0 := hX3.cell 0
    have q1 := hX3.cell 1
    have q2 := hX3.cell 2
    have z0 := hX2.frozen 0
    have z1 := hX2.frozen 1
    have z2 := hX2.frozen 2
    have x0 := hX2.cell 0
    have x1 := hX2.cell 1
    have x2 := hX2.cell 2
    simp at q0 q1 q2 x0 x1 x2
    have hE : MkR l k n w (.returned (.tuple #[proofV 0 none 0 0 nilS, .int .i64 15])) _ := ⟨o, ho, by rw [hB]; exact hbx, .inl ⟨hno, rfl⟩⟩
    clear hno ho hX hX2 hX3 hbq hbx
    go_wp2_with fail
    exact bodyPost_ret (v := .tuple #[proofV 0 none 0 0 nilS, .int .i64 15]) (by simp [results, proofV, nilS, Tryz.results58, go_sem, q0, q1, q2]) rfl hE
  · have hX2 := hX.alloc (.cells #[.int .i64 (Tl.stepsOf K : Nat), .slice (some ⟨g, 0, none⟩) n n] 59)
    have hPl := Blk.new w1 59 #[.int .i64 (Tl.stepsOf K : Nat), .slice (some ⟨g, 0, none⟩) n n]
    have hbq := hb2.alloc hs1 (.cells #[.int .i64 (Tl.stepsOf K : Nat), .slice (some ⟨g, 0, none⟩) n n] 59)
    have own2 := own.alloc (.cells #[.int .i64 (Tl.stepsOf K : Nat), .slice (some ⟨g, 0, none⟩) n n] 59)
    have h2 := h1.below ((Below.refl w1.heap.size w1).alloc (Nat.le_refl _) (.cells #[.int .i64 (Tl.stepsOf K : Nat), .slice (some ⟨g, 0, none⟩) n n] 59))
    have HW := Lib.hid (witness_c A n c k l _ HJ.out hn h2)
    unfold jobV at HW
    obtain ⟨pb, hpb⟩ : ∃ pb, w1.heap.size = pb := ⟨_, rfl⟩
    rw [hpb] at hPl
    have HSo := Lib.hid hso
    have Ho := Lib.hid ho
    have hgp : g < pb := by rw [← hpb]; exact (own.lt g rfl).2
    have hs2 : w1.heap.size < (w1.alloc (.cells #[.int .i64 (Tl.stepsOf K : Nat), .slice (some ⟨g, 0, none⟩) n n] 59)).heap.size := by simp
    have j0a := fun o : Obj => cell_alloc j0 o
    have j1a := fun o : Obj => cell_alloc j1 o
    clear hso ho own hb2
    go_wp2_with fail
    generalize w1.alloc (.cells #[.int .i64 (Tl.stepsOf K : Nat), .slice (some ⟨g, 0, none⟩) n n] 59) = w2 at *
    refine HW.out.mono ?_
    intro e w3 hwt
    obtain ⟨v, ch, rfl, hb3, ownc, hch⟩ := wtr_form hwt Ho.out HSo.out
    have hX3 := hX2.below hb3 hX2.lt
    have hP3 := hPl.below hb3 hPl.lt
    have own3 := own_below own2 hb3
    have hB2 : B ≤ w2.heap.size := by omega
    have hb4 : Below B w w3 := hbq.trans (hb3.mono hB2)
    obtain ⟨Ac, cc, rfl, _, _⟩ := own_form ownc
    have p0 := hP3.cell 0
    have p1 := hP3.cell 1
    have z0 := hX3.frozen 0
    have z1 := hX3.frozen 1
    have z2 := hX3.frozen 2
    have x0 := hX3.cell 0
    have x1 := hX3.cell 1
    have x2 := hX3.cell 2
    simp at p0 p1 x0 x1 x2
    have hY1 := hX3.set_ 0 (.int .i64 (Tl.stepsOf K : Nat))
    have hY2 := hY1.set_ 1 (.slice (some ⟨g, 0, none⟩) n n)
    have hY3 := hY2.set_ 2 (.slice Ac ch.length cc)
    have q0 := hY3.cell 0
    have q1 := hY3.cell 1
    have q2 := hY3.cell 2
    simp at q0 q1 q2
    have o1 := own_set_other (j := 2) (own_set_other (j := 1) (own_set_other (j := 0) own3 (own_blk_ne own3 hX3 (by decide)) (.int .i64 (Tl.stepsOf K : Nat))) (own_blk_ne own3 hX3 (by decide)) (.slice (some ⟨g, 0, none⟩) n n)) (own_blk_ne own3 hX3 (by decide)) (.slice Ac ch.length cc)
    have o2 := own_set_other (j := 2) (own_set_other (j := 1) (own_set_other (j := 0) ownc (own_blk_ne ownc hX3 (by decide)) (.int .i64 (Tl.stepsOf K : Nat))) (own_blk_ne ownc hX3 (by decide)) (.slice (some ⟨g, 0, none⟩) n n)) (own_blk_ne ownc hX3 (by decide)) (.slice Ac ch.length cc)
    have hb5 := ((hb4.setCell (p := ⟨B + 1, 0, none⟩) (show B ≤ B + 1 by omega) (.int .i64 (Tl.stepsOf K : Nat))).setCell (p := ⟨B + 1, 1, none⟩) (show B ≤ B + 1 by omega) (.slice (some ⟨g, 0, none⟩) n n)).setCell (p := ⟨B + 1, 2, none⟩) (show B ≤ B + 1 by omega) (.slice Ac ch.length cc)
    have hE : MkR l k n w (.returned (.tuple #[proofV (Tl.stepsOf K) (some ⟨g, 0, none⟩) n n (.slice Ac ch.length cc), .int .i64 0])) _ := ⟨o, Ho.out, by rw [hB]; exact hb5, .inr ⟨b, K, g, _, ch, HSo.out, rfl, by rw [hB]; exact own_more o1 hs0, by rw [hB]; exact own_more o2 hB2, hch⟩⟩
    clear HW o1 o2 hb5 hY1 hY2 hY3 ownc own3 hwt hch hX3 hP3 hb4
    go_wp2_with fail
    exact bodyPost_ret (v := .tuple #[proofV (Tl.stepsOf K) (some ⟨g, 0, none⟩) n n (.slice Ac ch.length cc), .int .i64 0]) (by simp [results, proofV, Tryz.results58, go_sem, q0, q1, q2]) rfl hE
end Go.Proofs.YtocohkgdkebmdaaGreat
