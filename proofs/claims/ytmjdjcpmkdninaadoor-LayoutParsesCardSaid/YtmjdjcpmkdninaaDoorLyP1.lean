/- The walks of a layout's kindOf and words. -/
import Derived.Test.YtmjdjcpmkdninaaDoorLyF1
import Derived.Test.YtmjdjcpmkdninaaDoorLyRound
namespace Go.Proofs.YtmjdjcpmkdninaaDoor
open Go.RowKit
theorem toList_ba (l : List UInt8) : (baOf l).toList = l := by rw [Lib.toList_data]; rfl
theorem str_eq (a b : ByteArray) : (a.toList == b.toList) = decide (a.data.toList = b.data.toList) := by
  rw [Lib.toList_data, Lib.toList_data]
  by_cases e : a.data.toList = b.data.toList
  · rw [decide_eq_true e, beq_iff_eq]; exact e
  · rw [decide_eq_false e, beq_eq_false_iff_ne]; exact e
theorem kindOf_none {s : List UInt8} (h : ∀ j : Int, 0 ≤ j → j < 5 → Ly.kindW j ≠ s) : Ly.kindOf s = none := by
  unfold Ly.kindOf
  rw [if_neg (fun e => h 0 (by omega) (by omega) e.symm), if_neg (fun e => h 1 (by omega) (by omega) e.symm), if_neg (fun e => h 2 (by omega) (by omega) e.symm), if_neg (fun e => h 3 (by omega) (by omega) e.symm), if_neg (fun e => h 4 (by omega) (by omega) e.symm)]
def KindR (o : Option Int) : Value := .tuple #[.int .i64 (o.getD 0), .bool o.isSome]
theorem kindR_some {s : ByteArray} {t : Int} (h : Ly.kindOf s.data.toList = some t) : Ending.returned (.tuple #[.int .i64 t, .bool true]) = .returned (KindR (Ly.kindOf s.data.toList)) := by rw [h]; rfl
theorem kindR_none {s : ByteArray} (h : Ly.kindOf s.data.toList = none) : Ending.returned (.tuple #[.int .i64 0, .bool false]) = .returned (KindR (Ly.kindOf s.data.toList)) := by rw [h]; rfl
set_option maxRecDepth 100000 in
set_option maxHeartbeats 2000000 in
theorem lkind_c (s : ByteArray) (w : World) :
    Calls Tryd.prog 46 #[.string s] w fun e w' => e = .returned (KindR (Ly.kindOf s.data.toList)) ∧ w = w' := by
  go_enter Tryd.func46, Tryd.ntmps46
  go_wp2_with fail
  go_loop [4] (fun p => ∃ t : Int, 0 ≤ t ∧ t ≤ 5 ∧ p = .int .i64 t ∧ Hid (∀ j : Int, 0 ≤ j → j < t → Ly.kindW j ≠ s.data.toList)) (fun p => (5 - intOf p).toNat)
  case atStart => exact ⟨0, by omega, by omega, rfl, Lib.hid (fun j h1 h2 => by omega)⟩
  case round =>
    obtain ⟨t, ht0, ht5, rfl, Hno⟩ := hrel
    by_cases h4 : t ≤ 4
    · have d1 : decide (t ≤ 4) = true := decide_eq_true h4
      have Hse := Lib.hid (str_eq (baOf (Ly.kindW t)) s)
      by_cases he : Ly.kindW t = s.data.toList
      · have Hv := Lib.hid (kindR_some (s := s) (t := t) (by rw [← he]; exact Ly.kindOf_W ⟨ht0, h4⟩))
        have hd : ((baOf (Ly.kindW t)).toList == s.toList) = true := by rw [Hse.out]; exact decide_eq_true he
        clear he
        go_wp2_with fail
        refine (lword_c t w).mono ?_
        rintro e w1 ⟨rfl, rfl⟩
        go_wp2_with fail
        go_ret2
        exact ⟨Hv.out, rfl⟩
      · have hd : ((baOf (Ly.kindW t)).toList == s.toList) = false := by rw [Hse.out]; exact decide_eq_false he
        have Hno' : Hid (∀ j : Int, 0 ≤ j → j < t + 1 → Ly.kindW j ≠ s.data.toList) := Lib.hid (fun j h1 h2 => by
          by_cases e : j = t
          · rw [e]; exact he
          · exact Hno.out j h1 (by omega))
        clear he
        go_wp2_with fail
        refine (lword_c t w).mono ?_
        rintro e w1 ⟨rfl, rfl⟩
        go_wp2_with fail
        go_round
        case rel => exact ⟨t + 1, by omega, by omega, by go_num, Hno'⟩
        case measure => simp [intOf]; omega
    · have d1 : decide (t ≤ 4) = false := decide_eq_false h4
      have Hv := Lib.hid (kindR_none (s := s) (kindOf_none (fun j h1 h2 => Hno.out j h1 (by omega))))
      go_wp2_with fail
      go_ret2
      exact ⟨Hv.out, rfl⟩
def LWordsR (s : ByteArray) (w : World) (e : Ending) (w' : World) : Prop := ∃ (L : List ByteArray) (n : Nat) (v : Value), e = .returned v ∧ w'.ownsRow w.heap.size 9 1 v n (L.map Value.string) ∧ bytesOfL L = Tx.words s.data.toList ∧ n ≤ s.size + 1 ∧ Below w.heap.size w w'
def wordsOf (L : List ByteArray) : List ByteArray := L.filter fun p => !p.data.toList.isEmpty
theorem wordsOf_snoc (L : List ByteArray) (x : ByteArray) : wordsOf (L ++ [x]) = if x.data.toList = [] then wordsOf L else wordsOf L ++ [x] := by
  unfold wordsOf
  rw [List.filter_append, List.filter_cons]
  by_cases h : x.data.toList = []
  · rw [if_pos h, if_neg (by rw [h]; decide)]; simp
  · rw [if_neg h, if_pos (by simpa using h)]; rfl
theorem words_of_cut (s : ByteArray) : bytesOfL (wordsOf ((Tx.cutAt 32 s.data.toList).map baOf)) = Tx.words s.data.toList := by
  unfold wordsOf Tx.words bytesOfL
  generalize Tx.cutAt 32 s.data.toList = M
  induction M with
  | nil => rfl
  | cons a r ih =>
    simp only [List.map_cons, List.filter_cons, baOf_data]
    cases a with
    | nil => simpa using ih
    | cons b t =>
      have h := ih
      simp at h ⊢
      exact ⟨rfl, h⟩
def LWI (w : World) (M : List ByteArray) (i v : Value) (wr : World) : Prop := ∃ (t n : Nat), t ≤ M.length ∧ i = .int .i64 (t : Int) ∧ n ≤ t ∧ wr.ownsRow (w.heap.size + 1) 9 1 v n ((wordsOf (M.take t)).map Value.string) ∧ Below w.heap.size w wr ∧ (∀ j, j < M.length → wr.cell? ⟨w.heap.size, j, none⟩ = some (.string (M.getD j ⟨#[]⟩))) ∧ w.heap.size + 1 ≤ wr.heap.size
set_option maxRecDepth 100000 in
set_option maxHeartbeats 4000000 in
theorem lwords_c (s : ByteArray) (m : Int) (w : World) (hs : s.size ≤ 1000000) (hm : w.cell? ⟨1, 0, none⟩ = some (.int .i64 m)) :
    Calls Tryd.prog 34 #[.string s] w (LWordsR s w) := by
  go_enter Tryd.func34, Tryd.ntmps34
  go_wp2_with fail
  refine (split_c 32 s m w hs hm).mono ?_
  rintro e w1 ⟨M, n, hM, hMn, hn1, hns, rfl, hw1⟩
  have HM := Lib.hid hM
  have Hn := Lib.hid hMn
  have hcell : ∀ j, j < M.length → w1.cell? ⟨w.heap.size, j, none⟩ = some (.string (M.getD j ⟨#[]⟩)) := by
    intro j hj
    rw [hw1, (Blk.new w _ _).cell j]
    simp [List.getElem?_eq_getElem hj, List.getD_eq_getElem?_getD]
  have hb1 : Below w.heap.size w w1 := by rw [hw1]; exact (Below.refl _ _).alloc (Nat.le_refl _) _
  have hz1 : w1.heap.size = w.heap.size + 1 := by rw [hw1]; simp
  have Hcell := Lib.hid hcell
  clear hM hMn hw1 hcell
  go_wp2_with fail
  go_loopw [3, 9] (fun v i wr => LWI w M i v wr) (fun _ i _ => n - (intOf i).toNat)
  case atStart => exact (show LWI _ _ _ _ _ from ⟨0, 0, by omega, rfl, by omega, World.ownsRow_nil _ _ _ _, hb1, Hcell.out, by omega⟩)
  case round =>
    obtain ⟨t, k, ht, rfl, hkt, own, hbr, hc, hz⟩ := hrel
    have htn : t ≤ n := by have := Hn.out; omega
    have hsz := own_ge own
    have hbrs := hbr.size
    by_cases hlt : t < n
    · have htM : t < M.length := by have := Hn.out; omega
      have hct := hc t htM
      obtain ⟨x, hx⟩ : ∃ x, M.getD t ⟨#[]⟩ = x := ⟨_, rfl⟩
      rw [hx] at hct
      have hxs : M[t]? = some x := by
        rw [← hx, List.getD_eq_getElem?_getD, List.getElem?_eq_getElem htM]; rfl
      have Hst : Hid (wordsOf (M.take (t + 1)) = if x.data.toList = [] then wordsOf (M.take t) else wordsOf (M.take t) ++ [x]) := Lib.hid (by
        rw [List.take_add_one, hxs]; exact wordsOf_snoc _ x)
      have Hse := Lib.hid (str_eq x ⟨#[]⟩)
      have Hc := Lib.hid hc
      clear hx hxs hc
      have htn' : (t : Int) < (n : Int) := by omega
      by_cases hemp : x.data.toList = []
      · have Hst' := Lib.hid (Hst.out.trans (if_pos hemp))
        have hd : x.toList.isEmpty = true := by rw [Lib.toList_data, hemp]; rfl
        clear hemp Hst Hse
        go_wp2_with fail
        go_roundw
        case rel => exact (show LWI _ _ _ _ _ from ⟨t + 1, k, by omega, by go_num, by omega, by rw [Hst'.out]; exact own, hbr, Hc.out, hz⟩)
        case measure => simp [intOf]; omega
      · have Hst' := Lib.hid (Hst.out.trans (if_neg hemp))
        have hd : x.toList.isEmpty = false := by
          rw [Lib.toList_data, Bool.eq_false_iff]
          intro h
          exact hemp (List.isEmpty_iff.1 h)
        have hh1 : w.heap.size + 1 ≤ wr.heap.size := by omega
        clear hemp Hst Hse
        go_wp2_with (at_builtin
                     go_must (
                     refine wpList_push sl_str rfl (.tmp 15) (.tmp 17) rfl (w.heap.size + 1) _ _ _ rfl own 1 1 rfl rfl rfl (by simp only [maxLen]; omega) (by omega) hh1 ?_
                     intro v' w3 own3 hgr))
        go_roundw
        case rel =>
          refine (show LWI _ _ _ _ _ from ⟨t + 1, k + 1, by omega, by go_num, by omega, ?_, hbr.trans ((hgr.below (own_ge own) hh1).mono (by omega)), fun j hj => ?_, by have := hgr.grown.size; omega⟩)
          · rw [Hst'.out, List.map_append]; exact own3
          · exact hgr.grown.cell (Hc.out j hj) (fun e => by have := own_ge own w.heap.size e.symm; omega)
        case measure => simp [intOf]; omega
    · have hte : M.length ≤ t := by have := Hn.out; omega
      have HW : Hid (bytesOfL (wordsOf (M.take t)) = Tx.words s.data.toList) := Lib.hid (by rw [List.take_of_length_le hte, HM.out]; exact words_of_cut s)
      have htn' : ¬ (t : Int) < (n : Int) := by omega
      go_wp2_with fail
      go_ret
      exact (show LWordsR _ _ _ _ from ⟨_, k, _, rfl, own_more own (by omega), HW.out, by omega, hbr⟩)
end Go.Proofs.YtmjdjcpmkdninaaDoor
