/- The walks of a layout's word and suffix; a byte is written to a builder. -/
import Derived.Test.YtmjdjcpmkdninaaDoorLyLib
import Derived.Test.YtmjdjcpmkdninaaDoorLyText
namespace Go.Proofs.YtmjdjcpmkdninaaDoor
open Go.RowKit
set_option maxHeartbeats 1000000 in
theorem lword_c (k : Int) (w : World) :
    Calls Tryd.prog 27 #[.int .i64 k] w fun e w' => e = .returned (.string (baOf (Ly.kindW k))) ∧ w = w' := by
  have hk : k = 0 ∨ k = 1 ∨ k = 2 ∨ k = 3 ∨ (k ≠ 0 ∧ k ≠ 1 ∧ k ≠ 2 ∧ k ≠ 3) := by omega
  rcases hk with rfl | rfl | rfl | rfl | ⟨h0, h1, h2, h3⟩
  · go_enter Tryd.func27, Tryd.ntmps27
    go_wp2_with fail
    go_ret
    exact ⟨rfl, rfl⟩
  · go_enter Tryd.func27, Tryd.ntmps27
    go_wp2_with fail
    go_ret
    exact ⟨rfl, rfl⟩
  · go_enter Tryd.func27, Tryd.ntmps27
    go_wp2_with fail
    go_ret
    exact ⟨rfl, rfl⟩
  · go_enter Tryd.func27, Tryd.ntmps27
    go_wp2_with fail
    go_ret
    exact ⟨rfl, rfl⟩
  · have e0 : (k == 0) = false := by simpa using h0
    have e1 : (k == 1) = false := by simpa using h1
    have e2 : (k == 2) = false := by simpa using h2
    have e3 : (k == 3) = false := by simpa using h3
    have HE := Lib.hid (show Ly.kindW k = Ly.track by unfold Ly.kindW; rw [if_neg h0, if_neg h1, if_neg h2, if_neg h3])
    clear h0 h1 h2 h3
    go_enter Tryd.func27, Tryd.ntmps27
    go_wp2_with fail
    go_ret
    exact ⟨by rw [HE.out]; rfl, rfl⟩
set_option maxHeartbeats 1000000 in
theorem lsuf_c (k : Int) (w : World) :
    Calls Tryd.prog 28 #[.int .i64 k] w fun e w' => e = .returned (.string (baOf (Ly.sufW k))) ∧ w = w' := by
  have hk : k = 1 ∨ k = 2 ∨ (k ≠ 1 ∧ k ≠ 2) := by omega
  rcases hk with rfl | rfl | ⟨h1, h2⟩
  · go_enter Tryd.func28, Tryd.ntmps28
    go_wp2_with fail
    go_ret
    exact ⟨rfl, rfl⟩
  · go_enter Tryd.func28, Tryd.ntmps28
    go_wp2_with fail
    go_ret
    exact ⟨rfl, rfl⟩
  · have e1 : (k == 1) = false := by simpa using h1
    have e2 : (k == 2) = false := by simpa using h2
    have HE := Lib.hid (show Ly.sufW k = [] by unfold Ly.sufW; rw [if_neg h1, if_neg h2])
    clear h1 h2
    go_enter Tryd.func28, Tryd.ntmps28
    go_wp2_with fail
    go_ret
    exact ⟨by rw [HE.out]; rfl, rfl⟩
theorem sl8 : SlT Tryd.prog 34 5 1 1 := slT_of (z := .int .u8 0) Tryd.underlying34 (by kernel_rfl) rfl (by omega)
set_option maxHeartbeats 2000000 in
set_option maxRecDepth 100000 in
theorem writeByte_c (B b : Nat) (bs : List UInt8) (c : UInt8) (w : World) (h : Bd B b bs w) (hlen : bs.length + 1 ≤ 140737488355328) (hBw : B ≤ w.heap.size) :
    Calls Tryd.prog 30 #[.pointer (some ⟨b, 0, none⟩), .int .u8 (c.toNat : Int)] w fun e w' => e = .returned .nilIface ∧ (Bd B b (bs ++ [c]) w' ∧ Below B w w' ∧ KeepT w w') := by
  have hlB : (Lib.byteCells bs).length = bs.length := Lib.byteCells_length bs
  go_enter Tryd.func30, Tryd.ntmps30
  go_wp2_with fail
  refine (copy_c B b (Lib.byteCells bs) _ h).mono ?_
  rintro e w1 ⟨rfl, h1, hb1, hsz1, hk1⟩
  obtain ⟨hB, v, hbk, hown, hne⟩ := h1
  rw [hlB] at hown
  have c0 : w1.cell? ⟨b, 0, none⟩ = some (.pointer (some ⟨b, 0, none⟩)) := by rw [Lib.cell_of_heap hbk]; rfl
  have c1 : w1.cell? ⟨b, 1, none⟩ = some v := by rw [Lib.cell_of_heap hbk]; rfl
  clear hlB
  have Hsz := Lib.hid hsz1
  clear hsz1
  have hlt : b < w1.heap.size := heap_lt hbk
  have hB1 : B ≤ w1.heap.size := by have := hb1.size; omega
  go_wp2_with (at_builtin
               go_must (
               refine wpList_push sl8 rfl (.tmp 11) (.tmp 13) rfl B v _ _ rfl hown 1 1 rfl rfl rfl (by unfold maxLen; omega) (by omega) hB1 ?_
               intro v' w2 hown' hgr
               have hgrow := hgr.grown
               have hb2 : w2.heap[b]? = some (.cells #[.pointer (some ⟨b, 0, none⟩), v] 54 (0, 0)) := by
                 rw [hgrow.block b hlt (fun e => hne e.symm)]
                 exact hbk
               have d0 : w2.cell? ⟨b, 0, none⟩ = some (.pointer (some ⟨b, 0, none⟩)) := by rw [Lib.cell_of_heap hb2]; rfl
               have d1 : w2.cell? ⟨b, 1, none⟩ = some v := by rw [Lib.cell_of_heap hb2]; rfl
               have f1 : w2.frozen? ⟨b, 1, none⟩ = false := Lib.frozen_of_heap hb2 1
               obtain ⟨ao, cap', rfl, _, _⟩ := own_form hown'))
  go_ret
  refine ⟨rfl, .inr ?_, ?_, ?_⟩
  · have hcs : Lib.byteCells (bs ++ [c]) = Lib.byteCells bs ++ [.int .u8 (c.toNat : Int)] := by
      simp [Lib.byteCells]
    have hlen' : (Lib.byteCells (bs ++ [c])).length = bs.length + 1 := by rw [Lib.byteCells_length]; simp
    refine Lib.BuilderAt.put (T := 54) (e := 5) hB hb2 (bs' := Lib.byteCells (bs ++ [c])) ?_ (by decide)
    rw [hlen', hcs]
    exact hown'
  · exact (hb1.grown hgrow (by have := hb1.size; omega) (fun k hk => (hown.lt k hk).1)).setCell (p := ⟨b, 1, none⟩) hB _
  · refine hk1.trans fun g cs T f hg h1 h2 => ?_
    have hgb : g ≠ b := fun e => by
      subst e
      rw [hg] at hbk
      injection hbk with hbk
      injection hbk with _ hT
      exact h2 hT
    rw [Below.heap_setCell _ _ _ _ hgb, hgrow.block g (heap_lt hg) (fun e => Lib.ownBlock_ne hown hg h1 e.symm)]
    exact hg
end Go.Proofs.YtmjdjcpmkdninaaDoor
