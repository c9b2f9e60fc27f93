/- strings.Builder at this program: copyCheck and WriteString walked (the builder as the library's IsBuilder says it), at the types of this program. -/
import Derived.Test.YtiegpkbollihgaaDoorMem
import Derived.Lib.Builder
import Derived.Lib.AppendStr
import Derived.Laws.Externs
namespace Go.Proofs.YtiegpkbollihgaaDoor
open Go.RowKit
theorem bd_size : ∃ j, Tryd.prog.info? 74 = some j ∧ j.size = 2 := by
  have h : (Tryd.prog.info? 74).map (·.size) = some 2 := by kernel_rfl
  exact Option.map_eq_some_iff.1 h
theorem bd_lies : liesAt Tryd.prog Tryd.prog.depth 74 (2 / Tryd.prog.cellsOf 74) 0 74 1 = true := by kernel_rfl
theorem byte_info : (Tryd.prog.info? 5).map (fun i => (i.zero, i.size, i.bytes)) = some (some (.int .u8 0), 1, 1) := by kernel_rfl
/-- A builder at b that holds the bytes. -/
def Bd (B b : Nat) (bs : List UInt8) (w : World) : Prop := Lib.IsBuilder 74 5 B b (Lib.byteCells bs) w
/-- Blocks that are neither bytes nor builders are as they were. -/
def KeepT (w w' : World) : Prop := ∀ (g : Nat) (cs : Array Value) (T : TypeId) (f : Nat × Nat), w.heap[g]? = some (.cells cs T f) → T ≠ 5 → T ≠ 74 → w'.heap[g]? = some (.cells cs T f)
theorem KeepT.refl (w : World) : KeepT w w := fun _ _ _ _ h _ _ => h
theorem KeepT.trans {w w1 w2 : World} (h : KeepT w w1) (k : KeepT w1 w2) : KeepT w w2 := fun g cs T f hg h1 h2 => k g cs T f (h g cs T f hg h1 h2) h1 h2
theorem heap_lt {w : World} {g : Nat} {o : Obj} (h : w.heap[g]? = some o) : g < w.heap.size := by
  rcases Nat.lt_or_ge g w.heap.size with h' | h'
  · exact h'
  · rw [Array.getElem?_eq_none h'] at h; cases h
theorem KeepT.below {w w1 : World} (h : Below w.heap.size w w1) : KeepT w w1 := fun g _ _ _ hg _ _ => (h.block g (heap_lt hg)).trans hg
theorem KeepT.blk {w w1 : World} (h : KeepT w w1) {g t : Nat} {cs : Array Value} (hb : Blk w g t cs) (h1 : t ≠ 5) (h2 : t ≠ 74) : Blk w1 g t cs := h g cs t (0, 0) hb h1 h2
theorem KeepT.own {w w1 : World} (h : KeepT w w1) {B e size n : Nat} {v : Value} {xs : List Value} (ho : w.ownsRow B e size v n xs) (h1 : e ≠ 5) (h2 : e ≠ 74) : w1.ownsRow B e size v n xs := by
  refine ⟨ho.1, ?_⟩
  rcases ho.2 with h0 | ⟨g, cap, cur, hv, hg, hh, hr⟩
  · exact .inl h0
  · exact .inr ⟨g, cap, cur, hv, hg, h g cur e (0, 0) hh h1 h2, hr⟩
theorem BuilderAt_below {B b : Nat} {p : Value} {bs : List Value} {w w' : World} (h : Lib.BuilderAt 74 5 B b p bs w) (hb : Below w.heap.size w w') : Lib.BuilderAt 74 5 B b p bs w' := by
  obtain ⟨h1, v, h2, h3, h4⟩ := h
  exact ⟨h1, v, (hb.block b (heap_lt h2)).trans h2, own_below h3 hb, h4⟩
theorem Bd.below {B b : Nat} {bs : List UInt8} {w w' : World} (h : Bd B b bs w) (hb : Below w.heap.size w w') : Bd B b bs w' := by
  rcases h with h | h
  · exact .inl (BuilderAt_below h hb)
  · exact .inr (BuilderAt_below h hb)
set_option maxHeartbeats 1000000 in
set_option maxRecDepth 100000 in
theorem copy_used (b : Nat) (w : World) (h0 : w.cell? ⟨b, 0, none⟩ = some (.pointer (some ⟨b, 0, none⟩))) :
    Calls Tryd.prog 55 #[.pointer (some ⟨b, 0, none⟩)] w fun e w' => e = .returned (.tuple #[]) ∧ w' = w := by
  obtain ⟨j, hj, _⟩ := bd_size
  go_enter Tryd.func55, Tryd.ntmps55
  go_wp2
  rw [Lib.run_neq_ptr_same w _ Tryd.underlying72 hj]
  go_wp2
  go_end0
  exact ⟨rfl, rfl⟩
set_option maxHeartbeats 1000000 in
set_option maxRecDepth 100000 in
theorem copy_fresh (b : Nat) (w : World) (h0 : w.cell? ⟨b, 0, none⟩ = some (.pointer none)) (hsh : w.shape? b = some (74, 2)) (hfz : w.frozen? ⟨b, 0, none⟩ = false) :
    Calls Tryd.prog 55 #[.pointer (some ⟨b, 0, none⟩)] w fun e w' => e = .returned (.tuple #[]) ∧ w' = w.setCell ⟨b, 0, none⟩ (.pointer (some ⟨b, 0, none⟩)) := by
  obtain ⟨j, hj, hjs⟩ := bd_size
  go_enter Tryd.func55, Tryd.ntmps55
  go_wp2
  rw [Lib.run_to_unsafe w ⟨b, 0, none⟩ Tryd.underlying72 Tryd.underlying102 hj (by rw [hjs]; decide) hsh (Nat.zero_lt_succ 1)]
  simp only [Result.andThen]
  rw [Oper.upon_value]
  go_wp2
  rw [run_callFunc_extern Tryd.func65 (by kernel_rfl) (by kernel_rfl) (by kernel_rfl) (e := Extern.AbiNoEscape.same) (by kernel_rfl)]
  rw [Lib.run_noEscape]
  simp only [Result.andThen]
  rw [Oper.upon_value]
  go_wp2
  rw [Lib.run_from_unsafe w ⟨b, 0, none⟩ Tryd.underlying102 Tryd.underlying72 hj hsh bd_lies]
  simp only [Result.andThen]
  rw [Oper.upon_value]
  go_wp2
  go_end0
  exact ⟨rfl, rfl⟩
theorem copy_c (B b : Nat) (bs : List Value) (w : World) (h : Lib.IsBuilder 74 5 B b bs w) :
    Calls Tryd.prog 55 #[.pointer (some ⟨b, 0, none⟩)] w fun e w' => e = .returned (.tuple #[]) ∧ (Lib.BuilderAt 74 5 B b (.pointer (some ⟨b, 0, none⟩)) bs w' ∧ Below B w w' ∧ w'.heap.size = w.heap.size ∧ KeepT w w') := by
  rcases h with h | h
  · refine (copy_fresh b w h.cell0 h.shape h.frozen0).mono ?_
    rintro e w' ⟨rfl, rfl⟩
    refine ⟨rfl, h.used _, (Below.refl B w).setCell (p := ⟨b, 0, none⟩) h.1 _, by simp [World.setCell], fun g cs T f hg _ h2 => ?_⟩
    rw [Below.heap_setCell _ _ _ _ (fun e => ?_)]
    · exact hg
    · obtain ⟨_, v, hb, _⟩ := h
      simp only at e
      subst e
      rw [hg] at hb
      injection hb with hb
      injection hb with _ hT
      exact h2 hT
  · refine (copy_used b w h.cell0).mono ?_
    rintro e w' ⟨rfl, rfl⟩
    exact ⟨rfl, h, Below.refl B _, rfl, KeepT.refl _⟩
set_option maxHeartbeats 2000000 in
set_option maxRecDepth 100000 in
theorem writeString_c (B b : Nat) (bs : List UInt8) (s : ByteArray) (w : World) (h : Bd B b bs w) (hlen : bs.length + s.size ≤ 140737488355328) (hBw : B ≤ w.heap.size) :
    Calls Tryd.prog 33 #[.pointer (some ⟨b, 0, none⟩), .string s] w fun e w' => e = .returned (.tuple #[.int .i64 s.size, .nilIface]) ∧ (Bd B b (bs ++ s.data.toList) w' ∧ Below B w w' ∧ KeepT w w') := by
  obtain ⟨i0, hi, hz0, hz1, hz2⟩ := info_parts byte_info
  have hlB : (Lib.byteCells bs).length = bs.length := Lib.byteCells_length bs
  go_enter Tryd.func33, Tryd.ntmps33
  go_wp2_with fail
  refine (copy_c B b (Lib.byteCells bs) _ h).mono ?_
  rintro e w1 ⟨rfl, h1, hb1, hsz1, hk1⟩
  obtain ⟨hB, v, hbk, hown, hne⟩ := h1
  rw [hlB] at hown
  have c0 : w1.cell? ⟨b, 0, none⟩ = some (.pointer (some ⟨b, 0, none⟩)) := by rw [Lib.cell_of_heap hbk]; rfl
  have c1 : w1.cell? ⟨b, 1, none⟩ = some v := by rw [Lib.cell_of_heap hbk]; rfl
  clear hlB
  have Hsz := Lib.hid hsz1
  clear hsz1
  go_wp2_with (at_builtin; refine Lib.wpList_append_own_string _ rfl _ _ 53 9 rfl B 5 i0 Tryd.underlying53 Tryd.underlying9 hi hz0 hz1 hz2 _ _ _ rfl hown s rfl ?c3 ?c4 ?c5 ?_)
  case c3 => unfold maxLen; omega
  case c4 => omega
  case c5 => have := hb1.size; omega
  intro v' w2 hown' hgrow _
  have hlt : b < w1.heap.size := by
    rcases Nat.lt_or_ge b w1.heap.size with h' | h'
    · exact h'
    · simp [Array.getElem?_eq_none h'] at hbk
  have hb2 : w2.heap[b]? = some (.cells #[.pointer (some ⟨b, 0, none⟩), v] 74 (0, 0)) := by
    rw [hgrow.block b hlt (fun e => hne e.symm)]
    exact hbk
  have d0 : w2.cell? ⟨b, 0, none⟩ = some (.pointer (some ⟨b, 0, none⟩)) := by rw [Lib.cell_of_heap hb2]; rfl
  have d1 : w2.cell? ⟨b, 1, none⟩ = some v := by rw [Lib.cell_of_heap hb2]; rfl
  have f1 : w2.frozen? ⟨b, 1, none⟩ = false := Lib.frozen_of_heap hb2 1
  have hfin : Hid (Bd B b (bs ++ s.data.toList) (w2.setCell ⟨b, 1, none⟩ v') ∧ Below B w (w2.setCell ⟨b, 1, none⟩ v') ∧ KeepT w (w2.setCell ⟨b, 1, none⟩ v')) := Lib.hid (by
    refine ⟨.inr ?_, ?_, ?_⟩
    · have hcs : Lib.byteCells (bs ++ s.data.toList) = Lib.byteCells bs ++ Lib.strCells s := by
        simp [Lib.byteCells, Lib.strCells]
      have hlen' : (Lib.byteCells (bs ++ s.data.toList)).length = bs.length + s.size := by rw [Lib.byteCells_length]; simp
      refine Lib.BuilderAt.put (T := 74) (e := 5) hB hb2 (bs' := Lib.byteCells (bs ++ s.data.toList)) ?_ (by decide)
      rw [hlen', hcs]
      exact hown'
    · exact (hb1.grown hgrow (by have := hb1.size; omega) (fun k hk => (hown.lt k hk).1)).setCell (p := ⟨b, 1, none⟩) hB _
    · refine hk1.trans fun g cs T f hg h1 h2 => ?_
      have hgb : g ≠ b := fun e => by
        subst e
        rw [hg] at hbk
        injection hbk with hbk
        injection hbk with _ hT
        exact h2 hT
      rw [Below.heap_setCell _ _ _ _ hgb, hgrow.block g (heap_lt hg) (fun e => Lib.ownBlock_ne hown hg h1 e.symm)]
      exact hg)
  obtain ⟨ao, n', cap, rfl⟩ : ∃ ao n' cap, v' = .slice ao n' cap := by
    rcases hown'.2 with ⟨hv, _⟩ | ⟨g, cap, cur, hv, _⟩
    · exact ⟨_, _, _, hv⟩
    · exact ⟨_, _, _, hv⟩
  go_wp2
  go_ret2
  exact ⟨rfl, hfin.out⟩
end Go.Proofs.YtiegpkbollihgaaDoor
