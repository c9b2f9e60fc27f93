/- Library calls that the texts of layouts use: strings.Split at one byte, strconv.Itoa; rows apart by their types. -/
import Derived.Test.YtiegpkbollihgaaDoorTxNum
import Derived.Test.YtiegpkbollihgaaDoorDec
import Derived.Test.YtiegpkbollihgaaDoorBuilder
import Derived.Test.YtiegpkbollihgaaDoorShelf
import Derived.Deep.DeepCutAuto
namespace Go.Proofs.YtiegpkbollihgaaDoor
open Go.RowKit
theorem sl_str : SlT Tryd.prog 36 9 1 16 := slT_of (z := .string ⟨#[]⟩) Tryd.underlying36 (by kernel_rfl) rfl (by omega)
def bytesOfL (L : List ByteArray) : List (List UInt8) := L.map (·.data.toList)
theorem bytesOfL_inj : ∀ {L M : List ByteArray}, bytesOfL L = bytesOfL M → L = M := by
  intro L
  induction L with
  | nil => intro M h; cases M with
    | nil => rfl
    | cons a r => simp [bytesOfL] at h
  | cons a r ih =>
    intro M h
    cases M with
    | nil => simp [bytesOfL] at h
    | cons b t =>
      simp only [bytesOfL, List.map_cons, List.cons.injEq] at h
      have h1 : a = b := by
        cases a; cases b
        congr 1
        exact Array.toList_inj.1 h.1
      rw [h1, ih (M := t) h.2]
theorem bytesOfL_ba (L : List (List UInt8)) : bytesOfL (L.map baOf) = L := by
  unfold bytesOfL
  rw [List.map_map]
  exact List.map_id'' (fun l => rfl) L
def SplitR (c : UInt8) (s : ByteArray) (w : World) (e : Ending) (w' : World) : Prop := ∃ (L : List ByteArray) (n : Nat), L = (Tx.cutAt c s.data.toList).map baOf ∧ L.length = n ∧ 1 ≤ n ∧ n ≤ s.size + 1 ∧ e = .returned (.slice (some ⟨w.heap.size, 0, none⟩) n n) ∧ w' = w.alloc (.cells (L.map Value.string).toArray 9)
theorem split_c (c : UInt8) (s : ByteArray) (m : Int) (w : World) (hs : s.size ≤ 1000000) (hm : w.cell? ⟨0, 0, none⟩ = some (.int .i64 m)) :
    Calls Tryd.prog 46 #[.string s, .string ⟨#[c]⟩] w (SplitR c s w) := by
  refine (Tryd.strings_Split s ⟨#[c]⟩ m w (by omega) hm (by show 1 ≤ 1; omega)).mono ?_
  rintro e w' ⟨he, hw⟩
  have hL : Lib.splitB ⟨#[c]⟩ 0 (Lib.countB s ⟨#[c]⟩) s = (Tx.cutAt c s.data.toList).map baOf := by
    refine bytesOfL_inj ?_
    rw [bytesOfL_ba]
    exact Tx.split_bytes c s
  have hc : Lib.countB s ⟨#[c]⟩ = Lib.count s.data.toList [c] := rfl
  have hl := Tx.cut_len c s.data.toList
  have hcn : Lib.count s.data.toList [c] ≤ s.size := by
    rw [Lib.count_one]
    have := List.count_le_length (a := c) (l := s.data.toList)
    simpa using this
  exact ⟨_, _, rfl, by rw [List.length_map, hl], by omega, by omega, by rw [he, hc], by rw [hw, hL]⟩
/-- The library's table of powers of ten. -/
def Tab10 (w : World) : Prop := Lib.TabIs Tryd.prog w "internal/strconv.uint64pow10" .u64 Lib.pow10Tab
theorem Tab10.below {w w' : World} (h : Tab10 w) (hb : Below w.heap.size w w') : Tab10 w' := by
  unfold Tab10 Lib.TabIs World.var? at h ⊢
  cases hg : Tryd.prog.globalNamed "internal/strconv.uint64pow10" with
  | none => rw [hg] at h; cases h
  | some g =>
    rw [hg] at h
    simp only [Option.bind_some] at h ⊢
    have hlt : g < w.heap.size := by
      rcases Nat.lt_or_ge g w.heap.size with h' | h'
      · exact h'
      · rw [Array.getElem?_eq_none h'] at h; cases h
    rw [hb.block g hlt]
    exact h
theorem below_grow (w : World) (k : Nat) (os : Array Obj) : Below w.heap.size w (Sort.grow (w.drewN k) os) := by
  refine ⟨rfl, rfl, rfl, ?_, fun i hi => ?_⟩
  · show w.heap.size ≤ (w.heap ++ os).size
    simp
  · show (w.heap ++ os)[i]? = w.heap[i]?
    rw [Array.getElem?_append_left hi]
theorem itoa_c (n : Int) (h0 : -9223372036854775808 ≤ n) (h1 : n ≤ 9223372036854775807) (w : World) (ht : Tab10 w) :
    Calls Tryd.prog 57 #[.int .i64 n] w fun e w' => e = .returned (.string (bOf (Lib.itoa n))) ∧ Below w.heap.size w w' :=
  (Tryd.strconv_Itoa n h0 h1 w ht).mono fun e w' ⟨he, k, os, hw⟩ => ⟨he, by rw [hw]; exact below_grow w k os⟩
theorem own_ne_type {w : World} {B B' e e' size size' n n' : Nat} {u v : Value} {xs ys : List Value} (h : w.ownsRow B e size u n xs) (k : w.ownsRow B' e' size' v n' ys) (hne : e ≠ e') : apart u v := by
  rcases h.2 with ⟨rfl, _⟩ | ⟨g, cap, cur, rfl, _, hh, _⟩
  · exact .inl rfl
  · rcases k.2 with ⟨rfl, _⟩ | ⟨g', cap', cur', rfl, _, hh', _⟩
    · exact .inr (by simp [Value.ownBlock])
    · refine .inr fun e1 => ?_
      simp only [Value.ownBlock, Option.some.injEq] at e1
      subst e1
      rw [hh] at hh'
      injection hh' with hh'
      injection hh' with _ ht
      exact hne ht
theorem Bd.grew {B b B' e size n : Nat} {bs : List UInt8} {w w' : World} {v v' : Value} {xs : List Value} (h : Bd B b bs w) (ho : w.ownsRow B' e size v n xs) (hg : Grew w v v' w') (h1 : e ≠ 5) (h2 : e ≠ 74) : Bd B b bs w' := by
  have key : ∀ p, Lib.BuilderAt 74 5 B b p (Lib.byteCells bs) w → Lib.BuilderAt 74 5 B b p (Lib.byteCells bs) w' := by
    rintro p ⟨k1, u, k2, k3, k4⟩
    refine ⟨k1, u, ?_, hg.keep k3 (own_ne_type k3 ho (fun e => h1 e.symm)), k4⟩
    rw [hg.grown.block b (heap_lt k2) (fun e1 => ?_)]
    · exact k2
    · exact own_blk_ne ho k2 h2 e1.symm
  rcases h with h | h
  · exact .inl (key _ h)
  · exact .inr (key _ h)
end Go.Proofs.YtiegpkbollihgaaDoor
