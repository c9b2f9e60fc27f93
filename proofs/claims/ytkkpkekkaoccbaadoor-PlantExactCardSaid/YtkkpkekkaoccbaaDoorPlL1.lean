/- Lines of a plant's text, plainly; the walk of plant's word. -/
import Derived.Test.YtkkpkekkaoccbaaDoorPlT2
namespace Go.Proofs.YtkkpkekkaoccbaaDoor
open Go.RowKit
theorem bytesOfL_inj : ∀ {L M : List ByteArray}, bytesOfL L = bytesOfL M → L = M := by
  intro L
  induction L with
  | nil => intro M h; cases M with
    | nil => rfl
    | cons a r => simp [bytesOfL] at h
  | cons a r ih =>
    intro M h
    cases M with
    | nil => simp [bytesOfL] at h
    | cons b t =>
      simp only [bytesOfL, List.map_cons, List.cons.injEq] at h
      have h1 : a = b := by
        cases a; cases b
        congr 1
        exact Array.toList_inj.1 h.1
      rw [h1, ih (M := t) h.2]
def baOf (l : List UInt8) : ByteArray := ⟨l.toArray⟩
theorem baOf_data (l : List UInt8) : (baOf l).data.toList = l := rfl
theorem bytesOfL_ba (L : List (List UInt8)) : bytesOfL (L.map baOf) = L := by
  unfold bytesOfL
  rw [List.map_map]
  exact List.map_id'' (fun l => rfl) L
namespace Pl
def wordsB (s : ByteArray) : List ByteArray := (Tx.cutAt 32 s.data.toList).map baOf
def linesB (s : ByteArray) : List ByteArray := (linesP s.data.toList).map baOf
def track : List UInt8 := [116, 114, 97, 99, 107]
def switch : List UInt8 := [115, 119, 105, 116, 99, 104]
def derailer : List UInt8 := [100, 101, 114, 97, 105, 108, 101, 114]
def kindOf (l : List UInt8) : Int := if l = track then 1 else if l = switch then 2 else if l = derailer then 3 else 0
def wantOf (k : Int) : Nat := if k = 3 then 4 else 5
def numOkB (w : ByteArray) : Bool := (numR w).2 && decide ((numR w).1 ≤ 1000000)
def wd (L : List ByteArray) (i : Nat) : ByteArray := L.getD i ⟨#[]⟩
def nv (L : List ByteArray) (i : Nat) : Int := ((numR (wd L i)).1 : Int)
/-- The element that the words of a line are. -/
def lineB (L : List ByteArray) : Option PE :=
  if kindOf (wd L 0).data.toList = 0 ∨ L.length ≠ wantOf (kindOf (wd L 0).data.toList) ∨ (wd L 1).size = 0 then none
  else if (L.drop 2).all numOkB = true then some ⟨kindOf (wd L 0).data.toList, wd L 1, nv L 2, nv L 3, (if kindOf (wd L 0).data.toList = 1 then 0 else nv L 4), (if kindOf (wd L 0).data.toList = 1 then nv L 4 else 0)⟩
  else none
/-- The elements of the lines, or the number of the first line that is none. -/
def parseGo : List ByteArray → Nat → Nat ⊕ List PE
  | [], _ => .inr []
  | s :: r, i => match lineB (wordsB s) with
    | none => .inl (i + 1)
    | some x => match parseGo r (i + 1) with
      | .inl n => .inl n
      | .inr l => .inr (x :: l)
/-- The plant of a text, the line, the error. -/
def parse (s : ByteArray) : List PE × Int × Int :=
  if 16384 < s.size then ([], 0, 3)
  else match parseGo (linesB s) 0 with
    | .inl n => ([], (n : Int), 6)
    | .inr l => if vErr l = 0 then (l, 0, 0) else ([], 0, vErr l)
end Pl
theorem wordsB_of {s : ByteArray} {L : List ByteArray} (h : Tx.cutAt 32 s.data.toList = bytesOfL L) : L = Pl.wordsB s := by
  refine bytesOfL_inj ?_
  rw [← h, Pl.wordsB, bytesOfL_ba]
theorem linesB_of {s : ByteArray} {L : List ByteArray} (h : linesP s.data.toList = bytesOfL L) : L = Pl.linesB s := by
  refine bytesOfL_inj ?_
  rw [← h, Pl.linesB, bytesOfL_ba]
def WordK (k : Int) : ByteArray × Int := if k = 1 then (baOf Pl.track, 3) else if k = 2 then (baOf Pl.switch, 3) else if k = 3 then (baOf Pl.derailer, 2) else (⟨#[]⟩, 0)
set_option maxHeartbeats 1000000 in
theorem word_c (k : Int) (w : World) :
    Calls Tryd.prog 38 #[.int .i64 k] w fun e w' => e = .returned (.tuple #[.string (WordK k).1, .int .i64 (WordK k).2]) ∧ w = w' := by
  have hk : k = 1 ∨ k = 2 ∨ k = 3 ∨ (k ≠ 1 ∧ k ≠ 2 ∧ k ≠ 3) := by omega
  have key : ∀ r : ByteArray × Int, WordK k = r → Calls Tryd.prog 38 #[.int .i64 k] w (fun e w' => e = .returned (.tuple #[.string r.1, .int .i64 r.2]) ∧ w = w') → Calls Tryd.prog 38 #[.int .i64 k] w fun e w' => e = .returned (.tuple #[.string (WordK k).1, .int .i64 (WordK k).2]) ∧ w = w' := by
    intro r h hc
    rw [h]; exact hc
  rcases hk with hk | hk | hk | hk
  · refine key (⟨#[116, 114, 97, 99, 107]⟩, 3) (by rw [WordK, if_pos hk]; rfl) ?_
    have e1 : (k == 1) = true := by simp [hk]
    clear hk key
    go_enter Tryd.func38, Tryd.ntmps38
    go_wp2_with fail
    go_ret2
    exact ⟨rfl, rfl⟩
  · refine key (⟨#[115, 119, 105, 116, 99, 104]⟩, 3) (by rw [WordK, if_neg (by omega), if_pos hk]; rfl) ?_
    have e1 : (k == 1) = false := by simp [hk]
    have e2 : (k == 2) = true := by simp [hk]
    clear hk key
    go_enter Tryd.func38, Tryd.ntmps38
    go_wp2_with fail
    go_ret2
    exact ⟨rfl, rfl⟩
  · refine key (⟨#[100, 101, 114, 97, 105, 108, 101, 114]⟩, 2) (by rw [WordK, if_neg (by omega), if_neg (by omega), if_pos hk]; rfl) ?_
    have e1 : (k == 1) = false := by simp [hk]
    have e2 : (k == 2) = false := by simp [hk]
    have e3 : (k == 3) = true := by simp [hk]
    clear hk key
    go_enter Tryd.func38, Tryd.ntmps38
    go_wp2_with fail
    go_ret2
    exact ⟨rfl, rfl⟩
  · refine key (⟨#[]⟩, 0) (by rw [WordK, if_neg hk.1, if_neg hk.2.1, if_neg hk.2.2]) ?_
    have e1 : (k == 1) = false := by simp [hk]
    have e2 : (k == 2) = false := by simp [hk]
    have e3 : (k == 3) = false := by simp [hk]
    clear hk key
    go_enter Tryd.func38, Tryd.ntmps38
    go_wp2_with fail
    go_ret2
    exact ⟨rfl, rfl⟩
end Go.Proofs.YtkkpkekkaoccbaaDoor
