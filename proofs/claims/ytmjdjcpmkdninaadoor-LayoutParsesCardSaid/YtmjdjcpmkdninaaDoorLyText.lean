/- The text of a layout, and what a text means, plainly. -/
import Derived.Test.YtmjdjcpmkdninaaDoorLyCount
import Derived.Test.YtmjdjcpmkdninaaDoorTxNum
namespace Go.Proofs.YtmjdjcpmkdninaaDoor
namespace Ly
def crest : List UInt8 := [99, 114, 101, 115, 116]
def segment : List UInt8 := [115, 101, 103, 109, 101, 110, 116]
def retarder : List UInt8 := [114, 101, 116, 97, 114, 100, 101, 114]
def switch : List UInt8 := [115, 119, 105, 116, 99, 104]
def track : List UInt8 := [116, 114, 97, 99, 107]
def left : List UInt8 := [58, 108, 101, 102, 116]
def right : List UInt8 := [58, 114, 105, 103, 104, 116]
def kindW (k : Int) : List UInt8 := if k = 0 then crest else if k = 1 then segment else if k = 2 then retarder else if k = 3 then switch else track
def sufW (sd : Int) : List UInt8 := if sd = 1 then left else if sd = 2 then right else []
def nmAt (l : List LE) (p : Int) : List UInt8 := match l[p.toNat]? with | some y => y.nm.data.toList | none => []
def sp (n : Int) : List UInt8 := 32 :: Lib.itoa n
def nums (x : LE) : List Int := [x.len, x.g, x.c] ++ (if x.k = 2 then [x.pw] else [])
def bodyF (l : List LE) (x : LE) : List UInt8 := kindW x.k ++ 32 :: (x.nm.data.toList ++ (if x.k = 0 then [] else 32 :: (nmAt l x.p ++ (sufW x.sd ++ (nums x).flatMap sp))))
def fmtL (l : List LE) : List UInt8 := l.flatMap fun x => bodyF l x ++ [10]
def fmt (l : List LE) : List UInt8 × Int := if vErr l = 0 then (fmtL l, 0) else ([], vErr l)
def kindOf (s : List UInt8) : Option Int := if s = crest then some 0 else if s = segment then some 1 else if s = retarder then some 2 else if s = switch then some 3 else if s = track then some 4 else none
/-- A word that names a place: the name, the side. -/
def sufOf (s : List UInt8) : List UInt8 × Int :=
  if 5 < s.length ∧ s.drop (s.length - 5) = left then (s.take (s.length - 5), 1) else if 6 < s.length ∧ s.drop (s.length - 6) = right then (s.take (s.length - 6), 2) else (s, 0)
def idxGo (s : List UInt8) : List LE → Nat → Option Nat
  | [], _ => none
  | y :: r, i => if y.nm.data.toList = s then some i else idxGo s r (i + 1)
def wantW (k : Int) : Nat := if k = 0 then 2 else if k = 2 then 7 else 6
def wd (w : List (List UInt8)) (i : Nat) : List UInt8 := w.getD i []
def nv (w : List (List UInt8)) (i : Nat) : Int := ((Tx.numZ (wd w i)).getD none).getD 0
/-- The element that words mean behind some others, or the error. -/
def elemB (prev : List LE) (w : List (List UInt8)) : Int ⊕ LE :=
  match kindOf (wd w 0) with
  | none => .inl 6
  | some k =>
    if w.length ≠ wantW k then .inl 6
    else if (w.drop 3).any (fun s => (Tx.numZ s).isNone) = true then .inl 6
    else if (w.drop 3).any (fun s => (Tx.numZ s) == some none) = true then .inl 2
    else if Pl.nameOk (baOf (wd w 1)) = false then .inl 7
    else if k = 0 then .inr ⟨0, baOf (wd w 1), -1, 0, 0, 0, 0, 0⟩
    else match idxGo (sufOf (wd w 2)).1 prev 0 with
      | none => .inl 7
      | some i => .inr ⟨k, baOf (wd w 1), (i : Int), (sufOf (wd w 2)).2, nv w 3, nv w 4, nv w 5, if k = 2 then nv w 6 else 0⟩
def skip (w : List (List UInt8)) : Bool := w.isEmpty || decide ((wd w 0).headD 0 = 35)
/-- The elements of lines, or the first line that is none and its error. -/
def parseGo : List (List UInt8) → Nat → List LE → (Nat × Int) ⊕ List LE
  | [], _, l => .inr l
  | s :: r, i, l => if skip (Tx.words s) = true then parseGo r (i + 1) l else match elemB l (Tx.words s) with
    | .inl e => .inl (i + 1, e)
    | .inr x => parseGo r (i + 1) (l ++ [x])
def fin (l : List LE) : List LE × Int × Int := if vErr l = 0 then (l, 0, 0) else ([], 0, vErr l)
def parse (s : ByteArray) : List LE × Int × Int :=
  if 16384 < s.size then ([], 0, 3)
  else match parseGo (Tx.cutAt 10 s.data.toList) 0 [] with
    | .inl (n, e) => ([], (n : Int), e)
    | .inr l => fin l
theorem parseGo_app : ∀ (p q : List (List UInt8)) (i : Nat) (l m : List LE), parseGo p i l = .inr m → parseGo (p ++ q) i l = parseGo q (i + p.length) m := by
  intro p
  induction p with
  | nil =>
    intro q i l m h
    simp only [parseGo, Sum.inr.injEq] at h
    rw [h]; rfl
  | cons s r ih =>
    intro q i l m h
    rw [List.cons_append, parseGo]
    rw [parseGo] at h
    split
    · rename_i hs
      rw [if_pos hs] at h
      rw [ih q (i + 1) l m h]
      congr 1
      simp; omega
    · rename_i hs
      rw [if_neg hs] at h
      revert h
      cases elemB l (Tx.words s) with
      | inl e => intro h; cases h
      | inr x =>
        intro h
        have h' : parseGo r (i + 1) (l ++ [x]) = .inr m := h
        show parseGo (r ++ q) (i + 1) (l ++ [x]) = _
        rw [ih q (i + 1) _ m h']
        congr 1
        simp; omega
end Ly
end Go.Proofs.YtmjdjcpmkdninaaDoor
