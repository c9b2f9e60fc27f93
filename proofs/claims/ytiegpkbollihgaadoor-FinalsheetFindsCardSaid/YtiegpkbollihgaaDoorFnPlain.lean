/- Sheets of trains, plainly: wagons, brakes, set-outs; what is wrong with them. -/
import Derived.Test.YtiegpkbollihgaaDoorPlPlain
import Derived.Test.YtiegpkbollihgaaDoorTxNum
namespace Go.Proofs.YtiegpkbollihgaaDoor
/-- A wagon. -/
structure WG where
  nu : ByteArray
  len : Int
  ax : Int
  ms : Int
  br : Int
  gd : Int
  gt : Bool
  de : ByteArray
/-- A set-out. -/
structure SO where
  st : Int
  wg : Int
  gr : Int
/-- A sheet; its brakes are seven numbers. -/
structure FN where
  nm : ByteArray
  ws : List WG
  bk : List Int
  so : List SO
namespace Fn
def digs (l : List UInt8) : Bool := l.all digC
/-- The value of a digit with its weight. -/
def dv (e : Bool) (d : Nat) : Nat := if e = true then (if 9 < 2 * d then 2 * d - 9 else 2 * d) else d
def dAt (l : List UInt8) (i : Nat) : Nat := (l.getD i 0).toNat - 48
/-- The sum of the first digits. -/
def sumTo (l : List UInt8) : Nat → Nat
  | 0 => 0
  | i + 1 => sumTo l i + dv (decide (i % 2 = 0)) (dAt l i)
/-- What is wrong with a number of a wagon. -/
def kErr (s : ByteArray) : Int :=
  if ¬ (s.size = 12 ∧ digs s.data.toList = true) then 11
  else if (sumTo s.data.toList 11 + dAt s.data.toList 11) % 10 ≠ 0 then 9 else 0
def c4 (s : ByteArray) : Nat := (s.data.toList.getD 4 0).toNat
def kindC (c : Nat) : Int := if c = 55 ∨ c = 56 then 1 else if c = 50 ∨ c = 52 then 2 else if c = 57 then 3 else 0
def axK (k : Int) : Int := if k = 2 then 2 else if k = 3 then 6 else 4
def leastK (k : Int) : Int := if k = 3 then 120 else 80
def kindN (s : ByteArray) : Int := kindC (c4 s)
def rangeOk (x : WG) : Bool := decide (leastK (kindN x.nu) ≤ x.len) && decide (x.len ≤ 400) && decide (50 ≤ x.ms) && decide (x.ms ≤ 2000) && decide (0 ≤ x.br) && decide (x.br ≤ x.ms) && decide (0 ≤ x.gd) && decide (x.gd ≤ 9)
/-- What is wrong with a wagon. -/
def wErr (x : WG) : Int :=
  if kErr x.nu ≠ 0 then kErr x.nu
  else if x.ax ≠ axK (kindN x.nu) then 1
  else if rangeOk x = false then 2
  else if Pl.nameOk x.de = false then 7
  else 0
/-- A wagon behind some others. -/
def fitW (prev : List WG) (x : WG) : Int :=
  if wErr x ≠ 0 then wErr x else if (prev.any fun y => decide (y.nu = x.nu)) = true then 8 else 0
def wsGo : List WG → List WG → Int
  | [], _ => 0
  | x :: r, prev => if fitW prev x ≠ 0 then fitW prev x else wsGo r (prev ++ [x])
def wsErr (l : List WG) : Int := if 96 < l.length then 3 else wsGo l []
def inside (n : Int) : Bool := decide (0 ≤ n) && decide (n ≤ 1000000)
def soL (x : SO) : List Int := [x.st, x.wg, x.gr]
def nums (f : FN) : List Int := f.bk ++ f.so.flatMap soL
/-- What is wrong with a sheet. -/
def fErr (f : FN) : Int :=
  if Pl.nameOk f.nm = false then 7
  else if wsErr f.ws ≠ 0 then wsErr f.ws
  else if 16 < f.so.length then 3
  else if (nums f).all inside = false then 2
  else 0
/-- The check number of the first bytes of a text. -/
def chkTo (l : List UInt8) : Nat → Nat
  | 0 => 0
  | i + 1 => (chkTo l i + (i + 1) % 65521 * (l.getD i 0).toNat) % 65521
def chk (l : List UInt8) : Nat := chkTo l l.length
theorem chkTo_lt (l : List UInt8) (i : Nat) : chkTo l i < 65521 := by
  cases i with
  | zero => exact Nat.zero_lt_succ _
  | succ i => exact Nat.mod_lt _ (by decide)
theorem chkTo_take (l : List UInt8) : ∀ (m i : Nat), i ≤ m → chkTo (l.take m) i = chkTo l i := by
  intro m i
  induction i with
  | zero => intro _; rfl
  | succ i ih =>
    intro h
    rw [chkTo, chkTo, ih (by omega)]
    congr 3
    rw [List.getD_eq_getElem?_getD, List.getD_eq_getElem?_getD, List.getElem?_take, if_pos (by omega)]
theorem sumTo_take (l : List UInt8) : ∀ (m i : Nat), i ≤ m → sumTo (l.take m) i = sumTo l i := by
  intro m i
  induction i with
  | zero => intro _; rfl
  | succ i ih =>
    intro h
    rw [sumTo, sumTo, ih (by omega)]
    congr 2
    unfold dAt
    rw [List.getD_eq_getElem?_getD, List.getD_eq_getElem?_getD, List.getElem?_take, if_pos (by omega)]
/- ### The text. -/
def wTrain : List UInt8 := [116, 114, 97, 105, 110]
def wWagon : List UInt8 := [119, 97, 103, 111, 110]
def wBrakes : List UInt8 := [98, 114, 97, 107, 101, 115]
def wSetout : List UInt8 := [115, 101, 116, 111, 117, 116]
def wEnd : List UInt8 := [101, 110, 100]
def wFirm : List UInt8 := [102, 105, 114, 109]
def wGentle : List UInt8 := [103, 101, 110, 116, 108, 101]
def gtW (b : Bool) : List UInt8 := if b = true then wGentle else wFirm
/-- Words with a blank between. -/
def joinC (c : UInt8) : List (List UInt8) → List UInt8
  | [] => []
  | [p] => p
  | p :: q :: r => p ++ c :: joinC c (q :: r)
def join (w : List (List UInt8)) : List UInt8 := joinC 32 w
def wagL (x : WG) : List Int := [x.len, x.ax, x.ms, x.br, x.gd]
def trainW (f : FN) : List (List UInt8) := [wTrain, f.nm.data.toList]
def wagonW (x : WG) : List (List UInt8) := [wWagon, x.nu.data.toList] ++ (wagL x).map Lib.itoa ++ [gtW x.gt, x.de.data.toList]
def brakesW (f : FN) : List (List UInt8) := wBrakes :: f.bk.map Lib.itoa
def setoutW (x : SO) : List (List UInt8) := wSetout :: (soL x).map Lib.itoa
def endW (n : Nat) : List (List UInt8) := [wEnd, Lib.itoa (n : Int)]
/-- The lines ahead of the last one. -/
def bodyW (f : FN) : List (List (List UInt8)) := [trainW f] ++ f.ws.map wagonW ++ [brakesW f] ++ f.so.map setoutW
def ended (L : List (List (List UInt8))) : List UInt8 := L.flatMap fun w => join w ++ [10]
def body (f : FN) : List UInt8 := ended (bodyW f)
def fmtL (f : FN) : List UInt8 := body f ++ (join (endW (chk (body f))) ++ [10])
def fmt (f : FN) : List UInt8 × Int := if fErr f = 0 then (fmtL f, 0) else ([], fErr f)
/- ### What a text means. -/
/-- The bytes of a word. -/
def plainC (b : UInt8) : Bool := decide (33 ≤ b.toNat) && decide (b.toNat ≤ 126)
def plainW (s : List UInt8) : Bool := s.all plainC && !s.isEmpty
def wd (w : List (List UInt8)) (i : Nat) : List UInt8 := w.getD i []
def nOk (s : List UInt8) : Bool := decide (1 ≤ s.length) && decide (s.length ≤ 7) && !(decide (s.headD 0 = 48) && decide (1 < s.length)) && s.all digC
def nVal (s : List UInt8) : Int := (numV s : Int)
def ints (w : List (List UInt8)) : Option (List Int) := if w.all nOk = true then some (w.map nVal) else none
def iAt (l : List Int) (i : Nat) : Int := l.getD i 0
/-- The wagon that words mean. -/
def wagonB (w : List (List UInt8)) : Option WG :=
  if w.length ≠ 9 ∨ plainW (wd w 1) = false ∨ plainW (wd w 8) = false ∨ (wd w 7 ≠ wGentle ∧ wd w 7 ≠ wFirm) then none
  else match ints ((w.drop 2).take 5) with
    | none => none
    | some l => some ⟨baOf (wd w 1), iAt l 0, iAt l 1, iAt l 2, iAt l 3, iAt l 4, decide (wd w 7 = wGentle), baOf (wd w 8)⟩
/-- A reader: what comes next, the sheet so far, the check number. -/
structure RS where
  part : Nat
  f : FN
  ck : Int
def fnZ : FN := ⟨⟨#[]⟩, [], [0, 0, 0, 0, 0, 0, 0], []⟩
def rs0 : RS := ⟨0, fnZ, 0⟩
/-- A line is taken. -/
def take (r : RS) (w : List (List UInt8)) : Option RS :=
  if r.part = 0 ∧ wd w 0 = wTrain ∧ w.length = 2 ∧ plainW (wd w 1) = true then some { r with part := 1, f := { r.f with nm := baOf (wd w 1) } }
  else if r.part = 1 ∧ wd w 0 = wWagon then
    match wagonB w with
    | none => none
    | some x => some { r with f := { r.f with ws := r.f.ws ++ [x] } }
  else if r.part = 1 ∧ wd w 0 = wBrakes ∧ w.length = 8 then
    match ints (w.drop 1) with
    | none => none
    | some l => some { r with part := 2, f := { r.f with bk := l } }
  else if r.part = 2 ∧ wd w 0 = wSetout ∧ w.length = 4 then
    match ints (w.drop 1) with
    | none => none
    | some l => some { r with f := { r.f with so := r.f.so ++ [⟨iAt l 0, iAt l 1, iAt l 2⟩] } }
  else if r.part = 2 ∧ wd w 0 = wEnd ∧ w.length = 2 then
    match ints (w.drop 1) with
    | none => none
    | some l => some { r with part := 3, ck := iAt l 0 }
  else none
/-- Behind the last line: the lines, the bytes ahead of the last one. -/
def fin (s : List UInt8) (k en : Nat) (r : RS) : FN × Int × Int :=
  if (chkTo s en : Int) ≠ r.ck then (fnZ, (k : Int), 9)
  else if fErr r.f ≠ 0 then (fnZ, 0, fErr r.f)
  else (r.f, 0, 0)
/-- The lines of a text, one after the other: how many were taken, where the next one begins, where the last one began. -/
def pGo (s : List UInt8) : List (List UInt8) → Nat → Nat → Nat → RS → FN × Int × Int
  | [], k, _, _, _ => (fnZ, (k : Int) + 1, 6)
  | [p], k, _, en, r => if p = [] ∧ r.part = 3 then fin s k en r else (fnZ, (k : Int) + 1, 6)
  | p :: q :: t, k, at_, _, r => match take r (Tx.cutAt 32 p) with
    | none => (fnZ, (k : Int) + 1, 6)
    | some r' => pGo s (q :: t) (k + 1) (at_ + p.length + 1) at_ r'
def parse (s : ByteArray) : FN × Int × Int :=
  if 16384 < s.size then (fnZ, 0, 3) else pGo s.data.toList (Tx.cutAt 10 s.data.toList) 0 0 0 rs0
end Fn
end Go.Proofs.YtiegpkbollihgaaDoor
