/- A wagon stored into a row of the call's own. -/
import Derived.Test.YtiegpkbollihgaaDoorWG
import Derived.Test.YtiegpkbollihgaaDoorRow
import Derived.Laws.OwnMore
namespace Go.Proofs.YtiegpkbollihgaaDoor
open Go.RowKit
def setL (xs : List Value) : Nat → List Value → List Value
  | _, [] => xs
  | o, v :: r => setL (xs.set o v) (o + 1) r
theorem own_setCells {B e size g n cap : Nat} : ∀ (vs : List Value) (o : Nat) (w : World) (xs : List Value), w.ownsRow B e size (.slice (some ⟨g, 0, none⟩) n cap) n xs → (w.setCells g o vs).ownsRow B e size (.slice (some ⟨g, 0, none⟩) n cap) n (setL xs o vs)
  | [], _, _, _, h => h
  | v :: r, o, _, _, h => own_setCells r (o + 1) _ _ (h.stored o v).1
theorem setL_app (a : List Value) : ∀ (vs : List Value) (t : List Value) (o : Nat), setL (a ++ t) (a.length + o) vs = a ++ setL t o vs
  | [], _, _ => rfl
  | v :: r, t, o => by
    unfold setL
    rw [List.set_append_right _ _ (by omega), show a.length + o - a.length = o by omega, show a.length + o + 1 = a.length + (o + 1) by omega, setL_app a r]
theorem setL_flatW : ∀ (l : List WG) (i : Nat) (p : WG), i < l.length → setL (flatW l) (i * 8) (cellsW p) = flatW (l.set i p)
  | [], i, p, h => by simp at h
  | q :: r, 0, p, _ => by
    rw [flatW_cons, List.set_cons_zero, flatW_cons]
    rfl
  | q :: r, i + 1, p, h => by
    rw [flatW_cons, List.set_cons_succ, flatW_cons, show (i + 1) * 8 = (cellsW q).length + i * 8 by simp [cellsW]; omega, setL_app, setL_flatW r i p (by simpa using h)]
end Go.Proofs.YtiegpkbollihgaaDoor
