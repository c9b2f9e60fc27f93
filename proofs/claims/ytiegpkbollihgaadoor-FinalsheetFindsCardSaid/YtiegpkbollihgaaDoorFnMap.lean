/- The type of the map of consist's check: string to bool. -/
import Derived.Test.YtiegpkbollihgaaDoorMap
import Derived.StringKeys
namespace Go.Proofs.YtiegpkbollihgaaDoor
open Go.RowKit Go.Maps Go.WideMaps
theorem str_under : Tryd.prog.underlying 9 = some .string := by kernel_rfl
theorem bool_under' : Tryd.prog.underlying 4 = some .bool := by kernel_rfl
theorem msb_under : Tryd.prog.underlying 107 = some (.map 9 4) := by kernel_rfl
theorem zbool (w : World) : (zeroValue 4).run Tryd.prog w = .ok (.bool false) w := by kernel_rfl
def keyS : KeyT Tryd.prog 9 ByteArray where
  val := .string
  lit s := .string s.data.toList
  ok s := s.size ≤ maxLen
  keyed := string_keyed str_under
  key s hs := keyOf_string_mk str_under hs
  inj x y hx hy h := by
    have h1 := keyOf_string_mk (P := Tryd.prog) str_under hx
    have h2 := keyOf_string_mk (P := Tryd.prog) str_under hy
    rw [h] at h1
    have := (string_keyed str_under).inj h1 h2
    simpa using this
end Go.Proofs.YtiegpkbollihgaaDoor
