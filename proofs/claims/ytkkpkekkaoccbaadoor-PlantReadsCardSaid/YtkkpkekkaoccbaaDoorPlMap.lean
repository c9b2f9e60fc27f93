/- The two types of maps of plant's Valid: string to bool, int to int. -/
import Derived.Test.YtkkpkekkaoccbaaDoorMap
import Derived.StringKeys
import Derived.Test.YtkkpkekkaoccbaaDoorPlW3
namespace Go.Proofs.YtkkpkekkaoccbaaDoor
open Go.RowKit Go.Maps Go.WideMaps
theorem str_under : Tryd.prog.underlying 9 = some .string := by kernel_rfl
theorem int_under' : Tryd.prog.underlying 3 = some (.int .i64) := by kernel_rfl
theorem bool_under' : Tryd.prog.underlying 4 = some .bool := by kernel_rfl
theorem msb_under : Tryd.prog.underlying 58 = some (.map 9 4) := by kernel_rfl
theorem mii_under : Tryd.prog.underlying 59 = some (.map 3 3) := by kernel_rfl
theorem zint (w : World) : (zeroValue 3).run Tryd.prog w = .ok (.int .i64 0) w := by kernel_rfl
theorem zbool (w : World) : (zeroValue 4).run Tryd.prog w = .ok (.bool false) w := by kernel_rfl
def keyS : KeyT Tryd.prog 9 ByteArray where
  val := .string
  lit s := .string s.data.toList
  ok s := s.size ≤ maxLen
  keyed := string_keyed str_under
  key s hs := keyOf_string_mk str_under hs
  inj x y hx hy h := by
    have h1 := keyOf_string_mk (P := Tryd.prog) str_under hx
    have h2 := keyOf_string_mk (P := Tryd.prog) str_under hy
    rw [h] at h1
    have := (string_keyed str_under).inj h1 h2
    simpa using this
def keyN : KeyT Tryd.prog 3 Int where
  val := .int .i64
  lit n := .int .i64 n
  ok n := (Lit.int .i64 n).wf = true
  keyed := int_keyed int_under'
  key n hn := keyOf_int_mk int_under' hn
  inj x y _ _ h := by simpa using h
end Go.Proofs.YtkkpkekkaoccbaaDoor
