/- The types of maps of a layout's Valid and Parse: string to bool, place to bool, string to int. -/
import Derived.Test.YtmjdjcpmkdninaaDoorMapO
import Derived.StringKeys
import Derived.DeepKeys4
namespace Go.Proofs.YtmjdjcpmkdninaaDoor
open Go.RowKit Go.Maps Go.WideMaps
theorem str_under : Tryd.prog.underlying 9 = some .string := by kernel_rfl
theorem int_under' : Tryd.prog.underlying 3 = some (.int .i64) := by kernel_rfl
theorem bool_under' : Tryd.prog.underlying 4 = some .bool := by kernel_rfl
theorem msb_under : Tryd.prog.underlying 62 = some (.map 9 4) := by kernel_rfl
theorem msi_under : Tryd.prog.underlying 67 = some (.map 9 3) := by kernel_rfl
theorem mpb_under : Tryd.prog.underlying 63 = some (.map 66 4) := by kernel_rfl
theorem zint (w : World) : (zeroValue 3).run Tryd.prog w = .ok (.int .i64 0) w := by kernel_rfl
theorem zbool (w : World) : (zeroValue 4).run Tryd.prog w = .ok (.bool false) w := by kernel_rfl
def keyS : KeyT Tryd.prog 9 ByteArray where
  val := .string
  lit s := .string s.data.toList
  ok s := s.size ≤ maxLen
  keyed := string_keyed str_under
  key s hs := keyOf_string_mk str_under hs
  inj x y hx hy h := by
    have h1 := keyOf_string_mk (P := Tryd.prog) str_under hx
    have h2 := keyOf_string_mk (P := Tryd.prog) str_under hy
    rw [h] at h1
    have := (string_keyed str_under).inj h1 h2
    simpa using this
theorem placeLaid : laidOutB Tryd.prog = true := by kernel_rfl
theorem placeRow : (66 : TypeId) < Tryd.prog.types.size := of_decide_eq_true (by kernel_rfl)
theorem placeWide : (match Tryd.prog.underlying 66 with | some (.array _ _) | some (.struct _) => true | _ => false) = true := by kernel_rfl
set_option maxRecDepth 100000 in
theorem place_keyed : Keyed Tryd.prog 66 := Keyed.of_law (deep_law_laid placeLaid (m := 2) (by omega) placeRow (by kernel_rfl) placeWide)
theorem place_under : Tryd.prog.underlying 66 = some (.struct #[⟨"parent", 3, 0, false, "", "humpyard/layout", 0⟩, ⟨"side", 3, 1, false, "", "humpyard/layout", 8⟩]) := by kernel_rfl
theorem place_cells : Tryd.prog.cellsOf 66 = 2 := by kernel_rfl
theorem int_cells : Tryd.prog.cellsOf 3 = 1 := by kernel_rfl
theorem place_key : Tryd.prog.keyType 66 = true := by kernel_rfl
theorem prog_types : ∃ m, Tryd.prog.types.size = m + 1 := ⟨Tryd.prog.types.size - 1, by have : 0 < Tryd.prog.types.size := Nat.lt_of_le_of_lt (Nat.zero_le _) placeRow; omega⟩
def plV (s d : Int) : Value := .agg #[.int .i64 s, .int .i64 d]
def plK (s d : Int) : Lit := .string (keyBytes [.int .i64 s, .int .i64 d])
theorem keyOf_place {s d : Int} (hs : (Lit.int .i64 s).wf = true) (hd : (Lit.int .i64 d).wf = true) : keyOf Tryd.prog 66 (plV s d) = some (plK s d) := by
  obtain ⟨m, hm⟩ := prog_types
  unfold keyOf plV plK
  simp only [place_under]
  rw [if_pos (by rw [place_key]; simp [Value.formed, place_cells]), hm]
  unfold Program.keyLits
  simp only [place_under, Value.cells]
  rw [if_pos ⟨by rw [place_cells]; rfl, by simp⟩]
  simp [Program.keyLits, int_cells, hs, hd]
theorem plK_inj {s d s' d' : Int} (hs : (Lit.int .i64 s).wf = true) (hd : (Lit.int .i64 d).wf = true) (hs' : (Lit.int .i64 s').wf = true) (hd' : (Lit.int .i64 d').wf = true) (h : plK s d = plK s' d') : s = s' ∧ d = d' := by
  have h1 := keyOf_place hs hd
  rw [h] at h1
  have := place_keyed.inj h1 (keyOf_place hs' hd')
  simpa [plV] using this
def keyP : KeyT Tryd.prog 66 (Int × Int) where
  val q := plV q.1 q.2
  lit q := plK q.1 q.2
  ok q := (Lit.int .i64 q.1).wf = true ∧ (Lit.int .i64 q.2).wf = true
  keyed := place_keyed
  key q hq := keyOf_place hq.1 hq.2
  inj x y hx hy h := by
    obtain ⟨a, b⟩ := plK_inj hx.1 hx.2 hy.1 hy.2 h
    exact Prod.ext a b
end Go.Proofs.YtmjdjcpmkdninaaDoor
