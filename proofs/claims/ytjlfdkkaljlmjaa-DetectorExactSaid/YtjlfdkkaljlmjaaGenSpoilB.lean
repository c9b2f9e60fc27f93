/- humpgen's SpoilBytes: some bytes, at most one more, in a new block. -/
import Derived.Test.YtjlfdkkaljlmjaaGenSpoil
import Derived.Lib.ConvBytes
namespace Go.Proofs.Ytjlfdkkaljlmjaa
open Go.RowKit
theorem bytesWorld_grown (w : World) (e : TypeId) (s : ByteArray) (row : Option Nat) : w.grownBy (Lib.bytesWorld w e s) row :=
  ⟨by simp [Lib.bytesWorld, World.freeze, World.alloc, World.drew, -World.alloc_eq, -World.drew_eq], by simp [Lib.bytesWorld, World.freeze, World.alloc, World.drew, -World.alloc_eq, -World.drew_eq], by simp [Lib.bytesWorld, World.freeze, World.alloc, World.drew, -World.alloc_eq, -World.drew_eq],
    by rw [Lib.bytesWorld_size]; omega, fun i hi _ => Lib.bytesWorld_at_old w e s i hi⟩
def numsOf (s : ByteArray) : List Int := s.data.toList.map fun b => (b.toNat : Int)
theorem numsOf_range (s : ByteArray) : ∀ x ∈ numsOf s, 0 ≤ x ∧ x < 256 := by
  intro x hx
  obtain ⟨b, _, rfl⟩ := List.mem_map.1 hx
  have := b.toNat_lt
  omega
theorem numsOf_len (s : ByteArray) : (numsOf s).length = s.size := by simp [numsOf]
theorem bytesWorld_IR (w : World) (e : TypeId) (s : ByteArray) : IR .u8 (Lib.bytesWorld w e s) (some ⟨w.heap.size, 0, none⟩) s.size (numsOf s) := by
  refine ⟨by simp [numsOf], fun hn => ⟨_, rfl, by rw [Lib.bytesWorld_size]; simp, fun j u hu => ?_⟩⟩
  have h2 : ((⟨w.heap.size, 0, none⟩ : Addr).add j) = ⟨w.heap.size, j, none⟩ := by
    unfold Addr.add
    by_cases hj : j = 0 <;> simp [hj]
  have hj : j < s.size := by
    have := (List.getElem?_eq_some_iff.1 hu).1
    simpa [numsOf] using this
  rw [h2, Lib.bytesWorld_cell w e s j hj, ← hu, numsOf, List.getElem?_map, List.getElem?_map, List.getD_eq_getElem?_getD, List.getElem?_eq_getElem (by simpa using hj)]
  rfl
set_option maxHeartbeats 1000000 in
theorem spoilb_c (B B' g c n : Nat) (v : Value) (l : List Int) (w : World) (h : Mk B w g c) (hc : c ≤ 2305843009213693952) (ho : w.ownsRow B' 5 1 v n (l.map (Value.int .u8))) (hn : n ≤ 900000) :
    Calls Try.prog 39 #[.pointer (some ⟨g, 0, none⟩), v] w fun e w' => ∃ (A : Option Addr) (n' cp : Nat) (l' : List Int) (c' : Nat), e = .returned (.slice A n' cp) ∧ IR .u8 w' A n' l' ∧ (∀ x ∈ l', 0 ≤ x ∧ x < 256) ∧ n' ≤ n + 1 ∧ c' ≤ c + 3 ∧ Mk B w' g c' ∧ w.grownBy w' (some g) := by
  have hl := own_len ho
  have hcv : (convert 49 9 v).run Try.prog w = .ok (.string (strOfNums l)) w := by
    rcases ho.2 with ⟨rfl, hnil⟩ | ⟨g', cap, cur, rfl, _⟩
    · have : l = [] := List.eq_nil_of_length_eq_zero (by omega)
      subst this
      exact run_convert_bytes_nil w 49 5 under_bytes under_u8 0 0 9 under_string
    · exact run_convert_bytes_arg w 49 5 under_bytes under_u8 g' 0 n cap l hl (fun i hi => by rw [Nat.zero_add]; exact own_cell ho hi) 9 under_string
  have hsz : (strOfNums l).size = n := by rw [strOfNums_size, hl]
  have Hsp := Lib.hid (spoil_c B g c (strOfNums l) w h hc (by omega))
  rw [hsz] at Hsp
  generalize strOfNums l = s at hcv Hsp
  clear hsz ho hl h
  go_enter Try.func39, Try.ntmps39
  go_wp2_with fail
  refine Hsp.out.mono ?_
  rintro e w1 ⟨s', c', rfl, hs', hc', hm1, hg1⟩
  have hcb := Lib.run_convert_string_bytes (P := Try.prog) w1 9 49 5 s' under_string under_bytes under_u8
  go_wp2_with fail
  go_ret
  exact ⟨_, _, _, numsOf s', c', rfl, bytesWorld_IR _ _ _, numsOf_range s', hs', hc', hm1.grown (bytesWorld_grown w1 _ s' none) (by simp) (by simp), hg1.trans (bytesWorld_grown w1 _ s' _)⟩
end Go.Proofs.Ytjlfdkkaljlmjaa
