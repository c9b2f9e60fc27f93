/- Pack and Unpack at good values; at bytes near code words; at one lost word; one bit of a byte turned. -/
import Derived.Test.YtjlfdkkaljlmjaaHamW3
namespace Go.Proofs.Ytjlfdkkaljlmjaa
open Go.RowKit
theorem pack_ok (A : Option Addr) (n c : Nat) (l : List Int) (w : World) (hn : n ≤ 65536) (h : IR .i64 w A n l) (hr : ∀ v ∈ l, 0 ≤ v ∧ v < 2048) :
    Calls Try.prog 52 #[.slice A n c] w fun e w' => ∃ v, e = .returned (.tuple #[v, .int .i64 0]) ∧ w'.ownsRow w.heap.size 5 1 v (2 * n) ((Ham.encB l).map (Value.int .u8)) ∧ Below w.heap.size w w' := by
  have hl := h.len
  have hv := Ham.vals_ok l hr
  have he : Ham.packE l = 0 := by rw [Ham.packE, if_neg (by omega), if_pos hv]
  have hb : Ham.packB l = Ham.encB l := by rw [Ham.packB, if_neg (by omega), if_pos hv]
  have hlen : (Ham.encB l).length = 2 * n := by rw [Ham.encB_len, hl]
  refine (pack_c A n c l w (by simp only [maxLen]; omega) h).mono fun e w' ⟨v, h1, h2, h3⟩ => ⟨v, by rw [h1, he], ?_, h3⟩
  rwa [hb, hlen] at h2
theorem unpack_near (A : Option Addr) (n c : Nat) (l B : List Int) (w : World) (hn : n ≤ 65536) (hl : l.length = n) (h : IR .u8 w A (2 * n) B) (hnr : Ham.Near l B) (hr : ∀ v ∈ l, 0 ≤ v ∧ v < 2048) :
    Calls Try.prog 53 #[.slice A (2 * n) c] w fun e w' => ∃ v u, e = .returned (.tuple #[v, u, .int .i64 0]) ∧ w'.ownsRow w.heap.size 3 1 v n (l.map (Value.int .i64)) ∧
      w'.ownsRow w.heap.size 3 1 u 0 [] ∧ Below w.heap.size w w' := by
  obtain ⟨h1, h2, h3⟩ := hnr.unpack hr (by omega)
  refine (unpack_c A (2 * n) c B w (by simp only [maxLen]; omega) h hnr.range).mono fun e w' ⟨v, u, he, ho, hu, _, hb⟩ => ⟨v, u, by rw [he, h1], ?_, ?_, hb⟩
  · rwa [h2, hl] at ho
  · rw [h3] at hu; exact hu
theorem u8_flip (x p : Nat) (hx : x < 256) : bits .xor .u8 (x : Int) (2 ^ (p % 8) % 256) = ((x ^^^ 2 ^ (p % 8) : Nat) : Int) := by
  have h1 : 2 ^ (p % 8) < 2 ^ 8 := Nat.pow_lt_pow_right (by decide) (by omega)
  have h2 : (2 : Int) ^ (p % 8) % 256 = ((2 ^ (p % 8) : Nat) : Int) := by
    rw [show ((2 : Int) ^ (p % 8)) = ((2 ^ (p % 8) : Nat) : Int) by simp]
    generalize 2 ^ (p % 8) = q at h1 ⊢
    omega
  rw [h2, u8_xor_nat _ _ hx (by omega)]
theorem unpack_lost (A : Option Addr) (n c at_ : Nat) (l B : List Int) (w : World) (hn : n ≤ 65536) (hl : l.length = n) (h : IR .u8 w A (2 * n) B) (hr : ∀ x ∈ B, 0 ≤ x ∧ x < 256)
    (hu : Ham.unpE B = 0 ∧ Ham.unpackV B = l.set at_ (-1) ∧ Ham.unpackL B = [(at_ : Int)]) :
    Calls Try.prog 53 #[.slice A (2 * n) c] w fun e w' => ∃ v u, e = .returned (.tuple #[v, u, .int .i64 0]) ∧ w'.ownsRow w.heap.size 3 1 v n ((l.set at_ (-1)).map (Value.int .i64)) ∧
      w'.ownsRow w.heap.size 3 1 u 1 ([(at_ : Int)].map (Value.int .i64)) ∧ Below w.heap.size w w' := by
  refine (unpack_c A (2 * n) c B w (by simp only [maxLen]; omega) h hr).mono fun e w' ⟨v, u, he, ho, hu', _, hb⟩ => ⟨v, u, by rw [he, hu.1], ?_, ?_, hb⟩
  · rwa [hu.2.1, List.length_set, hl] at ho
  · rw [hu.2.2] at hu'; exact hu'
end Go.Proofs.Ytjlfdkkaljlmjaa
