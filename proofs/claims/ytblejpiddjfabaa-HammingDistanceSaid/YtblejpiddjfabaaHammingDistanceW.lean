/- The walk of 'HammingDistance'. -/
import Derived.Test.YtblejpiddjfabaaHammingCorrectsW
namespace Go.Proofs.Ytblejpiddjfabaa
open Go.RowKit
theorem distance_nat (x y : Nat) (hx : x < 65536) (hy : y < 65536) (w : World) :
    Calls Try.prog 13 #[.int .i64 x, .int .i64 y] w fun e w' => e = .returned (.tuple #[.int .i64 (Ham.pop (x ^^^ y) : Nat), .int .i64 0]) ∧ w = w' :=
  (distance_c x y w).mono fun _ _ ⟨he, hb⟩ => ⟨by rw [he, Ham.disV, Ham.disE, if_neg (by omega), if_neg (by omega)]; rfl, hb⟩
set_option linter.unusedVariables false in
set_option maxHeartbeats 1000000 in
theorem walk_HammingDistance (a0 a1 : Int) (w : World) (w0 : (Lit.int .i64 a0).wf = true) (w1 : (Lit.int .i64 a1).wf = true) :
    Calls Try.prog 5 #[.int .i64 a0, .int .i64 a1] w fun e w' => e = .returned (.bool true) ∧ Below w.heap.size w w' := by
  obtain ⟨n, hn, hv⟩ := in2048 a0
  obtain ⟨m, hm, hv'⟩ := in2048 a1
  have ht := tmod_bd a0 2048 (by omega)
  have ht' := tmod_bd a1 2048 (by omega)
  have Hw := Ham.word_lt n
  have Hw' := Ham.word_lt m
  have hd := Ham.word_dist n m hn hm
  have hdd : n = m → Ham.pop (Ham.word n ^^^ Ham.word m) = 0 := by rintro rfl; rw [Nat.xor_self, Ham.pop_zero]
  have hpl := Ham.pop_le (Ham.word n ^^^ Ham.word m)
  have Hd := Lib.hid hd
  have Hdd := Lib.hid hdd
  clear hd hdd
  by_cases hnm : n = m
  · have h1 := Hdd.out hnm
    subst hnm
    have H1 := Lib.hid h1
    clear h1 hpl
    go_enter Try.func5, Try.ntmps5
    go_wp2_with fail
    refine (encode_word n hn _).mono ?_
    rintro e w1 ⟨rfl, hb1⟩
    go_wp2_with fail
    refine (encode_word n hn _).mono ?_
    rintro e w2 ⟨rfl, hb2⟩
    have hb2' := below_step hb1 hb2
    clear hb1 hb2
    go_wp2_with fail
    refine (distance_nat _ _ Hw Hw _).mono ?_
    rintro e w3 ⟨rfl, rfl⟩
    rw [H1.out]
    go_wp2_with fail
    refine (sane03_c _).mono ?_
    rintro e w3 ⟨rfl, hb3⟩
    go_wp2_with fail
    go_ret
    exact ⟨rfl, below_step hb2' hb3⟩
  · have h1 := Hd.out hnm
    have e1 : ((n : Int) == (m : Int)) = false := by simp; omega
    have e2 : ((n : Int) != (m : Int)) = true := by simp; omega
    have H1 := Lib.hid h1
    clear h1
    go_enter Try.func5, Try.ntmps5
    go_wp2_with fail
    refine (encode_word n hn _).mono ?_
    rintro e w1 ⟨rfl, hb1⟩
    go_wp2_with fail
    refine (encode_word m hm _).mono ?_
    rintro e w2 ⟨rfl, hb2⟩
    have hb2' := below_step hb1 hb2
    clear hb1 hb2
    go_wp2_with fail
    refine (distance_nat _ _ Hw Hw' _).mono ?_
    rintro e w3 ⟨rfl, rfl⟩
    have h4 := H1.out
    clear hnm H1 Hd Hdd
    generalize Ham.pop (Ham.word n ^^^ Ham.word m) = d at h4 hpl ⊢
    go_wp2_with fail
    refine (sane03_c _).mono ?_
    rintro e w3 ⟨rfl, hb3⟩
    go_wp2_with fail
    go_ret
    exact ⟨rfl, below_step hb2' hb3⟩
end Go.Proofs.Ytblejpiddjfabaa
