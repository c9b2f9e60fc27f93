/- The walk of the law's sane: the examples of the chapter. -/
import Derived.Test.YtmjdjcpmkdninaaDoorLyP4
import Derived.Test.YtmjdjcpmkdninaaDoorLyF2
namespace Go.Proofs.YtmjdjcpmkdninaaDoor
open Go.RowKit
namespace Ly
def tx1 : ByteArray := ⟨#[99, 114, 101, 115, 116, 32, 99, 10, 115, 119, 105, 116, 99, 104, 32, 119, 32, 99, 32, 57, 48, 48, 48, 32, 49, 48, 48, 48, 32, 53, 48, 10, 116, 114, 97, 99, 107, 32, 116, 49, 32, 119, 58, 108, 101, 102, 116, 32, 53, 48, 48, 48, 48, 48, 32, 45, 49, 48, 48, 32, 48, 10]⟩
def tx2 : ByteArray := ⟨#[99, 114, 101, 115, 116, 32, 99, 10, 115, 101, 103, 109, 101, 110, 116, 32, 115, 32, 99, 32, 49, 48, 32, 48, 10]⟩
def tx3 : ByteArray := ⟨#[35, 32, 97, 32, 104, 117, 109, 112, 10, 32, 99, 114, 101, 115, 116, 32, 99, 10, 116, 114, 97, 99, 107, 32, 32, 116, 32, 99, 32, 53, 48, 48, 32, 45, 50, 48, 32, 48]⟩
def ly3 : List LE := [⟨0, ⟨#[99]⟩, -1, 0, 0, 0, 0, 0⟩, ⟨4, ⟨#[116]⟩, 0, 0, 500, -20, 0, 0⟩]
theorem parse_tx1 : parse tx1 = ([], 0, 13) := by kernel_rfl
theorem parse_tx2 : parse tx2 = ([], 2, 6) := by kernel_rfl
theorem parse_tx3 : parse tx3 = (ly3, 0, 0) := by kernel_rfl
theorem fmt_ly3 : fmt ly3 = ([99, 114, 101, 115, 116, 32, 99, 10, 116, 114, 97, 99, 107, 32, 116, 32, 99, 32, 53, 48, 48, 32, 45, 50, 48, 32, 48, 10], 0) := by kernel_rfl
end Ly
theorem lp1_c (m : Int) (w : World) (hm : w.cell? ⟨1, 0, none⟩ = some (.int .i64 m)) :
    Calls Tryd.prog 14 #[.string ⟨#[99, 114, 101, 115, 116, 32, 99, 10, 115, 119, 105, 116, 99, 104, 32, 119, 32, 99, 32, 57, 48, 48, 48, 32, 49, 48, 48, 48, 32, 53, 48, 10, 116, 114, 97, 99, 107, 32, 116, 49, 32, 119, 58, 108, 101, 102, 116, 32, 53, 48, 48, 48, 48, 48, 32, 45, 49, 48, 48, 32, 48, 10]⟩] w fun e w' => (∃ A n c, e = .returned (.tuple #[.slice A n c, .int .i64 0, .int .i64 13])) ∧ Below w.heap.size w w' := by
  refine (lparse_c Ly.tx1 m w (of_decide_eq_true (by kernel_rfl)) hm).mono ?_
  rintro e w' ⟨A, n, c, rfl, _, _, _, hb⟩
  rw [Ly.parse_tx1]
  exact ⟨⟨A, n, c, rfl⟩, hb⟩
theorem lp2_c (m : Int) (w : World) (hm : w.cell? ⟨1, 0, none⟩ = some (.int .i64 m)) :
    Calls Tryd.prog 14 #[.string ⟨#[99, 114, 101, 115, 116, 32, 99, 10, 115, 101, 103, 109, 101, 110, 116, 32, 115, 32, 99, 32, 49, 48, 32, 48, 10]⟩] w fun e w' => (∃ A n c, e = .returned (.tuple #[.slice A n c, .int .i64 2, .int .i64 6])) ∧ Below w.heap.size w w' := by
  refine (lparse_c Ly.tx2 m w (of_decide_eq_true (by kernel_rfl)) hm).mono ?_
  rintro e w' ⟨A, n, c, rfl, _, _, _, hb⟩
  rw [Ly.parse_tx2]
  exact ⟨⟨A, n, c, rfl⟩, hb⟩
theorem lp3_c (m : Int) (w : World) (hm : w.cell? ⟨1, 0, none⟩ = some (.int .i64 m)) :
    Calls Tryd.prog 14 #[.string ⟨#[35, 32, 97, 32, 104, 117, 109, 112, 10, 32, 99, 114, 101, 115, 116, 32, 99, 10, 116, 114, 97, 99, 107, 32, 32, 116, 32, 99, 32, 53, 48, 48, 32, 45, 50, 48, 32, 48]⟩] w fun e w' => (∃ A c, e = .returned (.tuple #[.slice A 2 c, .int .i64 0, .int .i64 0]) ∧ LR w' A 2 Ly.ly3) ∧ Below w.heap.size w w' := by
  refine (lparse_c Ly.tx3 m w (of_decide_eq_true (by kernel_rfl)) hm).mono ?_
  rintro e w' ⟨A, n, c, rfl, hR, _, _, hb⟩
  rw [Ly.parse_tx3] at hR ⊢
  obtain rfl : n = 2 := hR.len.symm
  exact ⟨⟨A, c, rfl, hR⟩, hb⟩
theorem lf3_c (A : Option Addr) (c : Nat) (w : World) (h : LR w A 2 Ly.ly3) (ht : Tab10 w) :
    Calls Tryd.prog 12 #[.slice A 2 c] w fun e w' => e = .returned (.tuple #[.string ⟨#[99, 114, 101, 115, 116, 32, 99, 10, 116, 114, 97, 99, 107, 32, 116, 32, 99, 32, 53, 48, 48, 32, 45, 50, 48, 32, 48, 10]⟩, .int .i64 0]) ∧ Below w.heap.size w w' := by
  refine (lformat_c A 2 c Ly.ly3 w (of_decide_eq_true (by kernel_rfl)) h (by intro x hx; simp only [Ly.ly3, List.mem_cons, List.not_mem_nil, or_false] at hx; rcases hx with rfl | rfl <;> exact of_decide_eq_true (by kernel_rfl)) (by intro x hx; simp only [Ly.ly3, List.mem_cons, List.not_mem_nil, or_false] at hx; rcases hx with rfl | rfl <;> exact ⟨wf_small (by simp), wf_small (by simp)⟩) ht).mono ?_
  rintro e w' ⟨rfl, hb⟩
  rw [Ly.fmt_ly3]
  exact ⟨rfl, hb⟩
set_option maxRecDepth 100000 in
set_option maxHeartbeats 4000000 in
theorem lsane_c (m : Int) (w : World) (hm : w.cell? ⟨1, 0, none⟩ = some (.int .i64 m)) (ht : Tab10 w) :
    Calls Tryd.prog 16 #[] w fun e w' => e = .returned (.bool true) ∧ Below w.heap.size w w' := by
  have H1 := Lib.hid (lp1_c m w hm)
  go_enter Tryd.func16, Tryd.ntmps16
  go_wp2_with fail
  refine H1.out.mono ?_
  clear H1
  rintro e w1 ⟨⟨A1, n1, c1, rfl⟩, hb1⟩
  have H2 := Lib.hid (lp2_c m w1 (keep_cell hb1 hm))
  go_wp2_with fail
  refine H2.out.mono ?_
  clear H2
  rintro e w2 ⟨⟨A2, n2, c2, rfl⟩, hb2⟩
  have hb2' := below_step hb1 hb2
  have H3 := Lib.hid (lp3_c m w2 (keep_cell hb2' hm))
  clear hb1 hb2
  go_wp2_with fail
  refine H3.out.mono ?_
  clear H3
  rintro e w3 ⟨⟨A3, c3, rfl, hR⟩, hb3⟩
  have hb3' := below_step hb2' hb3
  have H4 := Lib.hid (lf3_c A3 c3 w3 hR (ht.below hb3'))
  clear hb2' hb3 hR hm
  go_wp2_with fail
  refine H4.out.mono ?_
  clear H4
  rintro e w4 ⟨rfl, hb4⟩
  have hb4' := below_step hb3' hb4
  clear hb3' hb4
  go_wp2_with fail
  go_ret
  exact ⟨rfl, hb4'⟩
end Go.Proofs.YtmjdjcpmkdninaaDoor
