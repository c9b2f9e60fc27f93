/- The walk of the law's writes. -/
import Derived.Test.YtmjdjcpmkdninaaDoorLyR5
import Derived.Test.YtmjdjcpmkdninaaDoorLyG5
namespace Go.Proofs.YtmjdjcpmkdninaaDoor
open Go.RowKit
/-- What is asked of an element that is looked at. -/
def LeWf (x : LE) : Prop := x.nm.size ≤ maxLen ∧ (Lit.int .i64 x.p).wf = true ∧ (Lit.int .i64 x.sd).wf = true
theorem lwf_size {l : List LE} (h : ∀ x ∈ l, LeWf x) : ∀ x ∈ l, x.nm.size ≤ maxLen := fun x hx => (h x hx).1
theorem lwf_wf {l : List LE} (h : ∀ x ∈ l, LeWf x) : ∀ x ∈ l, (Lit.int .i64 x.p).wf = true ∧ (Lit.int .i64 x.sd).wf = true := fun x hx => (h x hx).2
theorem LeWf.of_sp {l : List LE} (h : ∀ x ∈ l, LeSp x) : ∀ x ∈ l, LeWf x := fun x hx => by
  obtain ⟨h1, h2, h3⟩ := h x hx
  exact ⟨by unfold maxLen; omega, wf_small (by omega), wf_small (by omega)⟩
theorem LeWf.of_ok {l : List LE} (h : ∀ x ∈ l, Ly.LeOk x) : ∀ x ∈ l, LeWf x := fun x hx => by
  have h0 := (h x hx).size
  obtain ⟨_, h2, h3⟩ := h x hx
  exact ⟨by unfold maxLen; omega, wf_small (by omega), wf_small (by omega)⟩
set_option maxRecDepth 100000 in
set_option maxHeartbeats 4000000 in
theorem writes_c (A : Option Addr) (n c : Nat) (l : List LE) (w : World) (hn : n ≤ maxLen) (h : LR w A n l) (hs : ∀ x ∈ l, LeWf x) (ht : Tab10 w) :
    Calls Tryd.prog 20 #[.slice A n c] w fun e w' => e = .returned (.bool true) ∧ Below w.heap.size w w' := by
  have Hs := Lib.hid hs
  clear hs
  obtain ⟨F, hF⟩ : ∃ F, Ly.fmt l = F := ⟨_, rfl⟩
  obtain ⟨s, e0⟩ := F
  have HF1 := Lib.hid (fun (W : World) (h : LR W A n l) (ht : Tab10 W) => lformat_c A n c l W hn h (lwf_size Hs.out) (lwf_wf Hs.out) ht)
  have HF2 := Lib.hid (fun (W : World) (h : LR W A n l) => rlformat_c A n c l W hn h (lwf_size Hs.out))
  unfold LFormatR at HF1 HF2
  rw [hF] at HF1 HF2
  simp only at HF1 HF2
  obtain ⟨S, hS⟩ : ∃ S, baOf s = S := ⟨_, rfl⟩
  rw [hS] at HF1 HF2
  obtain ⟨v, hv⟩ : ∃ v, Ly.vErr l = v := ⟨_, rfl⟩
  have HV1 := Lib.hid (fun (W : World) (h : LR W A n l) => lvalid_c A n c l W hn h (lwf_size Hs.out) (lwf_wf Hs.out))
  have HV2 := Lib.hid (fun (W : World) (h : LR W A n l) => rlvalid_c A n c l W hn h (lwf_size Hs.out))
  rw [hv] at HV1 HV2
  clear hF hS hv
  go_enter Tryd.func20, Tryd.ntmps20
  go_wp2_with fail
  refine (HF1.out _ h ht).mono ?_
  rintro e w1 ⟨rfl, hb1⟩
  have h1 := h.below hb1
  go_wp2_with fail
  refine (HF2.out _ h1).mono ?_
  rintro e w2 ⟨rfl, hb2⟩
  have h2 := h1.below hb2
  have hb2' := below_step hb1 hb2
  go_wp2_with fail
  refine (HV1.out _ h2).mono ?_
  rintro e w3 ⟨rfl, hb3⟩
  have h3 := h2.below hb3
  have hb3' := below_step hb2' hb3
  go_wp2_with fail
  refine (HV2.out _ h3).mono ?_
  rintro e w4 ⟨rfl, hb4⟩
  have hb4' := below_step hb3' hb4
  go_wp2_with fail
  go_ret
  exact ⟨rfl, hb4'⟩
end Go.Proofs.YtmjdjcpmkdninaaDoor
