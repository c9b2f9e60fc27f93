/- The walk of humpgen's Wagons. -/
import Derived.Test.YtiegpkbollihgaaDoorFnG3
namespace Go.Proofs.YtiegpkbollihgaaDoor
open Go.RowKit
namespace Fn
theorem num_ne {i j : Nat} {s : ByteArray} (h : NumMade i s) (k : NumMade j s) (hi : i < 1000) (hj : j < 1000) : i = j := by
  obtain ⟨_, h1, h2, h3⟩ := h
  obtain ⟨_, k1, k2, k3⟩ := k
  omega
theorem wsGo_made : ∀ (r prev : List WG), (prev ++ r).length ≤ 1000 → (∀ j x, (prev ++ r)[j]? = some x → WagMade j x) → wsGo r prev = 0 := by
  intro r
  induction r with
  | nil => intro _ _ _; rfl
  | cons x t ih =>
    intro prev hl h
    have hx : WagMade prev.length x := h prev.length x (by rw [List.getElem?_append_right (Nat.le_refl _), Nat.sub_self]; rfl)
    have hn : named prev x.nu = false := by
      unfold named
      rw [Bool.eq_false_iff]
      intro ha
      obtain ⟨y, hy, he⟩ := List.any_eq_true.1 ha
      obtain ⟨k, hk⟩ := List.getElem?_of_mem hy
      have hkl := (List.getElem?_eq_some_iff.1 hk).1
      have hy2 := h k y (by rw [List.getElem?_append_left hkl]; exact hk)
      have he2 : y.nu = x.nu := of_decide_eq_true he
      have h3 := hy2.2
      rw [he2] at h3
      rw [List.length_append, List.length_cons] at hl
      have := num_ne h3 hx.2 (by omega) (by omega)
      omega
    rw [wsGo, fit_ok hx.1 hn, if_neg (by decide)]
    refine ih (prev ++ [x]) (by simpa using hl) fun j y hy => h j y (by simpa using hy)
theorem wsErr_made {l : List WG} (hl : l.length ≤ 96) (h : ∀ j x, l[j]? = some x → WagMade j x) : wsErr l = 0 := by
  rw [wsErr_go hl]
  exact wsGo_made l [] (by simp; omega) (by simpa using h)
end Fn
theorem sl80 : SlT Tryd.prog 23 34 8 80 := slT_of (z := .agg #[.string ⟨#[]⟩, .int .i64 0, .int .i64 0, .int .i64 0, .int .i64 0, .int .i64 0, .bool false, .string ⟨#[]⟩]) Tryd.underlying23 (by kernel_rfl) (by rfl) (by omega)
def GWsI (B : Nat) (w : World) (g c q : Nat) (vl vi : Value) (wr : World) : Prop := ∃ (l : List WG) (i c' : Nat), i + l.length = q ∧ vi = .int .i64 (i : Int) ∧ wr.ownsRow w.heap.size 34 8 vl l.length (flatW l) ∧ Hid (∀ j x, l[j]? = some x → WagMade j x) ∧ c' ≤ c + 1 + 17 * l.length ∧ Mk B wr g c' ∧ w.grownBy wr (some g)
def GWagsR (B : Nat) (w : World) (g c n : Nat) (e : Ending) (w' : World) : Prop := ∃ (l : List WG) (v : Value) (c' : Nat), e = .returned v ∧ w'.ownsRow w.heap.size 34 8 v l.length (flatW l) ∧ l.length ≤ n ∧ Hid (∀ j x, l[j]? = some x → WagMade j x) ∧ c' ≤ c + 1 + 17 * n ∧ Mk B w' g c' ∧ w.grownBy w' (some g)
set_option maxRecDepth 100000 in
set_option maxHeartbeats 8000000 in
theorem gwagons_c (B g c n : Nat) (w : World) (h : Mk B w g c) (hc : c ≤ 1152921504606800000) (hn : n ≤ 96) (hB : B ≤ w.heap.size) :
    Calls Tryd.prog 24 #[.pointer (some ⟨g, 0, none⟩), .int .i64 (n : Int)] w (GWagsR B w g c n) := by
  have hgw := h.lt
  go_enter Tryd.func24, Tryd.ntmps24
  go_wp2_with fail
  refine (next_c B g c ((n : Int) + 1) w h (by omega) (by omega) (by omega)).mono ?_
  rintro e w1 ⟨y, hy0, hy1, rfl, hm1, hg1⟩
  obtain ⟨q, rfl⟩ := Int.eq_ofNat_of_zero_le hy0
  have hqn : q ≤ n := by omega
  clear hy0 hy1
  go_wp2_with fail
  go_loopw [5, 6] (fun vl vi wr => GWsI B w g c q vl vi wr) (fun _ vi _ => (intOf vi).toNat)
  case atStart => exact (show GWsI _ _ _ _ _ _ _ _ from ⟨[], q, c + 1, by simp, rfl, World.ownsRow_nil _ _ _ _, Lib.hid (fun j x hx => by simp at hx), by omega, hm1, hg1⟩)
  case round =>
    obtain ⟨l, i, c', hil, rfl, own, HL, hc', hmk, hgr⟩ := hrel
    clear hm1 hg1
    obtain ⟨Al, cl, rfl, hcl1, hcl2⟩ := own_form own
    by_cases hi0 : 0 < i
    · have d0 : decide ((0 : Int) < (i : Int)) = true := decide_eq_true (by omega)
      have d0' : decide (0 < i) = true := decide_eq_true hi0
      have hgl := hmk.lt
      have hle := hgr.size
      go_wp2_with fail
      refine (gwagon_c B g c' l.length wr hmk (by omega) (by omega)).mono ?_
      rintro e w2 ⟨x, c2, rfl, hx, hc2, hm2, hg2⟩
      have hge := own_ge own
      have hnb : (Value.slice Al l.length cl).ownBlock ≠ some g := fun e => by have := hge _ e; omega
      have own2 := own.kept hg2 (.inr hnb)
      have hgr2 := hgr.trans hg2
      have hle2 := hgr2.size
      have hl80 : (l.length + 1) * 80 ≤ 140737488355328 := by omega
      have HL2 : Hid (∀ j y, (l ++ [x])[j]? = some y → WagMade j y) := Lib.hid (fun j y hy => by
        rcases Nat.lt_or_ge j l.length with h' | h'
        · rw [List.getElem?_append_left h'] at hy
          exact HL.out j y hy
        · rw [List.getElem?_append_right h'] at hy
          have hj : j - l.length = 0 := by have := (List.getElem?_eq_some_iff.1 hy).1; simp at this; omega
          rw [hj] at hy
          obtain rfl := Option.some.inj hy
          obtain rfl : j = l.length := by omega
          exact hx)
      clear hx hmk hgr
      unfold wgV
      go_wp2_with (at_builtin
                   go_must (
                   refine wpList_push sl80 rfl (.tmp 15) (.tmp 20) rfl w.heap.size _ _ _ rfl own2 1 1 rfl rfl rfl (by simp only [maxLen]; omega) hl80 hle2 ?_
                   intro v' w5 own5 hgw5
                   have hm5 := hm2.grown hgw5.grown hnb (fun b e => by have := hge b e; omega)
                   have hg5 := grown_then' hgr2 hgw5.grown (fun b e => .inr (hge b e))))
      go_roundw
      case rel => exact (show GWsI _ _ _ _ _ _ _ _ from ⟨l ++ [x], i - 1, c2, by simp; omega, by go_num, by rw [List.length_append, flatW_snoc]; exact own5, HL2, by simp; omega, hm5, hg5⟩)
      case measure => simp [intOf]; omega
    · have d0 : decide ((0 : Int) < (i : Int)) = false := decide_eq_false (by omega)
      have d0' : decide (0 < i) = false := decide_eq_false hi0
      go_wp2_with fail
      go_ret
      exact (show GWagsR _ _ _ _ _ _ _ from ⟨l, _, c', rfl, own, by omega, HL, by omega, hmk, hgr⟩)
end Go.Proofs.YtiegpkbollihgaaDoor
