/- The walks of consist's check and Total, and of the reference's ValidList. -/
import Derived.Test.YtiegpkbollihgaaDoorFnW4
import Derived.Test.YtiegpkbollihgaaDoorFnMap
import Derived.Test.YtiegpkbollihgaaDoorFnText2
namespace Go.Proofs.YtiegpkbollihgaaDoor
open Go.RowKit Go.Maps
namespace Fn
def named (l : List WG) (s : ByteArray) : Bool := l.any fun y => decide (y.nu = s)
theorem drop_at {l : List WG} {t : Nat} {x : WG} (h : l[t]? = some x) : l.drop t = x :: l.drop (t + 1) := by
  obtain ⟨ht, hx⟩ := List.getElem?_eq_some_iff.1 h
  rw [List.drop_eq_getElem_cons ht, hx]
theorem take_at {l : List WG} {t : Nat} {x : WG} (h : l[t]? = some x) : l.take (t + 1) = l.take t ++ [x] := by
  obtain ⟨ht, hx⟩ := List.getElem?_eq_some_iff.1 h
  rw [List.take_succ_eq_append_getElem ht, hx]
theorem wsGo_drop {l : List WG} {t : Nat} {x : WG} (h : l[t]? = some x) : wsGo (l.drop t) (l.take t) = if fitW (l.take t) x ≠ 0 then fitW (l.take t) x else wsGo (l.drop (t + 1)) (l.take (t + 1)) := by
  rw [drop_at h, take_at h, wsGo]
theorem fit_bad {p : List WG} {x : WG} (h : wErr x ≠ 0) : fitW p x = wErr x := by unfold fitW; rw [if_pos h]
theorem fit_dup {p : List WG} {x : WG} (h : wErr x = 0) (hn : named p x.nu = true) : fitW p x = 8 := by unfold fitW; rw [if_neg (by rw [h]; decide), if_pos (show (p.any fun y => decide (y.nu = x.nu)) = true from hn)]
theorem fit_ok {p : List WG} {x : WG} (h : wErr x = 0) (hn : named p x.nu = false) : fitW p x = 0 := by unfold fitW; rw [if_neg (by rw [h]; decide), if_neg (by rw [show (p.any fun y => decide (y.nu = x.nu)) = false from hn]; decide)]
theorem named_new {l : List WG} {t : Nat} {x : WG} (h : l[t]? = some x) : named (l.take (t + 1)) x.nu = true := by
  rw [take_at h]
  simp [named]
theorem named_old {l : List WG} {t : Nat} {x : WG} (h : l[t]? = some x) {s : ByteArray} (hs : s ≠ x.nu) : named (l.take (t + 1)) s = named (l.take t) s := by
  rw [take_at h]
  unfold named
  rw [List.any_append]
  simp only [List.any_cons, List.any_nil, Bool.or_false, decide_eq_false (fun e : x.nu = s => hs e.symm)]
theorem wsErr_go {l : List WG} (h : l.length ≤ 96) : wsErr l = wsGo l [] := by unfold wsErr; rw [if_neg (by omega)]
theorem wsErr_big {l : List WG} (h : 96 < l.length) : wsErr l = 3 := by unfold wsErr; rw [if_pos h]
theorem wsErr_all {l : List WG} (h : wsErr l = 0) : l.length ≤ 96 ∧ ∀ x ∈ l, wErr x = 0 := by
  unfold wsErr at h
  split at h
  · cases h
  · exact ⟨by omega, wsGo_zero _ _ h⟩
theorem named_at {l : List WG} {k : Nat} {y : WG} {s : ByteArray} (h : l[k]? = some y) (e : y.nu = s) {t : Nat} (hk : k < t) : named (l.take t) s = true := by
  unfold named
  rw [List.any_eq_true]
  exact ⟨y, List.mem_of_getElem? (i := k) (by rw [List.getElem?_take, if_pos hk]; exact h), decide_eq_true e⟩
theorem named_no {l : List WG} {t : Nat} {s : ByteArray} (h : ∀ (k : Nat) (y : WG), k < t → l[k]? = some y → y.nu ≠ s) : named (l.take t) s = false := by
  unfold named
  rw [Bool.eq_false_iff]
  intro ha
  obtain ⟨y, hy, he⟩ := List.any_eq_true.1 ha
  obtain ⟨k, hk⟩ := List.getElem?_of_mem hy
  rw [List.getElem?_take] at hk
  split at hk
  · rename_i hkt
    exact h k y hkt hk (of_decide_eq_true he)
  · cases hk
end Fn
theorem results_tmp4 {fn : Func} {t u v x : Tmp} (h : fn.results = #[.tmp t, .tmp u, .tmp v, .tmp x]) (tmps : Array Value) (P : Program) (w : World) :
    (results fn tmps).run P w = .ok (.tuple #[tmps.getD t undef, tmps.getD u undef, tmps.getD v undef, tmps.getD x undef]) w := by
  simp [results, h]
def ChI (w : World) (n : Nat) (l : List WG) (vi : Value) (wr : World) : Prop := ∃ t m : Nat, t ≤ n ∧ m ≤ t ∧ vi = .int .i64 (t : Int) ∧ Hid (Fn.wsErr l = Fn.wsGo (l.drop t) (l.take t)) ∧ MapB keyS 4 wr w.heap.size m (fun s => Fn.named (l.take t) s) ∧ Below w.heap.size w wr
set_option maxRecDepth 100000 in
set_option maxHeartbeats 8000000 in
theorem wscheck_c (A : Option Addr) (n c : Nat) (l : List WG) (w : World) (hn : n ≤ maxLen) (h : WR w A n l) (hs : ∀ x ∈ l, x.nu.size ≤ maxLen ∧ x.de.size ≤ maxLen) :
    Calls Tryd.prog 59 #[.slice A n c] w fun e w' => e = .returned (.int .i64 (Fn.wsErr l)) ∧ Below w.heap.size w w' := by
  have hl := h.len
  unfold maxLen at hn
  by_cases hbig : 96 < n
  · have d1 : decide ((96 : Int) < (n : Int)) = true := decide_eq_true (by omega)
    have d1' : decide (96 < n) = true := decide_eq_true hbig
    have Hr := Lib.hid (Fn.wsErr_big (l := l) (by omega))
    clear hbig
    go_enter Tryd.func59, Tryd.ntmps59
    go_wp2_with fail
    go_ret
    exact ⟨retv Hr.out.symm, Below.refl _ _⟩
  have d1 : decide ((96 : Int) < (n : Int)) = false := decide_eq_false (by omega)
  have d1' : decide (96 < n) = false := decide_eq_false hbig
  have Hr := Lib.hid (Fn.wsErr_go (l := l) (by omega))
  have hmk := @run_makeMap Tryd.prog
  have Hh := Lib.hid h
  have Hs := Lib.hid hs
  have Hl := Lib.hid hl
  have hn96 : n ≤ 96 := by omega
  have hMB : MapB keyS 4 (w.alloc (.map #[] 0)) w.heap.size 0 (fun s => Fn.named (l.take 0) s) := by
    have := MapB.made (k := keyS) (E := 4) w
    simpa [Fn.named] using this
  have hb0 : Below w.heap.size w (w.alloc (.map #[] 0)) := (Below.refl _ _).alloc (Nat.le_refl _) _
  clear h hs hl hbig
  go_enter Tryd.func59, Tryd.ntmps59
  go_wp2_with fail
  go_loopw [13] (fun vi wr => ChI w n l vi wr) (fun vi _ => n - (intOf vi).toNat)
  case atStart => exact (show ChI _ _ _ _ _ from ⟨0, 0, by omega, by omega, rfl, Lib.hid Hr.out, hMB, hb0⟩)
  case round =>
    obtain ⟨t, m0, ht, hm0, rfl, Hgo, hM, hbr⟩ := hrel
    clear hMB hb0
    by_cases hlt : t < n
    · have hti : (t : Int) < (n : Int) := by omega
      obtain ⟨ad, x, rfl, _, hp, c0, c1, c2, c3, c4, c5, c6, c7⟩ := (Hh.out.below hbr).at_ hlt
      obtain ⟨hz1, hz2⟩ := Hs.out x (List.mem_of_getElem? hp)
      have Hp := Lib.hid hp
      have Hst := Lib.hid (Hgo.out.trans (Fn.wsGo_drop hp))
      clear hp Hgo
      obtain ⟨XO, hXO⟩ : ∃ XO, (Obj.cells #[.string x.nu, .int .i64 x.len, .int .i64 x.ax, .int .i64 x.ms, .int .i64 x.br, .int .i64 x.gd, .bool x.gt, .string x.de] 34) = XO := ⟨_, rfl⟩
      have hM1 := hM.alloc XO
      have hb1 := hbr.alloc hbr.size XO
      have hX1 := Blk.new wr 34 #[.string x.nu, .int .i64 x.len, .int .i64 x.ax, .int .i64 x.ms, .int .i64 x.br, .int .i64 x.gd, .bool x.gt, .string x.de]
      rw [hXO] at hX1
      subst hXO
      have hW := fun W => wvalid_c x W hz1 hz2
      have HW := Lib.hid hW
      clear hW hM
      go_wp2_with fail
      refine (HW.out _).mono ?_
      rintro e w2 ⟨rfl, hb2⟩
      have hM2 := hM1.below hb2
      have hX2 := hX1.below hb2 (by simp)
      have hb2' := below_step hb1 hb2
      have hsz2 : wr.heap.size + 1 ≤ w2.heap.size := by have := hb2.size; simpa using this
      have hwr := hbr.size
      clear c0 c1 c2 c3 c4 c5 c6 c7 hM1 hb1 hX1 hb2 HW
      have x0 : w2.cell? ⟨wr.heap.size, 0, none⟩ = some (.string x.nu) := hX2.cell 0
      by_cases he : Fn.wErr x = 0
      case neg =>
        have de : (Fn.wErr x != 0) = true := by simp [he]
        have Hv : Hid (Fn.wsErr l = Fn.wErr x) := Lib.hid (by rw [Hst.out, Fn.fit_bad he, if_pos he])
        clear he
        go_wp2_with fail
        go_ret
        exact ⟨retv Hv.out.symm, hb2'⟩
      case pos =>
        have de : (Fn.wErr x != 0) = false := by simp [he]
        have He := Lib.hid he
        clear he
        obtain ⟨nd, hnd⟩ : ∃ nd, Fn.named (l.take t) x.nu = nd := ⟨_, rfl⟩
        have Hnd := Lib.hid hnd
        clear hnd
        cases nd with
        | true =>
          have Hv : Hid (Fn.wsErr l = 8) := Lib.hid (by rw [Hst.out, Fn.fit_dup He.out Hnd.out, if_pos (by decide)])
          go_wp2_with (at_lookup; refine wpList_mapB_look msb_under bool_under' (zbool _) rfl (.tmp 22) (.tmp 24) rfl rfl hM2 x.nu rfl hz1 ?_; simp only [Hnd.out])
          go_ret
          exact ⟨retv Hv.out.symm, hb2'⟩
        | false =>
          have Hv : Hid (Fn.wsErr l = Fn.wsGo (l.drop (t + 1)) (l.take (t + 1))) := Lib.hid (by rw [Hst.out, Fn.fit_ok He.out Hnd.out, if_neg (by decide)])
          go_wp2_with (first
            | (at_lookup; refine wpList_mapB_look msb_under bool_under' (zbool _) rfl (.tmp 22) (.tmp 24) rfl rfl hM2 x.nu rfl hz1 ?_; simp only [Hnd.out])
            | (at_mapUpdate
               go_must (
               refine wpList_mapB_put msb_under bool_under' rfl (.tmp 26) (.tmp 28) (.const (.bool true)) rfl rfl hM2 (by unfold maxLen; omega) x.nu true rfl rfl hz1 (fun s => Fn.named (l.take (t + 1)) s) (Fn.named_new Hp.out) (fun s' h => Fn.named_old Hp.out h) ?_
               intro w3 hM3 hg3
               have hb3 : Below w.heap.size w w3 := hb2'.trans ((Below.refl _ _).grown hg3 hb2'.size (fun b hb => by cases hb; exact Nat.le_refl _)))))
          go_roundw
          case rel => exact (show ChI _ _ _ _ _ from ⟨t + 1, m0 + 1, by omega, by omega, by go_num, Hv, hM3, hb3⟩)
          case measure => simp [intOf]; omega
    · obtain rfl : t = n := by omega
      have Hv : Hid (Fn.wsErr l = 0) := Lib.hid (by rw [Hgo.out, List.drop_of_length_le (by rw [Hl.out]; exact Nat.le_refl _)]; rfl)
      go_wp2_with fail
      go_ret
      exact ⟨retv Hv.out.symm, hbr⟩
def ToI (n : Nat) (w : World) (va vb vc vi : Value) (wr : World) : Prop := ∃ (t : Nat) (a b c : Int), t ≤ n ∧ va = .int .i64 a ∧ vb = .int .i64 b ∧ vc = .int .i64 c ∧ vi = .int .i64 (t : Int) ∧ (0 ≤ a ∧ a ≤ 2000 * t) ∧ (0 ≤ b ∧ b ≤ 2000 * t) ∧ (0 ≤ c ∧ c ≤ 2000 * t) ∧ Below w.heap.size w wr
set_option maxRecDepth 100000 in
set_option maxHeartbeats 8000000 in
theorem total_c (A : Option Addr) (n c : Nat) (l : List WG) (w : World) (hn : n ≤ maxLen) (h : WR w A n l) (hs : ∀ x ∈ l, x.nu.size ≤ maxLen ∧ x.de.size ≤ maxLen) :
    Calls Tryd.prog 40 #[.slice A n c] w fun e w' => (∃ p q r : Int, e = .returned (.tuple #[.int .i64 p, .int .i64 q, .int .i64 r, .int .i64 (Fn.wsErr l)])) ∧ Below w.heap.size w w' := by
  have HC := Lib.hid (wscheck_c A n c l w hn h hs)
  have hl := h.len
  have Hh := Lib.hid h
  clear h hs hn
  by_cases h0 : Fn.wsErr l = 0
  case neg =>
    have d0 : (Fn.wsErr l != 0) = true := by simp [h0]
    clear h0
    go_enter Tryd.func40, Tryd.ntmps40
    go_wp2_with fail
    refine HC.out.mono ?_
    rintro e w1 ⟨rfl, hb1⟩
    go_wp2_with fail
    try simp only [Exit.inBlock, Exit.then]
    refine bodyPost_ret (results_tmp4 rfl _ _ _) rfl ?_
    exact ⟨⟨_, _, _, rfl⟩, hb1⟩
  case pos =>
    obtain ⟨h96, hall⟩ := Fn.wsErr_all h0
    have Hall := Lib.hid hall
    have H0 := Lib.hid h0
    rw [h0] at HC
    have hn96 : n ≤ 96 := by omega
    clear h0 h96 hall
    go_enter Tryd.func40, Tryd.ntmps40
    go_wp2_with fail
    refine HC.out.mono ?_
    rintro e w1 ⟨rfl, hb1⟩
    clear HC hl
    go_wp2_with fail
    go_loopw [2, 3, 4, 16] (fun va vb vc vi wr => ToI n w va vb vc vi wr) (fun _ _ _ vi _ => n - (intOf vi).toNat)
    case atStart => exact (show ToI _ _ _ _ _ _ _ from ⟨0, 0, 0, 0, by omega, rfl, rfl, rfl, rfl, by omega, by omega, by omega, hb1⟩)
    case round =>
      obtain ⟨t, a, b, c', ht, rfl, rfl, rfl, rfl, ha, hb, hc, hbr⟩ := hrel
      clear hb1
      by_cases hlt : t < n
      · have hti : (t : Int) < (n : Int) := by omega
        obtain ⟨ad, x, rfl, _, hp, c0, c1, c2, c3, c4, c5, c6, c7⟩ := (Hh.out.below hbr).at_ hlt
        have hx := Fn.wag_nums (Hall.out x (List.mem_of_getElem? hp))
        obtain ⟨_, hx2, hx3, _⟩ := Fn.wErr_zero (Hall.out x (List.mem_of_getElem? hp))
        have hx4 := Fn.rangeOk_iff.1 hx3
        have hx5 : 80 ≤ Fn.leastK (Fn.kindN x.nu) := by unfold Fn.leastK; split <;> omega
        have hx6 : 0 ≤ x.ax ∧ x.ax ≤ 6 := by rw [hx2]; unfold Fn.axK; split <;> (try split) <;> omega
        have hx7 : 0 ≤ x.len ∧ x.len ≤ 400 := by omega
        have hx8 : 0 ≤ x.ms ∧ x.ms ≤ 2000 := by omega
        clear hx hx2 hx3 hx4 hx5 hp
        have hb2 := hbr.alloc hbr.size (.cells #[.string x.nu, .int .i64 x.len, .int .i64 x.ax, .int .i64 x.ms, .int .i64 x.br, .int .i64 x.gd, .bool x.gt, .string x.de] 34)
        go_wp2_with fail
        go_roundw
        case rel => exact (show ToI _ _ _ _ _ _ _ from ⟨t + 1, a + x.len, b + x.ms, c' + x.ax, by omega, rfl, rfl, rfl, by go_num, by omega, by omega, by omega, hb2⟩)
        case measure => simp [intOf]; omega
      · obtain rfl : t = n := by omega
        go_wp2_with fail
        try simp only [Exit.inBlock, Exit.then]
        refine bodyPost_ret (results_tmp4 rfl _ _ _) rfl ?_
        exact ⟨⟨_, _, _, by rw [H0.out]; rfl⟩, hbr⟩
def VlI (w : World) (n : Nat) (l : List WG) (vi : Value) (wr : World) : Prop := ∃ t : Nat, t ≤ n ∧ vi = .int .i64 (t : Int) ∧ Hid (Fn.wsErr l = Fn.wsGo (l.drop t) (l.take t)) ∧ Below w.heap.size w wr
def VlK (w1 : World) (t : Nat) (l : List WG) (s : ByteArray) (vk : Value) (wr : World) : Prop := ∃ k : Nat, k ≤ t ∧ vk = .int .i64 (k : Int) ∧ Hid (∀ (j : Nat) (y : WG), j < k → l[j]? = some y → y.nu ≠ s) ∧ Below w1.heap.size w1 wr
set_option maxRecDepth 100000 in
set_option maxHeartbeats 8000000 in
theorem rlist_c (A : Option Addr) (n c : Nat) (l : List WG) (w : World) (hn : n ≤ maxLen) (h : WR w A n l) (hs : ∀ x ∈ l, x.nu.size ≤ maxLen ∧ x.de.size ≤ maxLen) :
    Calls Tryd.prog 42 #[.slice A n c] w fun e w' => e = .returned (.int .i64 (Fn.wsErr l)) ∧ Below w.heap.size w w' := by
  have hl := h.len
  unfold maxLen at hn
  by_cases hbig : 96 < n
  · have d1 : decide ((96 : Int) < (n : Int)) = true := decide_eq_true (by omega)
    have d1' : decide (96 < n) = true := decide_eq_true hbig
    have Hr := Lib.hid (Fn.wsErr_big (l := l) (by omega))
    clear hbig
    go_enter Tryd.func42, Tryd.ntmps42
    go_wp2_with fail
    go_ret
    exact ⟨retv Hr.out.symm, Below.refl _ _⟩
  have d1 : decide ((96 : Int) < (n : Int)) = false := decide_eq_false (by omega)
  have d1' : decide (96 < n) = false := decide_eq_false hbig
  have Hr := Lib.hid (Fn.wsErr_go (l := l) (by omega))
  have Hh := Lib.hid h
  have Hs := Lib.hid hs
  have Hl := Lib.hid hl
  have hn96 : n ≤ 96 := by omega
  clear h hs hl hbig
  go_enter Tryd.func42, Tryd.ntmps42
  go_wp2_with fail
  go_loopw [3] (fun vi wr => VlI w n l vi wr) (fun vi _ => n - (intOf vi).toNat)
  case atStart => exact (show VlI _ _ _ _ _ from ⟨0, by omega, rfl, Lib.hid Hr.out, Below.refl _ _⟩)
  case round =>
    obtain ⟨t, ht, rfl, Hgo, hbr⟩ := hrel
    by_cases hlt : t < n
    · have hti : (t : Int) < (n : Int) := by omega
      obtain ⟨ad, x, rfl, _, hp, c0, c1, c2, c3, c4, c5, c6, c7⟩ := (Hh.out.below hbr).at_ hlt
      obtain ⟨hz1, hz2⟩ := Hs.out x (List.mem_of_getElem? hp)
      have Hp := Lib.hid hp
      have Hst := Lib.hid (Hgo.out.trans (Fn.wsGo_drop hp))
      clear hp Hgo
      have HW := Lib.hid (fun W => rwvalid_c x W hz1 hz2)
      go_wp2_with fail
      refine (HW.out _).mono ?_
      rintro e w2 ⟨rfl, hb2⟩
      have hb2' := below_step hbr hb2
      clear c0 c1 c2 c3 c4 c5 c6 c7 HW hb2
      by_cases he : Fn.wErr x = 0
      case neg =>
        have de : (Fn.wErr x != 0) = true := by simp [he]
        have Hv : Hid (Fn.wsErr l = Fn.wErr x) := Lib.hid (by rw [Hst.out, Fn.fit_bad he, if_pos he])
        clear he
        go_wp2_with fail
        go_ret
        exact ⟨retv Hv.out.symm, hb2'⟩
      case pos =>
        have de : (Fn.wErr x != 0) = false := by simp [he]
        have He := Lib.hid he
        clear he
        go_wp2_with fail
        go_loopw [5] (fun vk wq => VlK w2 t l x.nu vk wq) (fun vk _ => t - (intOf vk).toNat)
        case atStart => exact (show VlK _ _ _ _ _ _ from ⟨0, by omega, rfl, Lib.hid (fun j y hj _ => by omega), Below.refl _ _⟩)
        case round =>
          obtain ⟨k, hk, rfl, Hno, hbq⟩ := hrel
          have hbq' := below_step hb2' hbq
          by_cases hkt : k < t
          · have hki : (k : Int) < (t : Int) := by omega
            have hkn : (k : Int) < (n : Int) := by omega
            obtain ⟨ad2, y, hy, _, hpk, d0, _⟩ := (Hh.out.below hbq').at_ (i := k) (by omega)
            obtain rfl := Option.some.inj hy
            obtain ⟨ad3, x3, hx3, _, hpt, e0, _⟩ := (Hh.out.below hbq').at_ hlt
            obtain rfl := Option.some.inj hx3
            obtain rfl := Option.some.inj (hpt.symm.trans Hp.out)
            have Hpk := Lib.hid hpk
            clear hy hx3 hpt hpk
            by_cases hen : y.nu = x3.nu
            · have eb : (y.nu.toList == x3.nu.toList) = true := by rw [hen]; simp
              have Hv : Hid (Fn.wsErr l = 8) := Lib.hid (by rw [Hst.out, Fn.fit_dup He.out (Fn.named_at Hpk.out hen hkt), if_pos (by decide)])
              clear hen
              go_wp2_with fail
              go_region
              all_goals
                go_wp2_with fail
                go_ret
                exact ⟨retv Hv.out.symm, hbq'.drew⟩
            · have eb : (y.nu.toList == x3.nu.toList) = false := beq_eq_false_iff_ne.2 (fun h => hen (by
                rw [Lib.toList_data, Lib.toList_data] at h
                exact ByteArray.ext (Array.ext' h)))
              have Hno' : Hid (∀ (j : Nat) (z : WG), j < k + 1 → l[j]? = some z → z.nu ≠ x3.nu) := Lib.hid (fun j z hj hz => by
                rcases Nat.lt_or_ge j k with h' | h'
                · exact Hno.out j z h' hz
                · obtain rfl : j = k := by omega
                  obtain rfl := Option.some.inj (Hpk.out.symm.trans hz)
                  exact hen)
              clear hen
              go_wp2_with fail
              go_region
              all_goals
                go_wp2_with fail
                go_roundw
                case rel => exact (show VlK _ _ _ _ _ _ from ⟨k + 1, by omega, by go_num, Hno', hbq.drew⟩)
                case measure => simp [intOf]; omega
          · obtain rfl : k = t := by omega
            have Hv : Hid (Fn.wsErr l = Fn.wsGo (l.drop (k + 1)) (l.take (k + 1))) := Lib.hid (by rw [Hst.out, Fn.fit_ok He.out (Fn.named_no Hno.out), if_neg (by decide)])
            go_wp2_with fail
            go_roundw
            case rel => exact (show VlI _ _ _ _ _ from ⟨k + 1, by omega, by go_num, Hv, hbq'⟩)
            case measure => simp [intOf]; omega
    · obtain rfl : t = n := by omega
      have Hv : Hid (Fn.wsErr l = 0) := Lib.hid (by rw [Hgo.out, List.drop_of_length_le (by rw [Hl.out]; exact Nat.le_refl _)]; rfl)
      go_wp2_with fail
      go_ret
      exact ⟨retv Hv.out.symm, hbr⟩
end Go.Proofs.YtiegpkbollihgaaDoor
