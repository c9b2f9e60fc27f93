/- The walk of assign.Match, where all tracks are alike and long enough. -/
import Derived.Test.YtocohkgdkebmdaaGreatAxRec
namespace Go.Proofs.YtocohkgdkebmdaaGreat
open Go.RowKit
namespace Tl
theorem count_set (sb : List Bool) (b : Nat) : (sb.set b true).count true ≤ sb.count true + 1 := by
  induction sb generalizing b with
  | nil => simp
  | cons a r ih =>
    cases b with
    | zero =>
      rw [List.set_cons_zero]
      cases a <;> simp <;> omega
    | succ b =>
      rw [List.set_cons_succ]
      have := ih b
      cases a <;> simp <;> omega
theorem count_all {sb : List Bool} (h : ∀ t, t < sb.length → sb.getD t false = true) : sb.count true = sb.length := by
  rw [List.count_eq_length]
  intro x hx
  obtain ⟨t, ht, e⟩ := List.getElem_of_mem hx
  have := h t ht
  rw [List.getD_eq_getElem?_getD, List.getElem?_eq_getElem ht, e] at this
  simpa using this.symm
end Tl
theorem ownB_cell {w : World} {B e n g cap j : Nat} {l : List Bool} (h : w.ownsRow B e 1 (.slice (some ⟨g, 0, none⟩) n cap) n (l.map Value.bool)) (hj : j < n) : w.cell? ⟨g, j, none⟩ = some (.bool (l.getD j false)) := by
  have hl : l.length = n := by have := h.1; simpa using this
  rw [h.cellAt j (by omega), List.getElem?_map, List.getElem?_eq_getElem (by omega), List.getD_eq_getElem?_getD, List.getElem?_eq_getElem (by omega)]
  rfl
theorem ownB_set {w : World} {B e n g cap j : Nat} {l : List Bool} (h : w.ownsRow B e 1 (.slice (some ⟨g, 0, none⟩) n cap) n (l.map Value.bool)) (x : Bool) : (w.setCell ⟨g, j, none⟩ (.bool x)).ownsRow B e 1 (.slice (some ⟨g, 0, none⟩) n cap) n ((l.set j x).map Value.bool) := by
  have := (h.stored j (.bool x)).1
  rwa [List.map_set]
/-- The first loop. -/
def MtF (B g n : Nat) (w : World) (p : Value) (wr : World) : Prop :=
  ∃ (i : Nat) (lv : List Int), i ≤ n ∧ p = .int .i64 i ∧ wr.ownsRow B 3 1 (.slice (some ⟨g, 0, none⟩) n n) n (lv.map (Value.int .i64)) ∧ Below B w wr
/-- The loop over the loads. -/
def MtA (B g gt go n m : Nat) (vo : Value) (o : List Nat) (w : World) (v4 v5 v6 p : Value) (wr : World) : Prop :=
  v4 = .slice (some ⟨g, 0, none⟩) n n ∧ v5 = .slice none 0 0 ∧ v6 = .int .i64 0 ∧
  ∃ (i : Nat) (lv : List Int) (sb : List Bool), i ≤ n ∧ p = .int .i64 i ∧ wr.ownsRow B 3 1 (.slice (some ⟨g, 0, none⟩) n n) n (lv.map (Value.int .i64)) ∧
    wr.ownsRow B 4 1 (.slice (some ⟨gt, 0, none⟩) m m) m (sb.map Value.bool) ∧ wr.ownsRow go 3 1 vo n (ints64 o) ∧ Hid (sb.count true ≤ i) ∧ Below B w wr
/-- The loop over the tracks. -/
def MtB (m : Nat) (sb : List Bool) (W : World) (v13 p : Value) (wr : World) : Prop :=
  wr = W ∧ ∃ t : Nat, t ≤ m ∧ p = .int .i64 t ∧ ((v13 = .int .i64 (-1) ∧ Hid (∀ s, s < t → sb.getD s false = true)) ∨ ∃ b : Nat, v13 = .int .i64 b ∧ b < t ∧ Hid (sb.getD b false = false))
set_option maxRecDepth 100000 in
set_option maxHeartbeats 4000000 in
theorem match_c (A B : Option Addr) (n c m d q : Nat) (L T : List Nat) (w : World) (hA : NR w A n L) (hB : NR w B m T) (hn0 : 0 < n) (hn : n < 20) (hm : m ≤ 32) (hnm : n ≤ m) (hL : ∀ x, x < n → 1 ≤ Tl.kAt L x ∧ Tl.kAt L x ≤ q) (hT : ∀ t, t < m → Tl.kAt T t = q) (hq : q ≤ 38400) :
    Calls Tryz.prog 60 #[.slice A n c, .slice B m d] w fun e w' => ∃ (g : Nat) (lv : List Int), e = .returned (.tuple #[.slice (some ⟨g, 0, none⟩) n n, nilS, .int .i64 0]) ∧ w'.ownsRow w.heap.size 3 1 (.slice (some ⟨g, 0, none⟩) n n) n (lv.map (Value.int .i64)) ∧ Below w.heap.size w w' := by
  have hq1 : 1 ≤ q := by have := hL 0 hn0; omega
  have HC := Lib.hid (acheck_c A B n c m d L T w hA hB (by omega) hm (fun x hx => by have := hL x hx; omega) (fun t ht => by rw [hT t ht]; omega))
  have HL := Lib.hid hL
  have HT := Lib.hid hT
  clear hL hT
  obtain ⟨b0, hb0E⟩ : ∃ b0, w.heap.size = b0 := ⟨_, rfl⟩
  go_enter Tryz.func60, Tryz.ntmps60
  go_wp2_with (first
    | (go_at_call 75; (with_reducible refine HC.out.mono ?_); rintro e w1 ⟨rfl, rfl⟩)
    | (at_make; refine wpList_mkn mk_intR rfl rfl _ _ rfl w1.heap.size _ _ _ _ n rfl rfl rfl rfl (by omega) (by simp only [maxLen]; omega) (Nat.le_refl _) ?_; intro w2 own2 hb2))
  rw [hb0E] at own2 hb2
  have own2' : w2.ownsRow b0 3 1 (.slice (some ⟨b0, 0, none⟩) n n) n ((List.replicate n (0 : Int)).map (Value.int .i64)) := by rw [List.map_replicate]; exact own2
  have hlt2 : b0 < w2.heap.size := (own2.lt b0 rfl).2
  clear own2 HC
  go_loopw [27] (fun p wr => MtF b0 b0 n w1 p wr) (fun p _ => n - (intOf p).toNat)
  case atStart => exact (show MtF _ _ _ _ _ _ from ⟨0, _, by omega, rfl, own2', hb2⟩)
  case round =>
    clear own2' hb2
    obtain ⟨i, lv, hi, rfl, own, hbr⟩ := hrel
    by_cases hlt : i < n
    · have ci := own_cell own (j := i) hlt
      have zi := own.frozenAt i
      have own5 := own_set own (j := i) (-1)
      have hbr5 := hbr.setCell (p := ⟨b0, i, none⟩) (Nat.le_refl _) (.int .i64 (-1))
      obtain ⟨x, hx⟩ : ∃ x, lv.getD i 0 = x := ⟨_, rfl⟩
      rw [hx] at ci
      clear own hbr hx
      go_wp2_with fail
      go_roundw
      case rel => exact (show MtF _ _ _ _ _ _ from ⟨i + 1, _, by omega, by go_num, own5, hbr5⟩)
      case measure => simp [intOf]; omega
    · obtain rfl : i = n := by omega
      have hwr : b0 ≤ wr.heap.size := by rw [← hb0E]; rw [← hb0E] at hbr; exact hbr.size
      go_wp2_with (at_make; refine wpList_mkn mk_bools rfl rfl _ _ rfl b0 _ _ _ _ m rfl rfl rfl rfl (by omega) (by simp only [maxLen]; omega) hwr ?_; intro w3 own3 hb3)
      have hbr3 := hbr.trans (hb3.mono hwr)
      have ownl := own_below own hb3
      have hgt : wr.heap.size < w3.heap.size := (own3.lt wr.heap.size rfl).2
      have hgl : b0 < wr.heap.size := (own.lt b0 rfl).2
      obtain ⟨gt, hgtE⟩ : ∃ gt, wr.heap.size = gt := ⟨_, rfl⟩
      simp only [hgtE]
      rw [hgtE] at own3 hgt hgl
      have hA3 : NR w3 A i L := by rw [← hb0E] at hbr3; exact NR.below hA hbr3
      have HO := Lib.hid (order_c A i c L w3 hn0 hn (fun x hx => by have := HL.out x hx; omega) hA3)
      have own3' : w3.ownsRow b0 4 1 (.slice (some ⟨gt, 0, none⟩) m m) m ((List.replicate m false).map Value.bool) := by rw [List.map_replicate]; exact own3
      clear own own3 hb3 hbr hA3
      refine HO.out.mono ?_
      rintro e w4 ⟨vo, o, rfl, hperm, owno, hb4⟩
      have own4 := own_below own3' hb4
      have ownl4 := own_below ownl hb4
      have hbr4 := hbr3.trans (hb4.mono (by omega))
      have hmem : ∀ x ∈ o, x < i := fun x hx => by simpa using (hperm.mem_iff).1 hx
      have hol : o.length = i := by have := hperm.length_eq; simpa using this
      have Hmem := Lib.hid hmem
      obtain ⟨Ao, co, rfl, _, _⟩ := own_form owno
      have hgo := own_ge owno
      obtain ⟨gb, hgb⟩ : ∃ gb, w3.heap.size = gb := ⟨_, rfl⟩
      rw [hgb] at owno hgt hgo
      clear own3' ownl hperm hb4 hbr3 hmem HO
      go_wp2_with fail
      go_loopw [4, 5, 6, 41] (fun v4 v5 v6 p wr => MtA b0 b0 gt gb i m (.slice Ao i co) o w1 v4 v5 v6 p wr) (fun _ _ _ p _ => i - (intOf p).toNat)
      case atStart => exact (show MtA _ _ _ _ _ _ _ _ _ _ _ _ _ _ from ⟨rfl, rfl, rfl, 0, _, _, by omega, rfl, ownl4, own4, owno, Lib.hid (by simp [List.count_replicate]), hbr4⟩)
      case round =>
        clear ownl4 own4 owno hbr4
        obtain ⟨rfl, rfl, rfl, k, lv2, sb, hk, rfl, ownl, ownt, owno, Hcnt, hbr⟩ := hrel
        have hsl : sb.length = m := by have := ownt.1; simpa using this
        have hbr' := hbr
        rw [← hb0E] at hbr'
        by_cases hlk : k < i
        · obtain ⟨x, hx⟩ : ∃ x, o.getD k 0 = x := ⟨_, rfl⟩
          have hxi : x < i := Hmem.out x (by rw [← hx]; exact getD_mem0 (by omega))
          obtain ⟨ao, hao, _, ko⟩ := codes_at (NR.of_own owno) hlk
          have hkx : Tl.kAt o k = x := hx
          rw [hkx] at ko
          subst hao
          obtain ⟨al, hal, _, kl⟩ := codes_at (NR.below hA hbr') hxi
          subst hal
          have hlx := HL.out x hxi
          obtain ⟨lx, hlxE⟩ : ∃ lx, Tl.kAt L x = lx := ⟨_, rfl⟩
          rw [hlxE] at kl hlx
          clear hx hkx hlxE
          go_wp2_with fail
          go_loopw [13, 48] (fun v13 p wr2 => MtB m sb wr v13 p wr2) (fun _ p _ => m - (intOf p).toNat)
          case atStart => exact (show MtB _ _ _ _ _ _ from ⟨rfl, 0, by omega, rfl, .inl ⟨rfl, Lib.hid fun s hs => absurd hs (Nat.not_lt_zero _)⟩⟩)
          case round =>
            obtain ⟨rfl, t, ht, rfl, hbest⟩ := hrel
            by_cases hlt : t < m
            · have ct := ownB_cell ownt (j := t) hlt
              obtain ⟨at', hat, _, kt⟩ := codes_at (NR.below hB hbr') hlt
              subst hat
              rw [HT.out t hlt] at kt
              obtain ⟨bt, hbt⟩ : ∃ bt, sb.getD t false = bt := ⟨_, rfl⟩
              rw [hbt] at ct
              have Hbt := Lib.hid hbt
              have hge1 : decide ((lx : Int) ≤ (q : Int)) = true := decide_eq_true (by omega)
              have hge2 : decide (lx ≤ q) = true := decide_eq_true (by omega)
              clear hbt
              cases bt with
              | true =>
                rcases hbest with ⟨rfl, Hno⟩ | ⟨b, rfl, hbt2, Hb⟩
                · clear ownl ownt owno
                  go_wp2_with fail
                  go_roundw
                  case rel => exact (show MtB _ _ _ _ _ _ from ⟨rfl, t + 1, by omega, by go_num, .inl ⟨rfl, Lib.hid fun s hs => by
                    by_cases e : s = t
                    · subst e; exact Hbt.out
                    · exact Hno.out s (by omega)⟩⟩)
                  case measure => simp [intOf]; omega
                · clear ownl ownt owno
                  go_wp2_with fail
                  go_roundw
                  case rel => exact (show MtB _ _ _ _ _ _ from ⟨rfl, t + 1, by omega, by go_num, .inr ⟨b, rfl, by omega, Hb⟩⟩)
                  case measure => simp [intOf]; omega
              | false =>
                rcases hbest with ⟨rfl, Hno⟩ | ⟨b, rfl, hbt2, Hb⟩
                · clear ownl ownt owno
                  go_wp2_with fail
                  go_roundw
                  case rel => exact (show MtB _ _ _ _ _ _ from ⟨rfl, t + 1, by omega, by go_num, .inr ⟨t, rfl, by omega, Hbt⟩⟩)
                  case measure => simp [intOf]; omega
                · obtain ⟨at2, hat2, _, kb⟩ := codes_at (NR.below hB hbr') (show b < m by omega)
                  obtain rfl := Option.some.inj hat2
                  rw [HT.out b (by omega)] at kb
                  have hbm : (b : Int) < (m : Int) := by omega
                  have hb0' : decide ((b : Int) < 0) = false := decide_eq_false (by omega)
                  clear ownl ownt owno hat2
                  go_wp2_with fail
                  go_roundw
                  case rel => exact (show MtB _ _ _ _ _ _ from ⟨rfl, t + 1, by omega, by go_num, .inr ⟨b, rfl, by omega, Hb⟩⟩)
                  case measure => simp [intOf]; omega
            · obtain rfl : t = m := by omega
              rcases hbest with ⟨rfl, Hno⟩ | ⟨b, rfl, hbt2, Hb⟩
              · exfalso
                have h5 := Tl.count_all (sb := sb) (fun s hs => Hno.out s (by omega))
                have := Hcnt.out
                omega
              · have hb0' : decide ((b : Int) < 0) = false := decide_eq_false (by omega)
                have hbm : (b : Int) < (t : Int) := by omega
                have ctb := ownB_cell ownt (j := b) hbt2
                have ztb := ownt.frozenAt b
                have clx := own_cell ownl (j := x) hxi
                have zlx := ownl.frozenAt x
                have ownt5 := ownB_set ownt (j := b) true
                have ownl5 := own_set_other (j := b) ownl (show (Value.slice (some ⟨b0, 0, none⟩) i i).ownBlock ≠ some gt from by simp [Value.ownBlock]; omega) (.bool true)
                have owno5 := own_set_other (j := b) owno (fun e => by have := own_ge owno gt e; omega) (.bool true)
                have ownl6 := own_set ownl5 (j := x) (b : Int)
                have ownt6 := own_set_other (j := x) ownt5 (show (Value.slice (some ⟨gt, 0, none⟩) t t).ownBlock ≠ some b0 from by simp [Value.ownBlock]; omega) (.int .i64 (b : Int))
                have owno6 := own_set_other (j := x) owno5 (fun e => by have := own_ge owno b0 e; omega) (.int .i64 (b : Int))
                have hbr6 := (hbr.setCell (p := ⟨gt, b, none⟩) (show b0 ≤ gt by omega) (.bool true)).setCell (p := ⟨b0, x, none⟩) (Nat.le_refl _) (.int .i64 (b : Int))
                have clx5 := own_cell ownl5 (j := x) hxi
                have zlx5 := ownl5.frozenAt x
                have Hcnt2 : Hid ((sb.set b true).count true ≤ k + 1) := Lib.hid (Nat.le_trans (Tl.count_set sb b) (by have := Hcnt.out; omega))
                obtain ⟨y, hy⟩ : ∃ y, lv2.getD x 0 = y := ⟨_, rfl⟩
                rw [hy] at clx clx5
                obtain ⟨z, hz⟩ : ∃ z, sb.getD b false = z := ⟨_, rfl⟩
                rw [hz] at ctb
                clear ownl ownt owno ownl5 ownt5 owno5 hbr hbr' Hcnt hy hz
                go_wp2_with fail
                go_roundw
                case rel => exact (show MtA _ _ _ _ _ _ _ _ _ _ _ _ _ _ from ⟨rfl, rfl, rfl, k + 1, _, _, by omega, by go_num, ownl6, ownt6, owno6, Hcnt2, hbr6⟩)
                case measure => simp [intOf]; omega
        · obtain rfl : k = i := by omega
          go_wp2_with fail
          go_ret3
          exact ⟨_, lv2, rfl, by rw [hb0E]; exact ownl, by rw [hb0E]; exact hbr⟩
end Go.Proofs.YtocohkgdkebmdaaGreat
