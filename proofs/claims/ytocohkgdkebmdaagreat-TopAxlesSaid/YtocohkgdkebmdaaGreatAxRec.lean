/- Recognizing wagons by exact patterns, plainly. -/
import Derived.Test.YtocohkgdkebmdaaGreatTlN
import Derived.Test.YtocohkgdkebmdaaGreatTlSv
import Derived.Test.YtocohkgdkebmdaaGreatDetPlain
namespace Go.Proofs.YtocohkgdkebmdaaGreat
open Go.RowKit Go.Proofs Go.Shelf Go.Lib Go.Sort
/-- The slice reads as naturals. -/
def NR (w : World) (A : Option Addr) (n : Nat) (L : List Nat) : Prop := Reads w w.heap.size 1 A n (ints64 L)
theorem NR.below {w w' : World} {A : Option Addr} {n : Nat} {L : List Nat} (h : NR w A n L) (hb : Below w.heap.size w w') : NR w' A n L := (Reads.below h hb).more hb.size
theorem NR.len {w : World} {A : Option Addr} {n : Nat} {L : List Nat} (h : NR w A n L) : L.length = n := by have := h.1; simpa [ints64] using this
theorem NR.of_own {w : World} {B e n c : Nat} {A : Option Addr} {L : List Nat} (h : w.ownsRow B e 1 (.slice A n c) n (ints64 L)) : NR w A n L := Reads.of_own h
theorem acheck_c (A B : Option Addr) (n c m d : Nat) (L T : List Nat) (w : World) (hA : NR w A n L) (hB : NR w B m T) (hn : n ≤ 32) (hm : m ≤ 32) (hL : ∀ x, x < n → Tl.kAt L x ≤ 38400) (hT : ∀ t, t < m → 1 ≤ Tl.kAt T t ∧ Tl.kAt T t ≤ 38400) :
    Calls Tryz.prog 75 #[.slice A n c, .slice B m d] w fun e w' => e = .returned (.int .i64 0) ∧ w' = w := by
  have HL := Lib.hid hL
  have HT := Lib.hid hT
  clear hL hT
  have d1 : decide ((32 : Int) < (n : Int)) = false := decide_eq_false (by omega)
  have d2 : decide ((32 : Int) < (m : Int)) = false := decide_eq_false (by omega)
  have d3 : decide (32 < n) = false := decide_eq_false (by omega)
  have d4 : decide (32 < m) = false := decide_eq_false (by omega)
  go_enter Tryz.func75, Tryz.ntmps75
  go_wp2_with fail
  go_loop [4, 19] (fun v p => v = .int .i64 0 ∧ ∃ i : Nat, i ≤ n ∧ p = .int .i64 i) (fun _ p => n - (intOf p).toNat)
  case atStart => exact ⟨rfl, 0, by omega, rfl⟩
  case round =>
    obtain ⟨rfl, i, hi, rfl⟩ := hrel
    by_cases hlt : i < n
    · obtain ⟨ad, rfl, _, ck⟩ := codes_at hA hlt
      have h1 := HL.out i hlt
      obtain ⟨q, hq⟩ : ∃ q, Tl.kAt L i = q := ⟨_, rfl⟩
      rw [hq] at ck h1
      have e1 : decide ((q : Int) < 0) = false := decide_eq_false (by omega)
      have e2 : decide ((38400 : Int) < (q : Int)) = false := decide_eq_false (by omega)
      have e3 : decide (38400 < q) = false := decide_eq_false (by omega)
      clear hq h1
      go_wp2_with fail
      go_round
      case rel => exact ⟨rfl, i + 1, by omega, by go_num⟩
      case measure => simp [intOf]; omega
    · obtain rfl : i = n := by omega
      go_wp2_with fail
      go_loop [4, 32] (fun v p => v = .int .i64 0 ∧ ∃ j : Nat, j ≤ m ∧ p = .int .i64 j) (fun _ p => m - (intOf p).toNat)
      case atStart => exact ⟨rfl, 0, by omega, rfl⟩
      case round =>
        obtain ⟨rfl, j, hj, rfl⟩ := hrel
        by_cases hlt2 : j < m
        · obtain ⟨ad, rfl, _, ck⟩ := codes_at hB hlt2
          have h1 := HT.out j hlt2
          obtain ⟨q, hq⟩ : ∃ q, Tl.kAt T j = q := ⟨_, rfl⟩
          rw [hq] at ck h1
          have e1 : decide ((q : Int) < 1) = false := decide_eq_false (by omega)
          have e1' : decide (q < 1) = false := decide_eq_false (by omega)
          have e2 : decide ((38400 : Int) < (q : Int)) = false := decide_eq_false (by omega)
          have e3 : decide (38400 < q) = false := decide_eq_false (by omega)
          clear hq h1
          go_wp2_with fail
          go_round
          case rel => exact ⟨rfl, j + 1, by omega, by go_num⟩
          case measure => simp [intOf]; omega
        · obtain rfl : j = m := by omega
          go_wp2_with fail
          go_ret
          exact ⟨rfl, rfl⟩
set_option maxHeartbeats 1000000 in
theorem order1_c (lb : Nat) (A : Option Addr) (n c : Nat) (L : List Nat) (W : World) (hL : ∀ x, x < n → Tl.kAt L x ≤ 38400) (hlc : W.cell? ⟨lb, 0, none⟩ = some (.slice A n c)) (h : NR W A n L) (i k : Nat) (hi : i < n) (hk : k < n) :
    Calls Tryz.prog 95 #[.int .i64 i, .int .i64 k, .pointer (some ⟨lb, 0, none⟩)] W fun e w' => e = .returned (.int .i64 ((Tl.kAt L k : Int) - Tl.kAt L i)) ∧ ∃ q, w' = W.drewN q := by
  obtain ⟨ad, rfl, _, c1⟩ := codes_at h hi
  obtain ⟨ad', hea, _, c2⟩ := codes_at h hk
  obtain rfl := Option.some.inj hea
  have b1 := hL i hi
  have b2 := hL k hk
  obtain ⟨x, hx⟩ : ∃ x, Tl.kAt L i = x := ⟨_, rfl⟩
  obtain ⟨y, hy⟩ : ∃ y, Tl.kAt L k = y := ⟨_, rfl⟩
  rw [hx] at c1 b1
  rw [hy] at c2 b2
  rw [hx, hy]
  have hw1 : IntKind.i64.wrap ((y : Int) - (x : Int)) = (y : Int) - (x : Int) := IntWalk.i64_in _ ⟨by omega, by omega⟩
  clear hx hy hea h hL
  go_enter Tryz.func95, Tryz.ntmps95
  go_wp2_with fail
  go_quiet (fail)
  go_wp2_with fail
  go_ret
  exact ⟨rfl, _, rfl⟩
def cfO (L : List Nat) (n : Nat) (x y : Fin n) : Int := (Tl.kAt L y.val : Int) - Tl.kAt L x.val
theorem swoO (L : List Nat) (n : Nat) : Go.Sort.SWO (Go.Proofs.ltOf (cfO L n)) := by
  constructor
  · intro x
    unfold Go.Proofs.ltOf cfO
    simp
  · intro x y z h1 h2
    unfold Go.Proofs.ltOf cfO at h1 h2 ⊢
    rw [decide_eq_true_eq] at h1 h2 ⊢
    omega
  · intro x y z h1 h2
    unfold Go.Proofs.ltOf cfO at h1 h2 ⊢
    rw [decide_eq_false_iff_not] at h1 h2 ⊢
    omega
theorem cmpO (lb g : Nat) (A : Option Addr) (n c : Nat) [Inhabited (Fin n)] (L : List Nat) (w : World) (hL : ∀ x, x < n → Tl.kAt L x ≤ 38400) (hlc : w.cell? ⟨lb, 0, none⟩ = some (.slice A n c)) (hlg : lb ≠ g) (hls : lb < w.heap.size) (h : NR w A n L)
    (hA : ∀ ad, A = some ad → ad.block ≠ g) (size : Nat) :
    Go.Proofs.CmpReads Tryz.prog 95 #[.pointer (some ⟨lb, 0, none⟩)] (encF n) (cfO L n) g 0 size w := by
  intro m os dk hs x y
  refine (order1_c lb A n c L _ hL ?_ ?_ x.val y.val x.isLt y.isLt)
  · rw [sw_other _ _ _ _ _ _ _ hlg hls]; exact hlc
  · refine ⟨h.1, fun hn => ?_⟩
    obtain ⟨ad, e, hb2, hc⟩ := h.2 hn
    refine ⟨ad, e, ?_, fun j u hu => ?_⟩
    · have : w.heap.size ≤ (Go.Proofs.sortWorld (encF n) w g 0 m dk os).heap.size := by
        unfold Go.Proofs.sortWorld
        simp [Go.Sort.size_grow]
      omega
    · rw [sw_other _ _ _ _ _ _ _ (by rw [block_of_add]; exact hA ad e) (by rw [block_of_add]; exact hb2)]
      exact hc j u hu
theorem ins_c (lb g : Nat) (A : Option Addr) (n c cap B : Nat) (L : List Nat) (w : World) (hn0 : 0 < n) (hn : n ≤ 20) (hL : ∀ x, x < n → Tl.kAt L x ≤ 38400) (hlc : w.cell? ⟨lb, 0, none⟩ = some (.slice A n c)) (hlg : lb ≠ g) (hls : lb < w.heap.size)
    (h : NR w A n L) (hA : ∀ ad, A = some ad → ad.block ≠ g) (own : w.ownsRow B 3 1 (.slice (some ⟨g, 0, none⟩) n cap) n (ints64 (List.range n))) :
    Calls Tryz.prog 117 #[.slice (some ⟨g, 0, none⟩) n cap, .int .i64 (0 : Nat), .int .i64 n, .func (.func 95) #[] #[.pointer (some ⟨lb, 0, none⟩)]] w fun e w' => e = .returned (.tuple #[]) ∧
      ∃ o : List Nat, o.Perm (List.range n) ∧ w'.ownsRow B 3 1 (.slice (some ⟨g, 0, none⟩) n cap) n (ints64 o) ∧ w.grownBy w' (some g) := by
  haveI : Inhabited (Fin n) := ⟨⟨0, hn0⟩⟩
  have hH : Go.Sort.Holds (encF n) w g 0 (List.finRange n).toArray := by
    intro j hj
    have hj' : j < n := by simpa using hj
    refine ⟨?_, by rw [Nat.zero_add]; exact own.frozenAt j⟩
    rw [Nat.zero_add, own.cellAt j (by omega), ← finRange_enc]
    simp [hj']
  have eg : ∀ args w, (callFunc 95 args).run Tryz.prog w = .ok (.enter 95 args) w := enters_of Tryz.func95 (by kernel_rfl) rfl
  have hc := Go.Proofs.Any.insertionSortCmpFunc_one { Tryz.sortInt with } (encF n) (fun _ => rfl) (cfO L n) 95 #[.pointer (some ⟨lb, 0, none⟩)] g 0 cap 0 n (List.finRange n).toArray w eg
    (cmpO lb g A n c L w hL hlc hlg hls h hA _) hH (Nat.zero_le _) (by simp) (by simp; omega)
  simp only [List.size_toArray, List.length_finRange] at hc
  refine hc.mono ?_
  rintro e w' ⟨rfl, q, rfl⟩
  have hins := insertionSort_holds (lt := Go.Proofs.ltOf (cfO L n)) (swoO L n) (List.finRange n).toArray 0 n (Nat.zero_le _) (by simp)
  generalize Go.Sort.insertionSort (Go.Proofs.ltOf (cfO L n)) (List.finRange n).toArray 0 n = d' at hins
  obtain ⟨hp, _⟩ := hins
  refine ⟨rfl, d'.toList.map Fin.val, ?_, ?_, grownBy_sortedE d'⟩
  · have hsz : d'.size = n := by simpa using hp.1
    have hpp := hp.2.2
    have e1 : d'.extract 0 n = d' := by
      have := Array.extract_size (xs := d')
      rwa [hsz] at this
    rw [e1] at hpp
    have e2 : ((List.finRange n).toArray.extract 0 n) = (List.finRange n).toArray := by
      have := Array.extract_size (xs := (List.finRange n).toArray)
      rwa [List.size_toArray, List.length_finRange] at this
    rw [e2] at hpp
    have := hpp.map Fin.val
    have e3 : (List.finRange n).map Fin.val = List.range n := List.ext_getElem (by simp) fun i h1 h2 => by simp
    rw [show (List.finRange n).toArray.toList = List.finRange n from rfl, e3] at this
    exact this
  · have hsz : d'.size = n := by simpa using hp.1
    have := own_sortedE (enc := encF n) (n := q) own d' hsz
    have e : ints64 (d'.toList.map Fin.val) = d'.toList.map (encF n) := by simp [ints64, encF]
    rw [e]
    exact this
set_option maxHeartbeats 1000000 in
theorem stable_c (lb g : Nat) (A : Option Addr) (n c cap B : Nat) (L : List Nat) (w : World) (hn0 : 0 < n) (hn : n < 20) (hL : ∀ x, x < n → Tl.kAt L x ≤ 38400) (hlc : w.cell? ⟨lb, 0, none⟩ = some (.slice A n c)) (hlg : lb ≠ g) (hls : lb < w.heap.size)
    (h : NR w A n L) (hA : ∀ ad, A = some ad → ad.block ≠ g) (own : w.ownsRow B 3 1 (.slice (some ⟨g, 0, none⟩) n cap) n (ints64 (List.range n))) :
    Calls Tryz.prog 94 #[.slice (some ⟨g, 0, none⟩) n cap, .func (.func 95) #[] #[.pointer (some ⟨lb, 0, none⟩)]] w fun e w' => e = .returned (.tuple #[]) ∧
      ∃ o : List Nat, o.Perm (List.range n) ∧ w'.ownsRow B 3 1 (.slice (some ⟨g, 0, none⟩) n cap) n (ints64 o) ∧ w.grownBy w' (some g) := by
  have HI := Lib.hid (ins_c lb g A n c cap B L w hn0 (by omega) hL hlc hlg hls h hA own)
  have d1 : decide ((20 : Int) ≤ (n : Int)) = false := decide_eq_false (by omega)
  have d2 : decide (20 ≤ n) = false := decide_eq_false (by omega)
  have d3 : decide ((20 : Int) < (n : Int)) = false := decide_eq_false (by omega)
  have d4 : decide (20 < n) = false := decide_eq_false (by omega)
  clear own h hL hA hlc
  go_enter Tryz.func94, Tryz.ntmps94
  go_wp2_with fail
  refine (show Calls Tryz.prog 103 #[.slice (some ⟨g, 0, none⟩) n cap, .int .i64 n, .func (.func 95) #[] #[.pointer (some ⟨lb, 0, none⟩)]] w (fun e w' => e = .returned (.tuple #[]) ∧
      ∃ o : List Nat, o.Perm (List.range n) ∧ w'.ownsRow B 3 1 (.slice (some ⟨g, 0, none⟩) n cap) n (ints64 o) ∧ w.grownBy w' (some g)) from ?_).mono ?_
  · go_enter Tryz.func103, Tryz.ntmps103
    go_wp2_with fail
    go_loopw [7, 8] (fun p q wr => p = .int .i64 0 ∧ q = .int .i64 20 ∧ wr = w) (fun _ _ _ => 0)
    case atStart => exact ⟨rfl, rfl, rfl⟩
    case round =>
      obtain ⟨rfl, rfl, rfl⟩ := hrel
      go_wp2_with fail
      refine HI.out.mono ?_
      rintro e w2 ⟨rfl, o, ho, own2, hg2⟩
      go_wp2_with fail
      go_loopw [6, 7, 8] (fun v6 p q wr => v6 = .int .i64 20 ∧ p = .int .i64 0 ∧ q = .int .i64 20 ∧ wr = w2) (fun _ _ _ _ => 0)
      case atStart => exact ⟨rfl, rfl, rfl, rfl⟩
      case round =>
        obtain ⟨rfl, rfl, rfl, rfl⟩ := hrel
        go_wp2_with fail
        refine bodyPost_end (results_none rfl _ _ _) rfl ?_
        exact ⟨rfl, o, ho, own2, hg2⟩
  · rintro e w2 ⟨rfl, o, ho, own2, hg2⟩
    go_wp2_with fail
    refine bodyPost_end (results_none rfl _ _ _) rfl ?_
    exact ⟨rfl, o, ho, own2, hg2⟩
/-- The loop of order. -/
def OrA (B n : Nat) (w : World) (v p : Value) (wr : World) : Prop :=
  ∃ i : Nat, i ≤ n ∧ p = .int .i64 i ∧ wr.ownsRow B 3 1 v i (ints64 (List.range i)) ∧ Below w.heap.size w wr
set_option maxHeartbeats 2000000 in
theorem order_c (A : Option Addr) (n c : Nat) (L : List Nat) (w : World) (hn0 : 0 < n) (hn : n < 20) (hL : ∀ x, x < n → 1 ≤ Tl.kAt L x ∧ Tl.kAt L x ≤ 38400) (h : NR w A n L) :
    Calls Tryz.prog 76 #[.slice A n c] w fun e w' => ∃ (v : Value) (o : List Nat), e = .returned v ∧ o.Perm (List.range n) ∧ w'.ownsRow w.heap.size 3 1 v n (ints64 o) ∧ Below w.heap.size w w' := by
  obtain ⟨W0, hW0⟩ : ∃ W0, w.alloc (.cells #[.slice A n c] 22) = W0 := ⟨_, rfl⟩
  have hB1 : Blk W0 w.heap.size 22 #[.slice A n c] := by rw [← hW0]; exact Blk.new w _ _
  have hb0 : Below w.heap.size w W0 := by rw [← hW0]; exact (Below.refl _ _).alloc (Nat.le_refl _) _
  have hsz0 : W0.heap.size = w.heap.size + 1 := by rw [← hW0]; simp
  have h0 := h.below hb0
  have j0 := hB1.cell 0
  simp at j0
  have HL := Lib.hid hL
  obtain ⟨ad0, hA0, hadb, _⟩ := codes_at h hn0
  subst hA0
  clear hL hB1 h
  go_enter Tryz.func76, Tryz.ntmps76
  go_wp2_with fail
  clear hW0
  go_loopw [3, 8] (fun v p wr => OrA W0.heap.size n W0 v p wr) (fun _ p _ => n - (intOf p).toNat)
  case atStart => exact (show OrA _ _ _ _ _ _ from ⟨0, by omega, rfl, World.ownsRow_nil _ _ _ _, Below.refl _ _⟩)
  case round =>
    obtain ⟨i, hi, rfl, own, hbr⟩ := hrel
    by_cases hlt : i < n
    · obtain ⟨ad, hea, _, ck⟩ := codes_at (h0.below hbr) hlt
      obtain rfl := Option.some.inj hea
      have h1 := HL.out i hlt
      obtain ⟨q, hq⟩ : ∃ q, Tl.kAt L i = q := ⟨_, rfl⟩
      rw [hq] at ck h1
      have hq0 : (0 : Int) < (q : Int) := by omega
      clear hq hea
      go_wp2_with (at_builtin; refine wpList_push sl_int rfl (.tmp 15) (.tmp 17) rfl W0.heap.size _ _ _ rfl own 1 1 rfl rfl rfl (by simp only [maxLen]; omega) (by omega) hbr.size ?_; intro v6 w6 own6 hgr6)
      have own7 : w6.ownsRow W0.heap.size 3 1 v6 (i + 1) (ints64 (List.range (i + 1))) := by
        rw [List.range_succ]
        simpa [ints64] using own6
      have hbr7 := hbr.trans (hgr6.below (own_ge own) hbr.size)
      clear own own6 hgr6
      go_wp2_with fail
      go_roundw
      case rel => exact (show OrA _ _ _ _ _ _ from ⟨i + 1, by omega, by go_num, own7, hbr7⟩)
      case measure => simp [intOf]; omega
    · obtain rfl : i = n := by omega
      obtain ⟨g, cap, hv, hg, _⟩ := own.form hn0
      subst hv
      have j1 := keep_cell hbr j0
      have hwr : W0.heap.size ≤ wr.heap.size := hbr.size
      have HS := Lib.hid (stable_c w.heap.size g (some ad0) i c cap W0.heap.size L wr hn0 hn (fun x hx => (HL.out x hx).2) j1 (by omega) (by omega) (h0.below hbr) (fun ad e => by cases e; omega) own)
      have hbw := hb0.trans (hbr.mono (by omega))
      clear own
      go_wp2_with fail
      refine HS.out.mono ?_
      rintro e w3 ⟨rfl, o, ho, own3, hg3⟩
      have hE : ∃ (v : Value) (o : List Nat), Ending.returned (.slice (some ⟨g, 0, none⟩) i cap) = .returned v ∧ o.Perm (List.range i) ∧ w3.ownsRow w.heap.size 3 1 v i (ints64 o) ∧ Below w.heap.size w w3 :=
        ⟨_, o, rfl, ho, own_more own3 (by omega), hbw.trans ((Below.refl _ _).grown hg3 (by omega) (fun b e => by have := Option.some.inj e; omega))⟩
      clear own3 hg3 ho
      go_wp2_with fail
      go_ret
      exact hE
end Go.Proofs.YtocohkgdkebmdaaGreat
namespace Go.Proofs.YtocohkgdkebmdaaGreat
namespace Ax
/-- A pattern stands at a place of the distances. -/
def Mt (d p : List Nat) (x : Nat) : Prop := p.length ≤ d.length - x ∧ ∀ i, i < p.length → d.getD (x + i) 0 = p.getD i 0
/-- The table of costs and choices from a place on. -/
structure Dp (d : List Nat) (P : List (List Nat)) (a : Nat) (C H : List Int) : Prop where
  lc : C.length = d.length + 2
  lh : H.length = d.length + 2
  zero : C.getD (d.length + 1) 0 = 0
  sound : ∀ x, a ≤ x → x ≤ d.length → C.getD x 0 = -1 ∨ (C.getD x 0 = 0 ∧ ∃ i, i < P.length ∧ H.getD x 0 = (i : Int) ∧ x + (P.getD i []).length + 1 ≤ d.length + 1 ∧ C.getD (x + (P.getD i []).length + 1) 0 = 0)
  compl : ∀ x, a ≤ x → x ≤ d.length → ∀ i, i < P.length → Mt d (P.getD i []) x → C.getD (x + (P.getD i []).length + 1) 0 = 0 → C.getD x 0 = 0
/-- One place under way: the first so many patterns are tried. -/
def At (d : List Nat) (P : List (List Nat)) (a i : Nat) (C : List Int) (cv hv : Int) : Prop :=
  (cv = -1 ∧ hv = -1 ∧ ∀ k, k < i → k < P.length → Mt d (P.getD k []) a → C.getD (a + (P.getD k []).length + 1) 0 ≠ 0) ∨
  (cv = 0 ∧ ∃ k, k < P.length ∧ hv = (k : Int) ∧ a + (P.getD k []).length + 1 ≤ d.length + 1 ∧ C.getD (a + (P.getD k []).length + 1) 0 = 0)
theorem At.start (d : List Nat) (P : List (List Nat)) (a : Nat) (C : List Int) : At d P a 0 C (-1) (-1) := .inl ⟨rfl, rfl, fun _ h => absurd h (Nat.not_lt_zero _)⟩
/-- A pattern that does not serve. -/
theorem At.skip {d : List Nat} {P : List (List Nat)} {a i : Nat} {C : List Int} {cv hv : Int} (h : At d P a i C cv hv) (hn : Mt d (P.getD i []) a → C.getD (a + (P.getD i []).length + 1) 0 ≠ 0) : At d P a (i + 1) C cv hv := by
  rcases h with ⟨h1, h2, h3⟩ | h
  · refine .inl ⟨h1, h2, fun k hk hP hm => ?_⟩
    by_cases e : k = i
    · subst e; exact hn hm
    · exact h3 k (by omega) hP hm
  · exact .inr h
/-- A pattern that serves. -/
theorem At.take {d : List Nat} {P : List (List Nat)} {a i : Nat} {C : List Int} (hi : i < P.length) (ha : a ≤ d.length) (hm : Mt d (P.getD i []) a) (hc : C.getD (a + (P.getD i []).length + 1) 0 = 0) : At d P a (i + 1) C 0 (i : Int) :=
  .inr ⟨rfl, i, hi, rfl, by have := hm.1; omega, hc⟩
theorem At.done {d : List Nat} {P : List (List Nat)} {a i : Nat} {C : List Int} (h : At d P a i C 0 0) : At d P a (i + 1) C 0 0 := by
  rcases h with ⟨h1, _⟩ | h
  · omega
  · exact .inr h
theorem getD_set_eq {l : List Int} {i : Nat} {v : Int} (h : i < l.length) : (l.set i v).getD i 0 = v := by
  rw [List.getD_eq_getElem?_getD, List.getElem?_set_self h]; rfl
theorem getD_set_ne {l : List Int} {i j : Nat} {v : Int} (h : i ≠ j) : (l.set i v).getD j 0 = l.getD j 0 := by
  rw [List.getD_eq_getElem?_getD, List.getElem?_set_ne h, List.getD_eq_getElem?_getD]
/-- A place is done. -/
theorem Dp.next {d : List Nat} {P : List (List Nat)} {a : Nat} {C H : List Int} {cv hv : Int} (h : Dp d P (a + 1) C H) (ha : a ≤ d.length) (hA : At d P a P.length C cv hv) : Dp d P a (C.set a cv) (H.set a hv) := by
  have lc := h.lc
  have lh := h.lh
  refine ⟨by simpa using lc, by simpa using lh, by rw [getD_set_ne (by omega)]; exact h.zero, fun x hx hd => ?_, fun x hx hd i hi hm hc => ?_⟩
  · by_cases e : a = x
    · subst e
      rw [getD_set_eq (by omega), getD_set_eq (by omega)]
      rcases hA with ⟨h1, _⟩ | ⟨h1, k, h2, h3, h4, h5⟩
      · exact .inl h1
      · exact .inr ⟨h1, k, h2, h3, h4, by rw [getD_set_ne (by omega)]; exact h5⟩
    · rw [getD_set_ne e, getD_set_ne e]
      rcases h.sound x (by omega) hd with h1 | ⟨h1, k, h2, h3, h4, h5⟩
      · exact .inl h1
      · exact .inr ⟨h1, k, h2, h3, h4, by rw [getD_set_ne (by omega)]; exact h5⟩
  · rw [getD_set_ne (by omega)] at hc
    by_cases e : a = x
    · subst e
      rw [getD_set_eq (by omega)]
      rcases hA with ⟨_, _, h3⟩ | ⟨h1, _⟩
      · exact absurd hc (h3 i hi hi hm)
      · exact h1
    · rw [getD_set_ne e]
      exact h.compl x (by omega) hd i hi hm hc
theorem Dp.first {d : List Nat} {P : List (List Nat)} : Dp d P (d.length + 1) (List.replicate (d.length + 2) 0) (List.replicate (d.length + 2) 0) := by
  refine ⟨by simp, by simp, ?_, fun x h1 h2 => absurd h2 (by omega), fun x h1 h2 => absurd h2 (by omega)⟩
  rw [List.getD_eq_getElem?_getD, List.getElem?_replicate]
  split <;> rfl
/-- A train is recognized by its own patterns. -/
theorem Dp.made {W : List W2} (hW : W ≠ []) {C H : List Int} (h : Dp (diffs (pos 0 W)) (W.map pat) 0 C H) : C.getD 0 0 = 0 := by
  have hd := diffs_len (pos 0 W)
  have hp : 2 ≤ (pos 0 W).length := by
    cases W with
    | nil => exact absurd rfl hW
    | cons w r => have := (offs_len w).1; rw [pos, List.length_append, List.length_map]; omega
  have key : ∀ n, n ≤ W.length → C.getD (start W (W.length - n)) 0 = 0 := by
    intro n
    induction n with
    | zero =>
      intro _
      rw [Nat.sub_zero, start_end, show (pos 0 W).length = (diffs (pos 0 W)).length + 1 by omega]
      exact h.zero
    | succ n ih =>
      intro hn
      have hi : W.length - (n + 1) < W.length := by omega
      have ih := ih (by omega)
      rw [show W.length - n = W.length - (n + 1) + 1 by omega] at ih
      obtain ⟨e1, e2, e3⟩ := pat_in W hi
      have hg : (W.map pat).getD (W.length - (n + 1)) [] = pat W[W.length - (n + 1)] := by
        rw [List.getD_eq_getElem?_getD, List.getElem?_map, List.getElem?_eq_getElem hi]; rfl
      refine h.compl _ (Nat.zero_le _) (by omega) (W.length - (n + 1)) (by simpa using hi) ?_ ?_
      · rw [hg]
        exact ⟨by omega, e3⟩
      · rw [hg, ← e1]
        exact ih
  have := key W.length (Nat.le_refl _)
  rwa [Nat.sub_self, start_zero] at this
end Ax
end Go.Proofs.YtocohkgdkebmdaaGreat
