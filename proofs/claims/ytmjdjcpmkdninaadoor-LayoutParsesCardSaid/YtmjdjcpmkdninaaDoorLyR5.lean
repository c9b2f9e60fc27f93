/- The walk of the reference's Format of a layout. -/
import Derived.Test.YtmjdjcpmkdninaaDoorLyR4
import Derived.Test.YtmjdjcpmkdninaaDoorLyF2
import Derived.Deep.RegionHeld3
import Derived.Test.YtmjdjcpmkdninaaDoorReg3
namespace Go.Proofs.YtmjdjcpmkdninaaDoor
open Go.RowKit
def kindCells : Array Value := #[.string ⟨#[99, 114, 101, 115, 116]⟩, .string ⟨#[115, 101, 103, 109, 101, 110, 116]⟩, .string ⟨#[114, 101, 116, 97, 114, 100, 101, 114]⟩, .string ⟨#[115, 119, 105, 116, 99, 104]⟩, .string ⟨#[116, 114, 97, 99, 107]⟩]
theorem kinds_c (W : World) : Calls Tryd.prog 40 #[] W fun e w' => e = .returned (.slice (some ⟨W.heap.size, 0, none⟩) 5 5) ∧ w' = W.alloc (.cells kindCells 9) := by
  go_enter Tryd.func40, Tryd.ntmps40
  go_wp2_with fail
  go_ret
  exact ⟨rfl, rfl⟩
theorem kind_cell {W : World} {g : Nat} {t : TypeId} (h : Blk W g t kindCells) {k : Int} (hk : 0 ≤ k ∧ k ≤ 4) : W.cell? ⟨g, k.toNat, none⟩ = some (.string (baOf (Ly.kindW k))) := by
  rcases Ly.kind_cases hk with rfl | rfl | rfl | rfl | rfl <;> (rw [h.cell]; rfl)
/-- kinds, with one of its words. -/
theorem kindsK_c (k : Int) (hk : 0 ≤ k ∧ k ≤ 4) (W : World) : Calls Tryd.prog 40 #[] W fun e w' => ∃ g, e = .returned (.slice (some ⟨g, 0, none⟩) 5 5) ∧ w'.cell? ⟨g, k.toNat, none⟩ = some (.string (baOf (Ly.kindW k))) ∧ Below W.heap.size W w' := by
  refine (kinds_c W).mono ?_
  rintro e w' ⟨rfl, rfl⟩
  exact ⟨_, rfl, kind_cell (Blk.new W _ _) hk, (Below.refl _ _).alloc (Nat.le_refl _) _⟩
def LEc (x : LE) : Array Value := #[.int .i64 x.k, .string x.nm, .int .i64 x.p, .int .i64 x.sd, .int .i64 x.len, .int .i64 x.g, .int .i64 x.c, .int .i64 x.pw]
def RFS (w wr : World) (x : LE) (W : World) : Prop := Blk W wr.heap.size 48 (LEc x) ∧ Below w.heap.size w W
theorem RFS.below {w wr W W' : World} {x : LE} (h : RFS w wr x W) (hb : Below W.heap.size W W') : RFS w wr x W' := ⟨h.1.below hb h.1.lt, below_step h.2 hb⟩
namespace Ly
theorem fin0 {l : List LE} {i : Nat} {x : LE} {P : ByteArray} (hP : baOf (preF l i) = P) (hx : l[i]? = some x) (h : x.k = 0) : P ++ (baOf (kindW x.k) ++ ⟨#[32]⟩ ++ x.nm) ++ ⟨#[10]⟩ = baOf (preF l (i + 1)) := by
  refine nm_ext ?_
  rw [preF_step hx, body_crest h, ← hP]
  simp [head1, baOf]
theorem fin1 {l : List LE} {i : Nat} {x y : LE} {P : ByteArray} (hP : baOf (preF l i) = P) (hx : l[i]? = some x) (hy : l[x.p.toNat]? = some y) (h : x.k ≠ 0) (h2 : x.k ≠ 2) :
    P ++ (baOf (kindW x.k) ++ ⟨#[32]⟩ ++ x.nm) ++ ((⟨#[32]⟩ : ByteArray) ++ y.nm ++ baOf (sufW x.sd) ++ ⟨#[32]⟩ ++ bOf (Lib.itoa x.len) ++ ⟨#[32]⟩ ++ bOf (Lib.itoa x.g) ++ ⟨#[32]⟩ ++ bOf (Lib.itoa x.c)) ++ ⟨#[10]⟩ = baOf (preF l (i + 1)) := by
  refine nm_ext ?_
  rw [preF_step hx, body_rest h, ← hP]
  simp [head1, head2, nmAt_par hy, nums, h2, sp, baOf, bOf]
theorem fin2 {l : List LE} {i : Nat} {x y : LE} {P : ByteArray} (hP : baOf (preF l i) = P) (hx : l[i]? = some x) (hy : l[x.p.toNat]? = some y) (h2 : x.k = 2) :
    P ++ (baOf (kindW x.k) ++ ⟨#[32]⟩ ++ x.nm) ++ ((⟨#[32]⟩ : ByteArray) ++ y.nm ++ baOf (sufW x.sd) ++ ⟨#[32]⟩ ++ bOf (Lib.itoa x.len) ++ ⟨#[32]⟩ ++ bOf (Lib.itoa x.g) ++ ⟨#[32]⟩ ++ bOf (Lib.itoa x.c)) ++ ((⟨#[32]⟩ : ByteArray) ++ bOf (Lib.itoa x.pw)) ++ ⟨#[10]⟩ = baOf (preF l (i + 1)) := by
  refine nm_ext ?_
  rw [preF_step hx, body_rest (by omega), ← hP]
  simp [head1, head2, nmAt_par hy, nums, h2, sp, baOf, bOf]
theorem suf_cell {W : World} {g : Nat} {t : TypeId} {sd : Int} (hs : 0 ≤ sd ∧ sd ≤ 2) (h : Blk W g t #[.string ⟨#[]⟩, .string ⟨#[58, 108, 101, 102, 116]⟩, .string ⟨#[58, 114, 105, 103, 104, 116]⟩]) : W.cell? ⟨g, sd.toNat, none⟩ = some (.string (baOf (sufW sd))) := by
  have h3 : sd = 0 ∨ sd = 1 ∨ sd = 2 := by omega
  rcases h3 with rfl | rfl | rfl <;> (rw [h.cell]; rfl)
end Ly
def RFm (n : Nat) (l : List LE) (w : World) (vo vi : Value) (wr : World) : Prop := ∃ i : Nat, i ≤ n ∧ vi = .int .i64 (i : Int) ∧ vo = .string (baOf (Ly.preF l i)) ∧ Below w.heap.size w wr
def faS : List (Nat × Nat) := [(24, 1), (26, 3), (27, 4), (28, 5), (29, 6), (31, 8), (32, 9), (33, 10), (5, 11)]
def faPure : List Nat := [0, 2, 7]
def faF (k : Nat) : Nat := match k with
  | 1 => 24
  | 3 => 26
  | 4 => 27
  | 5 => 28
  | 6 => 29
  | 8 => 31
  | 9 => 32
  | 10 => 33
  | 11 => 5
  | _ => 0
def faT (x : LE) (kw k1 k2 k3 : ByteArray) (k : Nat) (v : Value) (W : World) : Prop := match k with
  | 1 => ∃ g, v = .slice (some ⟨g, 0, none⟩) 5 5 ∧ W.cell? ⟨g, x.k.toNat, none⟩ = some (.string kw)
  | 3 => v = .int .i64 x.k
  | 4 => ∃ g, v = .pointer (some ⟨g, x.k.toNat, none⟩) ∧ W.cell? ⟨g, x.k.toNat, none⟩ = some (.string kw)
  | 5 => v = .string kw
  | 6 => v = .string k1
  | 8 => v = .string x.nm
  | 9 => v = .string k2
  | 10 => v = .string k3
  | 11 => v = .string k3
  | _ => True
theorem faT_below (x : LE) (kw k1 k2 k3 : ByteArray) {W W' : World} (hb : Below W.heap.size W W') (k : Nat) (v : Value) (h : faT x kw k1 k2 k3 k v W) : faT x kw k1 k2 k3 k v W' := by
  unfold faT at h ⊢
  split at h
  · obtain ⟨g, h1, h2⟩ := h
    exact ⟨g, h1, keep_cell hb h2⟩
  · exact h
  · obtain ⟨g, h1, h2⟩ := h
    exact ⟨g, h1, keep_cell hb h2⟩
  · exact h
  · exact h
  · exact h
  · exact h
  · exact h
  · exact h
  · trivial
theorem faPureT (x : LE) (kw k1 k2 k3 : ByteArray) : ∀ k, k ∈ faPure → ∀ v W, faT x kw k1 k2 k3 k v W := by
  intro k hk v W
  simp only [faPure, List.mem_cons, List.not_mem_nil, or_false] at hk
  rcases hk with rfl | rfl | rfl <;> exact trivial

def fbS : List (Nat × Nat) := [(39, 3), (40, 4), (41, 5), (42, 6), (43, 7), (44, 8), (46, 10), (47, 11), (48, 12), (49, 13), (50, 14), (52, 16), (53, 17), (54, 18), (55, 19), (57, 21), (58, 22), (59, 23), (60, 24), (62, 26), (63, 27), (64, 28), (65, 29), (5, 30)]
def fbPure : List Nat := [0, 1, 2, 9, 15, 20, 25]
def fbF (k : Nat) : Nat := match k with
  | 3 => 39
  | 4 => 40
  | 5 => 41
  | 6 => 42
  | 7 => 43
  | 8 => 44
  | 10 => 46
  | 11 => 47
  | 12 => 48
  | 13 => 49
  | 14 => 50
  | 16 => 52
  | 17 => 53
  | 18 => 54
  | 19 => 55
  | 21 => 57
  | 22 => 58
  | 23 => 59
  | 24 => 60
  | 26 => 62
  | 27 => 63
  | 28 => 64
  | 29 => 65
  | 30 => 5
  | _ => 0
def fbT (x : LE) (ad : Addr) (ynm suf D1 D2 D3 s7 s13 s14 s18 s19 s23 s24 s28 s29 : ByteArray) (k : Nat) (v : Value) (W : World) : Prop := match k with
  | 3 => v = .int .i64 x.p
  | 4 => v = .pointer (some (ad.add (x.p.toNat * 8)))
  | 5 => v = .pointer (some ⟨(ad.add (x.p.toNat * 8)).block, (ad.add (x.p.toNat * 8)).off + 1, none⟩)
  | 6 => v = .string ynm
  | 7 => v = .string s7
  | 8 => ∃ g, v = .slice (some ⟨g, 0, none⟩) 3 3 ∧ W.cell? ⟨g, x.sd.toNat, none⟩ = some (.string suf)
  | 10 => v = .int .i64 x.sd
  | 11 => ∃ g, v = .pointer (some ⟨g, x.sd.toNat, none⟩) ∧ W.cell? ⟨g, x.sd.toNat, none⟩ = some (.string suf)
  | 12 => v = .string suf
  | 13 => v = .string s13
  | 14 => v = .string s14
  | 16 => v = .int .i64 x.len
  | 17 => v = .string D1
  | 18 => v = .string s18
  | 19 => v = .string s19
  | 21 => v = .int .i64 x.g
  | 22 => v = .string D2
  | 23 => v = .string s23
  | 24 => v = .string s24
  | 26 => v = .int .i64 x.c
  | 27 => v = .string D3
  | 28 => v = .string s28
  | 29 => v = .string s29
  | 30 => v = .string s29
  | _ => True
theorem fbT_below (x : LE) (ad : Addr) (ynm suf D1 D2 D3 s7 s13 s14 s18 s19 s23 s24 s28 s29 : ByteArray) {W W' : World} (hb : Below W.heap.size W W') (k : Nat) (v : Value) (h : fbT x ad ynm suf D1 D2 D3 s7 s13 s14 s18 s19 s23 s24 s28 s29 k v W) : fbT x ad ynm suf D1 D2 D3 s7 s13 s14 s18 s19 s23 s24 s28 s29 k v W' := by
  unfold fbT at h ⊢
  split at h
  · exact h
  · exact h
  · exact h
  · exact h
  · exact h
  · obtain ⟨g, h1, h2⟩ := h
    exact ⟨g, h1, keep_cell hb h2⟩
  · exact h
  · obtain ⟨g, h1, h2⟩ := h
    exact ⟨g, h1, keep_cell hb h2⟩
  · exact h
  · exact h
  · exact h
  · exact h
  · exact h
  · exact h
  · exact h
  · exact h
  · exact h
  · exact h
  · exact h
  · exact h
  · exact h
  · exact h
  · exact h
  · exact h
  · trivial
theorem fbPureT (x : LE) (ad : Addr) (ynm suf D1 D2 D3 s7 s13 s14 s18 s19 s23 s24 s28 s29 : ByteArray) : ∀ k, k ∈ fbPure → ∀ v W, fbT x ad ynm suf D1 D2 D3 s7 s13 s14 s18 s19 s23 s24 s28 s29 k v W := by
  intro k hk v W
  simp only [fbPure, List.mem_cons, List.not_mem_nil, or_false] at hk
  rcases hk with rfl | rfl | rfl | rfl | rfl | rfl | rfl <;> exact trivial

set_option linter.unusedVariables false in
set_option maxRecDepth 100000 in
set_option maxHeartbeats 8000000 in
theorem rlformat_c (A : Option Addr) (n c : Nat) (l : List LE) (w : World) (hn : n ≤ maxLen) (h : LR w A n l) (hs : ∀ x ∈ l, x.nm.size ≤ maxLen) :
    Calls Tryd.prog 21 #[.slice A n c] w (LFormatR l w) := by
  have hmx := hn
  unfold maxLen at hn
  have hl := h.len
  have HV := Lib.hid (rlvalid_c A n c l w hmx h hs)
  clear hs
  by_cases h0 : Ly.vErr l = 0
  · have Hz := Lib.hid h0
    have hz := Ly.vErr_zero h0
    have hn128 : n ≤ 128 := by omega
    have Hfit := Lib.hid hz.2.2.1
    have d3 : (Ly.vErr l != 0) = false := by simp [h0]
    clear h0 hz
    have Hh := Lib.hid h
    clear h
    go_enter Tryd.func21, Tryd.ntmps21
    go_wp2_with fail
    refine HV.out.mono ?_
    rintro e w1 ⟨rfl, hb1⟩
    go_wp2_with fail
    go_loopw [5, 6] (fun vo vi wr => RFm n l w vo vi wr) (fun _ vi _ => n - (intOf vi).toNat)
    case atStart => exact (show RFm _ _ _ _ _ _ from ⟨0, by omega, rfl, rfl, hb1⟩)
    case round =>
      obtain ⟨i, hin, rfl, rfl, hbr⟩ := hrel
      have Hpl := Lib.hid (Ly.preF_len Hfit.out i)
      obtain ⟨P, hP⟩ : ∃ P, baOf (Ly.preF l i) = P := ⟨_, rfl⟩
      have hPs : P.size ≤ 16384 := by rw [← hP, Ly.baOf_size]; have := Hpl.out; omega
      have HP := Lib.hid hP
      rw [hP]
      clear hP
      by_cases hlt : i < n
      · have hlti : (i : Int) < (n : Int) := by omega
        obtain ⟨ad, x, rfl, hba, hp, c0, c1, c2, c3, c4, c5, c6, c7⟩ := (Hh.out.below hbr).at_ (i := i) hlt
        have hsx := Hfit.out.snd hp
        obtain ⟨hk, hcr, hre⟩ := Ly.sound_bd hsx
        have hnz := (Ly.nameOk_size (Ly.sound_nm hsx)).2
        have hX : RFS w wr x (wr.alloc (.cells #[.int .i64 x.k, .string x.nm, .int .i64 x.p, .int .i64 x.sd, .int .i64 x.len, .int .i64 x.g, .int .i64 x.c, .int .i64 x.pw] 48)) := ⟨Blk.new wr _ _, hbr.alloc hbr.size _⟩
        have HK := Lib.hid (fun W => kindsK_c x.k hk W)
        have hks := Ly.kindW_size hk
        have hk0 := hk.1
        have hk5 : x.k < 5 := by omega
        have Hp := Lib.hid hp
        obtain ⟨kw, hkw⟩ : ∃ kw, baOf (Ly.kindW x.k) = kw := ⟨_, rfl⟩
        rw [hkw] at HK hks
        have v0 : (wr.alloc (.cells #[.int .i64 x.k, .string x.nm, .int .i64 x.p, .int .i64 x.sd, .int .i64 x.len, .int .i64 x.g, .int .i64 x.c, .int .i64 x.pw] 48)).cell? ⟨wr.heap.size, 0, none⟩ = some (.int .i64 x.k) := hX.1.cell 0
        have v1 : (wr.alloc (.cells #[.int .i64 x.k, .string x.nm, .int .i64 x.p, .int .i64 x.sd, .int .i64 x.len, .int .i64 x.g, .int .i64 x.c, .int .i64 x.pw] 48)).cell? ⟨wr.heap.size, 1, none⟩ = some (.string x.nm) := hX.1.cell 1
        go_wp2_with fail
        obtain ⟨k1, hk1⟩ : ∃ k1, kw ++ ⟨#[32]⟩ = k1 := ⟨_, rfl⟩
        obtain ⟨k2, hk2⟩ : ∃ k2, k1 ++ x.nm = k2 := ⟨_, rfl⟩
        obtain ⟨k3, hk3⟩ : ∃ k3, P ++ k2 = k3 := ⟨_, rfl⟩
        have z1 : k1.size ≤ 9 := by rw [← hk1, ByteArray.size_append]; have : (⟨#[32]⟩ : ByteArray).size = 1 := rfl; omega
        have z2 : k2.size ≤ 21 := by rw [← hk2, ByteArray.size_append]; omega
        have z3 : k3.size ≤ 16405 := by rw [← hk3, ByteArray.size_append]; omega
        -- REGION9
        refine wp_region_any (by kernel_rfl) ?_
        change wpAny _ _ _ _ _ _ _ (World.drew _)
        refine wpAny_take (i := 0) (v := ?vfa0) rfl (by kernel_rfl) (by kernel_rfl) (by kernel_rfl) (fun _ _ _ h => h) (Or.inl ⟨by rfl, ?yfa0⟩) ?_
        case yfa0 => (intro w; go_simp; with_reducible rfl)
        refine wpAny_take (i := 2) (v := ?vfa2) rfl (by kernel_rfl) (by kernel_rfl) (by kernel_rfl) (fun _ _ _ h => h) (Or.inl ⟨by rfl, ?yfa2⟩) ?_
        case yfa2 => (intro w; go_simp; with_reducible rfl)
        refine wpAny_take (i := 7) (v := ?vfa7) rfl (by kernel_rfl) (by kernel_rfl) (by kernel_rfl) (fun _ _ _ h => h) (Or.inl ⟨by rfl, ?yfa7⟩) ?_
        case yfa7 => (intro w; go_simp; with_reducible rfl)
        refine with_act (φ := fun a => wpAny _ _ _ _ _ _ a _) ?_
        intro a0 ha0
        simp only [Act.put, List.setIfInBounds_toArray, List.set_cons_zero, List.set_cons_succ, List.getElem_toArray, List.getElem_cons_zero, List.getElem_cons_succ] at ha0
        refine wpAny_inv (by kernel_rfl) (fun L a W => RI (fun vs => putL a0 vs faS) (faT x kw k1 k2 k3) (R3 faPure (RFS w wr x)) L a W) ?_ ?_ _ _ _ _ (by kernel_rfl) (by decide +kernel) ?_
        · rintro i L a W hi ⟨vs, rfl, hG, hT⟩
          obtain ⟨h0, hsz, hlt'⟩ := ready_at hi
          have hsz' : i < 12 := hsz
          have hnp : i ∉ faPure := fun h => by rw [hG.pure i h] at h0; cases h0
          have hcs : i = 1 ∨ i = 3 ∨ i = 4 ∨ i = 5 ∨ i = 6 ∨ i = 8 ∨ i = 9 ∨ i = 10 ∨ i = 11 := by
            simp only [faPure, List.mem_cons, List.not_mem_nil, or_false, not_or] at hnp
            omega
          clear hnp hsz hsz' hlt'
          rcases hcs with rfl | rfl | rfl | rfl | rfl | rfl | rfl | rfl | rfl
          · refine step_free rfl rfl (fun K' hK => ?_)
            have HI := Lib.hid hG.inv
            have HT := Lib.hid hT
            have HG := Lib.hid hG
            clear hT hG h0 hi
            subst ha0
            simp only [faS, putL, Act.put, List.setIfInBounds_toArray, List.set_cons_zero, List.set_cons_succ, List.getElem_toArray, List.getElem_cons_zero, List.getElem_cons_succ]
            go_simp
            refine (HK.out _).mono ?_
            rintro e w2 ⟨g2, rfl, hc2, hb2⟩
            go_simp
            refine RI.next (v := .slice (some ⟨g2, 0, none⟩) 5 5) hK HT (faT_below x kw k1 k2 k3 hb2) (HG.out.same 1 (HI.out.below hb2)) (show faT x kw k1 k2 k3 1 _ _ from ⟨g2, rfl, hc2⟩) ?_
            simp only [faS, putL, Act.put, List.setIfInBounds_toArray, List.set_cons_zero, List.set_cons_succ]
            rfl
          · have hc1 : W.cell? ⟨wr.heap.size, 0, none⟩ = some (.int .i64 x.k) := hG.inv.1.cell 0
            obtain ⟨_, o, ho, _⟩ := mem_ready.1 hi
            have ho2 := ho
            simp only [List.getElem?_toArray, List.getElem?_cons_succ, List.getElem?_cons_zero, Option.some.injEq] at ho2
            subst ho2
            refine step_free ho ?_ ?_
            · rfl
            intro K' hK
            clear ho
            have HT := Lib.hid hT
            have HG := Lib.hid hG
            clear hT hG h0 hi
            subst ha0
            simp only [faS, putL, Act.put, List.setIfInBounds_toArray, List.set_cons_zero, List.set_cons_succ]
            go_simp
            refine RI.next (v := .int .i64 x.k) hK HT (fun _ _ h => h) (HG.out.same 3 HG.out.inv) (show faT x kw k1 k2 k3 3 _ _ from rfl) ?_
            simp only [faS, putL, Act.put, List.setIfInBounds_toArray, List.set_cons_zero, List.set_cons_succ]
            rfl
          · obtain ⟨g2, e1, hc2⟩ := hT 1 (ready_dep hi rfl 1 (by kernel_rfl))
            have e3 := hT 3 (ready_dep hi rfl 3 (by kernel_rfl))
            refine step_free rfl rfl (fun K' hK => ?_)
            have HT := Lib.hid hT
            have HG := Lib.hid hG
            clear hT hG h0 hi
            subst ha0
            simp only [faS, putL, Act.put, List.setIfInBounds_toArray, List.set_cons_zero, List.set_cons_succ, List.getElem_toArray, List.getElem_cons_zero, List.getElem_cons_succ]
            rw [e1, e3]
            go_simp
            refine RI.next (v := .pointer (some ⟨g2, x.k.toNat, none⟩)) hK HT (fun _ _ h => h) (HG.out.same 4 HG.out.inv) (show faT x kw k1 k2 k3 4 _ _ from ⟨g2, rfl, hc2⟩) ?_
            simp only [faS, putL, Act.put, List.setIfInBounds_toArray, List.set_cons_zero, List.set_cons_succ]
            rw [← e1, ← e3]
            rfl
          · obtain ⟨g2, e4, hc2⟩ := hT 4 (ready_dep hi rfl 4 (by kernel_rfl))
            obtain ⟨_, o, ho, _⟩ := mem_ready.1 hi
            have ho2 := ho
            simp only [List.getElem?_toArray, List.getElem?_cons_succ, List.getElem?_cons_zero, Option.some.injEq] at ho2
            subst ho2
            refine step_free ho ?_ ?_
            · rfl
            intro K' hK
            clear ho
            have HT := Lib.hid hT
            have HG := Lib.hid hG
            clear hT hG h0 hi
            subst ha0
            simp only [faS, putL, Act.put, List.setIfInBounds_toArray, List.set_cons_zero, List.set_cons_succ]
            rw [e4]
            go_simp
            refine RI.next (v := .string kw) hK HT (fun _ _ h => h) (HG.out.same 5 HG.out.inv) (show faT x kw k1 k2 k3 5 _ _ from rfl) ?_
            simp only [faS, putL, Act.put, List.setIfInBounds_toArray, List.set_cons_zero, List.set_cons_succ]
            rw [← e4]
            rfl
          · have e5 := hT 5 (ready_dep hi rfl 5 (by kernel_rfl))
            refine step_free rfl rfl (fun K' hK => ?_)
            have HT := Lib.hid hT
            have HG := Lib.hid hG
            clear hT hG h0 hi
            subst ha0
            simp only [faS, putL, Act.put, List.setIfInBounds_toArray, List.set_cons_zero, List.set_cons_succ, List.getElem_toArray, List.getElem_cons_zero, List.getElem_cons_succ]
            rw [e5]
            go_simp
            rw [if_neg (by omega)]
            simp only [Oper.upon_value]
            refine RI.next (v := .string k1) hK HT (fun _ _ h => h) (HG.out.same 6 HG.out.inv) (show faT x kw k1 k2 k3 6 _ _ from rfl) ?_
            simp only [faS, putL, Act.put, List.setIfInBounds_toArray, List.set_cons_zero, List.set_cons_succ]
            rw [← e5]
            rfl
          · have hc1 : W.cell? ⟨wr.heap.size, 1, none⟩ = some (.string x.nm) := hG.inv.1.cell 1
            obtain ⟨_, o, ho, _⟩ := mem_ready.1 hi
            have ho2 := ho
            simp only [List.getElem?_toArray, List.getElem?_cons_succ, List.getElem?_cons_zero, Option.some.injEq] at ho2
            subst ho2
            refine step_free ho ?_ ?_
            · rfl
            intro K' hK
            clear ho
            have HT := Lib.hid hT
            have HG := Lib.hid hG
            clear hT hG h0 hi
            subst ha0
            simp only [faS, putL, Act.put, List.setIfInBounds_toArray, List.set_cons_zero, List.set_cons_succ]
            go_simp
            refine RI.next (v := .string x.nm) hK HT (fun _ _ h => h) (HG.out.same 8 HG.out.inv) (show faT x kw k1 k2 k3 8 _ _ from rfl) ?_
            simp only [faS, putL, Act.put, List.setIfInBounds_toArray, List.set_cons_zero, List.set_cons_succ]
            rfl
          · have e6 := hT 6 (ready_dep hi rfl 6 (by kernel_rfl))
            have e8 := hT 8 (ready_dep hi rfl 8 (by kernel_rfl))
            refine step_free rfl rfl (fun K' hK => ?_)
            have HT := Lib.hid hT
            have HG := Lib.hid hG
            clear hT hG h0 hi
            subst ha0
            simp only [faS, putL, Act.put, List.setIfInBounds_toArray, List.set_cons_zero, List.set_cons_succ, List.getElem_toArray, List.getElem_cons_zero, List.getElem_cons_succ]
            rw [e6, e8]
            go_simp
            rw [if_neg (by omega)]
            simp only [Oper.upon_value]
            refine RI.next (v := .string k2) hK HT (fun _ _ h => h) (HG.out.same 9 HG.out.inv) (show faT x kw k1 k2 k3 9 _ _ from rfl) ?_
            simp only [faS, putL, Act.put, List.setIfInBounds_toArray, List.set_cons_zero, List.set_cons_succ]
            rw [← e6, ← e8]
            rfl
          · have e9 := hT 9 (ready_dep hi rfl 9 (by kernel_rfl))
            refine step_free rfl rfl (fun K' hK => ?_)
            have HT := Lib.hid hT
            have HG := Lib.hid hG
            clear hT hG h0 hi
            subst ha0
            simp only [faS, putL, Act.put, List.setIfInBounds_toArray, List.set_cons_zero, List.set_cons_succ, List.getElem_toArray, List.getElem_cons_zero, List.getElem_cons_succ]
            rw [e9]
            go_simp
            rw [if_neg (by omega)]
            simp only [Oper.upon_value]
            refine RI.next (v := .string k3) hK HT (fun _ _ h => h) (HG.out.same 10 HG.out.inv) (show faT x kw k1 k2 k3 10 _ _ from rfl) ?_
            simp only [faS, putL, Act.put, List.setIfInBounds_toArray, List.set_cons_zero, List.set_cons_succ]
            rw [← e9]
            rfl
          · have e10 := hT 10 (ready_dep hi rfl 10 (by kernel_rfl))
            refine step_free rfl rfl (fun K' hK => ?_)
            have HT := Lib.hid hT
            have HG := Lib.hid hG
            clear hT hG h0 hi
            subst ha0
            simp only [faS, putL, Act.put, List.setIfInBounds_toArray, List.set_cons_zero, List.set_cons_succ, List.getElem_toArray, List.getElem_cons_zero, List.getElem_cons_succ]
            rw [e10]
            go_simp
            refine RI.next (v := .string k3) hK HT (fun _ _ h => h) (HG.out.same 11 HG.out.inv) (show faT x kw k1 k2 k3 11 _ _ from rfl) ?_
            simp only [faS, putL, Act.put, List.setIfInBounds_toArray, List.set_cons_zero, List.set_cons_succ]
            rw [← e10]
            rfl
        · rintro L a W hall ⟨vs, rfl, hG, hT⟩
          have e11 := hT 11 (hall 11 (by decide))
          have hX2 := hG.inv
          clear hG hT hall
          subst ha0
          simp only [faS, putL, Act.put, List.setIfInBounds_toArray, List.set_cons_zero, List.set_cons_succ]
          rw [e11]
          have Hw := Lib.hid hX2.2
          have b0 : W.cell? ⟨wr.heap.size, 0, none⟩ = some (.int .i64 x.k) := hX2.1.cell 0
          clear v0 v1 hX
          by_cases hk00 : x.k = 0
          · have hi0 : i = 0 := (Hfit.out.first Hp.out).1 hk00
            have di : decide ((0 : Int) < (i : Int)) = false := decide_eq_false (by omega)
            have di' : decide (0 < i) = false := decide_eq_false (by omega)
            have g2 : (x.k == 2) = false := by simp [hk00]
            have HE := Lib.hid (Ly.fin0 HP.out Hp.out hk00)
            rw [hkw, hk1, hk2, hk3] at HE
            clear hk00 hi0
            go_wp2_with fail
            go_roundw
            case rel => exact (show RFm _ _ _ _ _ _ from ⟨i + 1, by omega, by go_num, by rw [← HE.out], Hw.out⟩)
            case measure => simp [intOf]; omega
          · have hi1 : 1 ≤ i := by
              rcases Nat.eq_zero_or_pos i with e | e
              · exact absurd ((Hfit.out.first Hp.out).2 e) hk00
              · exact e
            have di : decide ((0 : Int) < (i : Int)) = true := decide_eq_true (by omega)
            have di' : decide (0 < i) = true := decide_eq_true (by omega)
            obtain ⟨⟨l0, l1⟩, ⟨g0, g1⟩, ⟨cc0, cc1⟩, hsd, hpw, hpw0⟩ := hre hk00
            obtain ⟨y, hy, hp0, hpi, _⟩ := Hfit.out.behind hi1 Hp.out
            have hpn : x.p < (n : Int) := by omega
            have hynz := (Ly.nameOk_size (Ly.sound_nm (Hfit.out.snd hy))).2
            have Hyc : Hid (∀ W' : World, Below w.heap.size w W' → W'.cell? ⟨(ad.add (x.p.toNat * 8)).block, (ad.add (x.p.toNat * 8)).off + 1, none⟩ = some (.string y.nm)) := Lib.hid (fun W' hb => by
              obtain ⟨ad', y', hae', _, hy', _, q1, _⟩ := (Hh.out.below hb).at_ (i := x.p.toNat) (by omega)
              obtain rfl := Option.some.inj hae'
              obtain rfl := Option.some.inj (hy.symm.trans hy')
              exact q1)
            have Hsufc := Lib.hid (fun (W' : World) (g : Nat) (h : Blk W' g 9 #[.string ⟨#[]⟩, .string ⟨#[58, 108, 101, 102, 116]⟩, .string ⟨#[58, 114, 105, 103, 104, 116]⟩]) => Ly.suf_cell hsd h)
            have hsz := Ly.sufW_size x.sd
            have hsd0 := hsd.1
            have hsd3 : x.sd < 3 := by omega
            have HD1 := Lib.hid (fun W' => decI_c x.len (by omega) (by omega) W')
            have HD2 := Lib.hid (fun W' => decI_c x.g (by omega) (by omega) W')
            have HD3 := Lib.hid (fun W' => decI_c x.c (by omega) (by omega) W')
            have n1 := itoa_size21 x.len (by omega) (by omega)
            have n2 := itoa_size21 x.g (by omega) (by omega)
            have n3 := itoa_size21 x.c (by omega) (by omega)
            have HF1 := Lib.hid (fun h2 => Ly.fin1 HP.out Hp.out hy hk00 h2)
            have HF2 := Lib.hid (fun h2 => Ly.fin2 HP.out Hp.out hy h2)
            have Hpw := Lib.hid hpw
            obtain ⟨ynm, hynm⟩ : ∃ q, y.nm = q := ⟨_, rfl⟩
            obtain ⟨suf, hsuf⟩ : ∃ q, baOf (Ly.sufW x.sd) = q := ⟨_, rfl⟩
            obtain ⟨D1, hD1⟩ : ∃ q, bOf (Lib.itoa x.len) = q := ⟨_, rfl⟩
            obtain ⟨D2, hD2⟩ : ∃ q, bOf (Lib.itoa x.g) = q := ⟨_, rfl⟩
            obtain ⟨D3, hD3⟩ : ∃ q, bOf (Lib.itoa x.c) = q := ⟨_, rfl⟩
            rw [hynm] at Hyc hynz HF1 HF2
            rw [hsuf] at Hsufc hsz HF1 HF2
            rw [hD1] at HD1 n1 HF1 HF2
            rw [hD2] at HD2 n2 HF1 HF2
            rw [hD3] at HD3 n3 HF1 HF2
            rw [hkw, hk1, hk2, hk3] at HF1 HF2
            obtain ⟨s7, h7⟩ : ∃ q, (⟨#[32]⟩ : ByteArray) ++ ynm = q := ⟨_, rfl⟩
            obtain ⟨s13, h13⟩ : ∃ q, s7 ++ suf = q := ⟨_, rfl⟩
            obtain ⟨s14, h14⟩ : ∃ q, s13 ++ (⟨#[32]⟩ : ByteArray) = q := ⟨_, rfl⟩
            obtain ⟨s18, h18⟩ : ∃ q, s14 ++ D1 = q := ⟨_, rfl⟩
            obtain ⟨s19, h19⟩ : ∃ q, s18 ++ (⟨#[32]⟩ : ByteArray) = q := ⟨_, rfl⟩
            obtain ⟨s23, h23⟩ : ∃ q, s19 ++ D2 = q := ⟨_, rfl⟩
            obtain ⟨s24, h24⟩ : ∃ q, s23 ++ (⟨#[32]⟩ : ByteArray) = q := ⟨_, rfl⟩
            obtain ⟨s28, h28⟩ : ∃ q, s24 ++ D3 = q := ⟨_, rfl⟩
            obtain ⟨s29, h29⟩ : ∃ q, k3 ++ s28 = q := ⟨_, rfl⟩
            rw [h7, h13, h14, h18, h19, h23, h24, h28, h29] at HF1 HF2
            have one : (⟨#[32]⟩ : ByteArray).size = 1 := rfl
            have y7 : s7.size ≤ 13 := by rw [← h7, ByteArray.size_append]; omega
            have y13 : s13.size ≤ 19 := by rw [← h13, ByteArray.size_append]; omega
            have y14 : s14.size ≤ 20 := by rw [← h14, ByteArray.size_append]; omega
            have y18 : s18.size ≤ 41 := by rw [← h18, ByteArray.size_append]; omega
            have y19 : s19.size ≤ 42 := by rw [← h19, ByteArray.size_append]; omega
            have y23 : s23.size ≤ 63 := by rw [← h23, ByteArray.size_append]; omega
            have y24 : s24.size ≤ 64 := by rw [← h24, ByteArray.size_append]; omega
            have y28 : s28.size ≤ 85 := by rw [← h28, ByteArray.size_append]; omega
            have y29 : s29.size ≤ 17000 := by rw [← h29, ByteArray.size_append]; omega
            have hk00' := Lib.hid hk00
            clear hynm hsuf hD1 hD2 hD3 hy hsd hpw hpw0 hpi hk00 one e11
            go_wp2_with fail
            refine wp_region_any (by kernel_rfl) ?_
            change wpAny _ _ _ _ _ _ _ (World.drew _)
            refine wpAny_take (i := 0) (v := ?vfb0) rfl (by kernel_rfl) (by kernel_rfl) (by kernel_rfl) (fun _ _ _ h => h) (Or.inl ⟨by rfl, ?yfb0⟩) ?_
            case yfb0 => (intro w; go_simp; with_reducible rfl)
            refine wpAny_take (i := 1) (v := ?vfb1) rfl (by kernel_rfl) (by kernel_rfl) (by kernel_rfl) (fun _ _ _ h => h) (Or.inl ⟨by rfl, ?yfb1⟩) ?_
            case yfb1 => (intro w; go_simp; with_reducible rfl)
            refine wpAny_take (i := 2) (v := ?vfb2) rfl (by kernel_rfl) (by kernel_rfl) (by kernel_rfl) (fun _ _ _ h => h) (Or.inl ⟨by rfl, ?yfb2⟩) ?_
            case yfb2 => (intro w; go_simp; with_reducible rfl)
            refine wpAny_take (i := 9) (v := ?vfb9) rfl (by kernel_rfl) (by kernel_rfl) (by kernel_rfl) (fun _ _ _ h => h) (Or.inl ⟨by rfl, ?yfb9⟩) ?_
            case yfb9 => (intro w; go_simp; with_reducible rfl)
            refine wpAny_take (i := 15) (v := ?vfb15) rfl (by kernel_rfl) (by kernel_rfl) (by kernel_rfl) (fun _ _ _ h => h) (Or.inl ⟨by rfl, ?yfb15⟩) ?_
            case yfb15 => (intro w; go_simp; with_reducible rfl)
            refine wpAny_take (i := 20) (v := ?vfb20) rfl (by kernel_rfl) (by kernel_rfl) (by kernel_rfl) (fun _ _ _ h => h) (Or.inl ⟨by rfl, ?yfb20⟩) ?_
            case yfb20 => (intro w; go_simp; with_reducible rfl)
            refine wpAny_take (i := 25) (v := ?vfb25) rfl (by kernel_rfl) (by kernel_rfl) (by kernel_rfl) (fun _ _ _ h => h) (Or.inl ⟨by rfl, ?yfb25⟩) ?_
            case yfb25 => (intro w; go_simp; with_reducible rfl)
            refine with_act (φ := fun a => wpAny _ _ _ _ _ _ a _) ?_
            intro a0 ha0
            simp only [Act.put, List.setIfInBounds_toArray, List.set_cons_zero, List.set_cons_succ, List.getElem_toArray, List.getElem_cons_zero, List.getElem_cons_succ] at ha0
            refine wpAny_inv (by kernel_rfl) (fun L a W => RI (fun vs => putL a0 vs fbS) (fbT x ad ynm suf D1 D2 D3 s7 s13 s14 s18 s19 s23 s24 s28 s29) (R3 fbPure (RFS w wr x)) L a W) ?_ ?_ _ _ _ _ (by kernel_rfl) (by decide +kernel) ?_
            · rintro i L a W hi ⟨vs, rfl, hG, hT⟩
              obtain ⟨h0, hsz, hlt'⟩ := ready_at hi
              have hsz' : i < 31 := hsz
              have hnp : i ∉ fbPure := fun h => by rw [hG.pure i h] at h0; cases h0
              have hcs : i = 3 ∨ i = 4 ∨ i = 5 ∨ i = 6 ∨ i = 7 ∨ i = 8 ∨ i = 10 ∨ i = 11 ∨ i = 12 ∨ i = 13 ∨ i = 14 ∨ i = 16 ∨ i = 17 ∨ i = 18 ∨ i = 19 ∨ i = 21 ∨ i = 22 ∨ i = 23 ∨ i = 24 ∨ i = 26 ∨ i = 27 ∨ i = 28 ∨ i = 29 ∨ i = 30 := by
                simp only [fbPure, List.mem_cons, List.not_mem_nil, or_false, not_or] at hnp
                omega
              clear hnp hsz hsz' hlt'
              rcases hcs with rfl | rfl | rfl | rfl | rfl | rfl | rfl | rfl | rfl | rfl | rfl | rfl | rfl | rfl | rfl | rfl | rfl | rfl | rfl | rfl | rfl | rfl | rfl | rfl
              · have hc1 : W.cell? ⟨wr.heap.size, 2, none⟩ = some (.int .i64 x.p) := hG.inv.1.cell 2
                obtain ⟨_, o, ho, _⟩ := mem_ready.1 hi
                have ho2 := ho
                simp only [List.getElem?_toArray, List.getElem?_cons_succ, List.getElem?_cons_zero, Option.some.injEq] at ho2
                subst ho2
                refine step_free ho ?_ ?_
                · rfl
                intro K' hK
                clear ho
                have HT := Lib.hid hT
                have HG := Lib.hid hG
                clear hT hG h0 hi
                subst ha0
                simp only [fbS, putL, Act.put, List.setIfInBounds_toArray, List.set_cons_zero, List.set_cons_succ]
                go_simp
                refine RI.next (v := .int .i64 x.p) hK HT (fun _ _ h => h) (HG.out.same 3 HG.out.inv) (show fbT x ad ynm suf D1 D2 D3 s7 s13 s14 s18 s19 s23 s24 s28 s29 3 _ _ from rfl) ?_
                simp only [fbS, putL, Act.put, List.setIfInBounds_toArray, List.set_cons_zero, List.set_cons_succ]
                rfl
              · have e3 := hT 3 (ready_dep hi rfl 3 (by kernel_rfl))
                refine step_free rfl rfl (fun K' hK => ?_)
                have HT := Lib.hid hT
                have HG := Lib.hid hG
                clear hT hG h0 hi
                subst ha0
                simp only [fbS, putL, Act.put, List.setIfInBounds_toArray, List.set_cons_zero, List.set_cons_succ, List.getElem_toArray, List.getElem_cons_zero, List.getElem_cons_succ]
                rw [e3]
                go_simp
                refine RI.next (v := .pointer (some (ad.add (x.p.toNat * 8)))) hK HT (fun _ _ h => h) (HG.out.same 4 HG.out.inv) (show fbT x ad ynm suf D1 D2 D3 s7 s13 s14 s18 s19 s23 s24 s28 s29 4 _ _ from rfl) ?_
                simp only [fbS, putL, Act.put, List.setIfInBounds_toArray, List.set_cons_zero, List.set_cons_succ]
                rw [← e3]
                rfl
              · have e4 := hT 4 (ready_dep hi rfl 4 (by kernel_rfl))
                refine step_free rfl rfl (fun K' hK => ?_)
                have HT := Lib.hid hT
                have HG := Lib.hid hG
                clear hT hG h0 hi
                subst ha0
                simp only [fbS, putL, Act.put, List.setIfInBounds_toArray, List.set_cons_zero, List.set_cons_succ, List.getElem_toArray, List.getElem_cons_zero, List.getElem_cons_succ]
                rw [e4]
                go_simp
                refine RI.next (v := .pointer (some ⟨(ad.add (x.p.toNat * 8)).block, (ad.add (x.p.toNat * 8)).off + 1, none⟩)) hK HT (fun _ _ h => h) (HG.out.same 5 HG.out.inv) (show fbT x ad ynm suf D1 D2 D3 s7 s13 s14 s18 s19 s23 s24 s28 s29 5 _ _ from rfl) ?_
                simp only [fbS, putL, Act.put, List.setIfInBounds_toArray, List.set_cons_zero, List.set_cons_succ]
                rw [← e4]
                rfl
              · have hc1 := Hyc.out W hG.inv.2
                have e5 := hT 5 (ready_dep hi rfl 5 (by kernel_rfl))
                obtain ⟨_, o, ho, _⟩ := mem_ready.1 hi
                have ho2 := ho
                simp only [List.getElem?_toArray, List.getElem?_cons_succ, List.getElem?_cons_zero, Option.some.injEq] at ho2
                subst ho2
                refine step_free ho ?_ ?_
                · rfl
                intro K' hK
                clear ho
                have HT := Lib.hid hT
                have HG := Lib.hid hG
                clear hT hG h0 hi
                subst ha0
                simp only [fbS, putL, Act.put, List.setIfInBounds_toArray, List.set_cons_zero, List.set_cons_succ]
                rw [e5]
                go_simp
                refine RI.next (v := .string ynm) hK HT (fun _ _ h => h) (HG.out.same 6 HG.out.inv) (show fbT x ad ynm suf D1 D2 D3 s7 s13 s14 s18 s19 s23 s24 s28 s29 6 _ _ from rfl) ?_
                simp only [fbS, putL, Act.put, List.setIfInBounds_toArray, List.set_cons_zero, List.set_cons_succ]
                rw [← e5]
                rfl
              · have e6 := hT 6 (ready_dep hi rfl 6 (by kernel_rfl))
                refine step_free rfl rfl (fun K' hK => ?_)
                have HT := Lib.hid hT
                have HG := Lib.hid hG
                clear hT hG h0 hi
                subst ha0
                simp only [fbS, putL, Act.put, List.setIfInBounds_toArray, List.set_cons_zero, List.set_cons_succ, List.getElem_toArray, List.getElem_cons_zero, List.getElem_cons_succ]
                rw [e6]
                go_simp
                rw [if_neg (by omega)]
                simp only [Oper.upon_value]
                refine RI.next (v := .string s7) hK HT (fun _ _ h => h) (HG.out.same 7 HG.out.inv) (show fbT x ad ynm suf D1 D2 D3 s7 s13 s14 s18 s19 s23 s24 s28 s29 7 _ _ from rfl) ?_
                simp only [fbS, putL, Act.put, List.setIfInBounds_toArray, List.set_cons_zero, List.set_cons_succ]
                rw [← e6]
                rfl
              · have HI := Lib.hid hG.inv
                refine step_free rfl rfl (fun K' hK => ?_)
                have HT := Lib.hid hT
                have HG := Lib.hid hG
                clear hT hG h0 hi
                subst ha0
                simp only [fbS, putL, Act.put, List.setIfInBounds_toArray, List.set_cons_zero, List.set_cons_succ, List.getElem_toArray, List.getElem_cons_zero, List.getElem_cons_succ]
                go_simp
                refine RI.next (v := .slice (some ⟨W.heap.size, 0, none⟩) 3 3) hK HT (fbT_below x ad ynm suf D1 D2 D3 s7 s13 s14 s18 s19 s23 s24 s28 s29 ((Below.refl _ _).alloc (Nat.le_refl _) _)) (HG.out.same 8 (HI.out.below ((Below.refl _ _).alloc (Nat.le_refl _) _))) (show fbT x ad ynm suf D1 D2 D3 s7 s13 s14 s18 s19 s23 s24 s28 s29 8 _ _ from ⟨W.heap.size, rfl, Hsufc.out _ _ (Blk.new W _ _)⟩) ?_
                simp only [fbS, putL, Act.put, List.setIfInBounds_toArray, List.set_cons_zero, List.set_cons_succ]
                rfl
              · have hc1 : W.cell? ⟨wr.heap.size, 3, none⟩ = some (.int .i64 x.sd) := hG.inv.1.cell 3
                obtain ⟨_, o, ho, _⟩ := mem_ready.1 hi
                have ho2 := ho
                simp only [List.getElem?_toArray, List.getElem?_cons_succ, List.getElem?_cons_zero, Option.some.injEq] at ho2
                subst ho2
                refine step_free ho ?_ ?_
                · rfl
                intro K' hK
                clear ho
                have HT := Lib.hid hT
                have HG := Lib.hid hG
                clear hT hG h0 hi
                subst ha0
                simp only [fbS, putL, Act.put, List.setIfInBounds_toArray, List.set_cons_zero, List.set_cons_succ]
                go_simp
                refine RI.next (v := .int .i64 x.sd) hK HT (fun _ _ h => h) (HG.out.same 10 HG.out.inv) (show fbT x ad ynm suf D1 D2 D3 s7 s13 s14 s18 s19 s23 s24 s28 s29 10 _ _ from rfl) ?_
                simp only [fbS, putL, Act.put, List.setIfInBounds_toArray, List.set_cons_zero, List.set_cons_succ]
                rfl
              · obtain ⟨g2, e8, hc2⟩ := hT 8 (ready_dep hi rfl 8 (by kernel_rfl))
                have e10 := hT 10 (ready_dep hi rfl 10 (by kernel_rfl))
                refine step_free rfl rfl (fun K' hK => ?_)
                have HT := Lib.hid hT
                have HG := Lib.hid hG
                clear hT hG h0 hi
                subst ha0
                simp only [fbS, putL, Act.put, List.setIfInBounds_toArray, List.set_cons_zero, List.set_cons_succ, List.getElem_toArray, List.getElem_cons_zero, List.getElem_cons_succ]
                rw [e8, e10]
                go_simp
                refine RI.next (v := .pointer (some ⟨g2, x.sd.toNat, none⟩)) hK HT (fun _ _ h => h) (HG.out.same 11 HG.out.inv) (show fbT x ad ynm suf D1 D2 D3 s7 s13 s14 s18 s19 s23 s24 s28 s29 11 _ _ from ⟨g2, rfl, hc2⟩) ?_
                simp only [fbS, putL, Act.put, List.setIfInBounds_toArray, List.set_cons_zero, List.set_cons_succ]
                rw [← e8, ← e10]
                rfl
              · obtain ⟨g2, e11, hc2⟩ := hT 11 (ready_dep hi rfl 11 (by kernel_rfl))
                obtain ⟨_, o, ho, _⟩ := mem_ready.1 hi
                have ho2 := ho
                simp only [List.getElem?_toArray, List.getElem?_cons_succ, List.getElem?_cons_zero, Option.some.injEq] at ho2
                subst ho2
                refine step_free ho ?_ ?_
                · rfl
                intro K' hK
                clear ho
                have HT := Lib.hid hT
                have HG := Lib.hid hG
                clear hT hG h0 hi
                subst ha0
                simp only [fbS, putL, Act.put, List.setIfInBounds_toArray, List.set_cons_zero, List.set_cons_succ]
                rw [e11]
                go_simp
                refine RI.next (v := .string suf) hK HT (fun _ _ h => h) (HG.out.same 12 HG.out.inv) (show fbT x ad ynm suf D1 D2 D3 s7 s13 s14 s18 s19 s23 s24 s28 s29 12 _ _ from rfl) ?_
                simp only [fbS, putL, Act.put, List.setIfInBounds_toArray, List.set_cons_zero, List.set_cons_succ]
                rw [← e11]
                rfl
              · have e7 := hT 7 (ready_dep hi rfl 7 (by kernel_rfl))
                have e12 := hT 12 (ready_dep hi rfl 12 (by kernel_rfl))
                refine step_free rfl rfl (fun K' hK => ?_)
                have HT := Lib.hid hT
                have HG := Lib.hid hG
                clear hT hG h0 hi
                subst ha0
                simp only [fbS, putL, Act.put, List.setIfInBounds_toArray, List.set_cons_zero, List.set_cons_succ, List.getElem_toArray, List.getElem_cons_zero, List.getElem_cons_succ]
                rw [e7, e12]
                go_simp
                rw [if_neg (by omega)]
                simp only [Oper.upon_value]
                refine RI.next (v := .string s13) hK HT (fun _ _ h => h) (HG.out.same 13 HG.out.inv) (show fbT x ad ynm suf D1 D2 D3 s7 s13 s14 s18 s19 s23 s24 s28 s29 13 _ _ from rfl) ?_
                simp only [fbS, putL, Act.put, List.setIfInBounds_toArray, List.set_cons_zero, List.set_cons_succ]
                rw [← e7, ← e12]
                rfl
              · have e13 := hT 13 (ready_dep hi rfl 13 (by kernel_rfl))
                refine step_free rfl rfl (fun K' hK => ?_)
                have HT := Lib.hid hT
                have HG := Lib.hid hG
                clear hT hG h0 hi
                subst ha0
                simp only [fbS, putL, Act.put, List.setIfInBounds_toArray, List.set_cons_zero, List.set_cons_succ, List.getElem_toArray, List.getElem_cons_zero, List.getElem_cons_succ]
                rw [e13]
                go_simp
                rw [if_neg (by omega)]
                simp only [Oper.upon_value]
                refine RI.next (v := .string s14) hK HT (fun _ _ h => h) (HG.out.same 14 HG.out.inv) (show fbT x ad ynm suf D1 D2 D3 s7 s13 s14 s18 s19 s23 s24 s28 s29 14 _ _ from rfl) ?_
                simp only [fbS, putL, Act.put, List.setIfInBounds_toArray, List.set_cons_zero, List.set_cons_succ]
                rw [← e13]
                rfl
              · have hc1 : W.cell? ⟨wr.heap.size, 4, none⟩ = some (.int .i64 x.len) := hG.inv.1.cell 4
                obtain ⟨_, o, ho, _⟩ := mem_ready.1 hi
                have ho2 := ho
                simp only [List.getElem?_toArray, List.getElem?_cons_succ, List.getElem?_cons_zero, Option.some.injEq] at ho2
                subst ho2
                refine step_free ho ?_ ?_
                · rfl
                intro K' hK
                clear ho
                have HT := Lib.hid hT
                have HG := Lib.hid hG
                clear hT hG h0 hi
                subst ha0
                simp only [fbS, putL, Act.put, List.setIfInBounds_toArray, List.set_cons_zero, List.set_cons_succ]
                go_simp
                refine RI.next (v := .int .i64 x.len) hK HT (fun _ _ h => h) (HG.out.same 16 HG.out.inv) (show fbT x ad ynm suf D1 D2 D3 s7 s13 s14 s18 s19 s23 s24 s28 s29 16 _ _ from rfl) ?_
                simp only [fbS, putL, Act.put, List.setIfInBounds_toArray, List.set_cons_zero, List.set_cons_succ]
                rfl
              · have e16 := hT 16 (ready_dep hi rfl 16 (by kernel_rfl))
                have HI := Lib.hid hG.inv
                refine step_free rfl rfl (fun K' hK => ?_)
                have HT := Lib.hid hT
                have HG := Lib.hid hG
                clear hT hG h0 hi
                subst ha0
                simp only [fbS, putL, Act.put, List.setIfInBounds_toArray, List.set_cons_zero, List.set_cons_succ, List.getElem_toArray, List.getElem_cons_zero, List.getElem_cons_succ]
                rw [e16]
                go_simp
                refine (HD1.out _).mono ?_
                rintro e w2 ⟨rfl, hb2⟩
                go_simp
                refine RI.next (v := .string D1) hK HT (fbT_below x ad ynm suf D1 D2 D3 s7 s13 s14 s18 s19 s23 s24 s28 s29 hb2) (HG.out.same 17 (HI.out.below hb2)) (show fbT x ad ynm suf D1 D2 D3 s7 s13 s14 s18 s19 s23 s24 s28 s29 17 _ _ from rfl) ?_
                simp only [fbS, putL, Act.put, List.setIfInBounds_toArray, List.set_cons_zero, List.set_cons_succ]
                rw [← e16]
                rfl
              · have e14 := hT 14 (ready_dep hi rfl 14 (by kernel_rfl))
                have e17 := hT 17 (ready_dep hi rfl 17 (by kernel_rfl))
                refine step_free rfl rfl (fun K' hK => ?_)
                have HT := Lib.hid hT
                have HG := Lib.hid hG
                clear hT hG h0 hi
                subst ha0
                simp only [fbS, putL, Act.put, List.setIfInBounds_toArray, List.set_cons_zero, List.set_cons_succ, List.getElem_toArray, List.getElem_cons_zero, List.getElem_cons_succ]
                rw [e14, e17]
                go_simp
                rw [if_neg (by omega)]
                simp only [Oper.upon_value]
                refine RI.next (v := .string s18) hK HT (fun _ _ h => h) (HG.out.same 18 HG.out.inv) (show fbT x ad ynm suf D1 D2 D3 s7 s13 s14 s18 s19 s23 s24 s28 s29 18 _ _ from rfl) ?_
                simp only [fbS, putL, Act.put, List.setIfInBounds_toArray, List.set_cons_zero, List.set_cons_succ]
                rw [← e14, ← e17]
                rfl
              · have e18 := hT 18 (ready_dep hi rfl 18 (by kernel_rfl))
                refine step_free rfl rfl (fun K' hK => ?_)
                have HT := Lib.hid hT
                have HG := Lib.hid hG
                clear hT hG h0 hi
                subst ha0
                simp only [fbS, putL, Act.put, List.setIfInBounds_toArray, List.set_cons_zero, List.set_cons_succ, List.getElem_toArray, List.getElem_cons_zero, List.getElem_cons_succ]
                rw [e18]
                go_simp
                rw [if_neg (by omega)]
                simp only [Oper.upon_value]
                refine RI.next (v := .string s19) hK HT (fun _ _ h => h) (HG.out.same 19 HG.out.inv) (show fbT x ad ynm suf D1 D2 D3 s7 s13 s14 s18 s19 s23 s24 s28 s29 19 _ _ from rfl) ?_
                simp only [fbS, putL, Act.put, List.setIfInBounds_toArray, List.set_cons_zero, List.set_cons_succ]
                rw [← e18]
                rfl
              · have hc1 : W.cell? ⟨wr.heap.size, 5, none⟩ = some (.int .i64 x.g) := hG.inv.1.cell 5
                obtain ⟨_, o, ho, _⟩ := mem_ready.1 hi
                have ho2 := ho
                simp only [List.getElem?_toArray, List.getElem?_cons_succ, List.getElem?_cons_zero, Option.some.injEq] at ho2
                subst ho2
                refine step_free ho ?_ ?_
                · rfl
                intro K' hK
                clear ho
                have HT := Lib.hid hT
                have HG := Lib.hid hG
                clear hT hG h0 hi
                subst ha0
                simp only [fbS, putL, Act.put, List.setIfInBounds_toArray, List.set_cons_zero, List.set_cons_succ]
                go_simp
                refine RI.next (v := .int .i64 x.g) hK HT (fun _ _ h => h) (HG.out.same 21 HG.out.inv) (show fbT x ad ynm suf D1 D2 D3 s7 s13 s14 s18 s19 s23 s24 s28 s29 21 _ _ from rfl) ?_
                simp only [fbS, putL, Act.put, List.setIfInBounds_toArray, List.set_cons_zero, List.set_cons_succ]
                rfl
              · have e21 := hT 21 (ready_dep hi rfl 21 (by kernel_rfl))
                have HI := Lib.hid hG.inv
                refine step_free rfl rfl (fun K' hK => ?_)
                have HT := Lib.hid hT
                have HG := Lib.hid hG
                clear hT hG h0 hi
                subst ha0
                simp only [fbS, putL, Act.put, List.setIfInBounds_toArray, List.set_cons_zero, List.set_cons_succ, List.getElem_toArray, List.getElem_cons_zero, List.getElem_cons_succ]
                rw [e21]
                go_simp
                refine (HD2.out _).mono ?_
                rintro e w2 ⟨rfl, hb2⟩
                go_simp
                refine RI.next (v := .string D2) hK HT (fbT_below x ad ynm suf D1 D2 D3 s7 s13 s14 s18 s19 s23 s24 s28 s29 hb2) (HG.out.same 22 (HI.out.below hb2)) (show fbT x ad ynm suf D1 D2 D3 s7 s13 s14 s18 s19 s23 s24 s28 s29 22 _ _ from rfl) ?_
                simp only [fbS, putL, Act.put, List.setIfInBounds_toArray, List.set_cons_zero, List.set_cons_succ]
                rw [← e21]
                rfl
              · have e19 := hT 19 (ready_dep hi rfl 19 (by kernel_rfl))
                have e22 := hT 22 (ready_dep hi rfl 22 (by kernel_rfl))
                refine step_free rfl rfl (fun K' hK => ?_)
                have HT := Lib.hid hT
                have HG := Lib.hid hG
                clear hT hG h0 hi
                subst ha0
                simp only [fbS, putL, Act.put, List.setIfInBounds_toArray, List.set_cons_zero, List.set_cons_succ, List.getElem_toArray, List.getElem_cons_zero, List.getElem_cons_succ]
                rw [e19, e22]
                go_simp
                rw [if_neg (by omega)]
                simp only [Oper.upon_value]
                refine RI.next (v := .string s23) hK HT (fun _ _ h => h) (HG.out.same 23 HG.out.inv) (show fbT x ad ynm suf D1 D2 D3 s7 s13 s14 s18 s19 s23 s24 s28 s29 23 _ _ from rfl) ?_
                simp only [fbS, putL, Act.put, List.setIfInBounds_toArray, List.set_cons_zero, List.set_cons_succ]
                rw [← e19, ← e22]
                rfl
              · have e23 := hT 23 (ready_dep hi rfl 23 (by kernel_rfl))
                refine step_free rfl rfl (fun K' hK => ?_)
                have HT := Lib.hid hT
                have HG := Lib.hid hG
                clear hT hG h0 hi
                subst ha0
                simp only [fbS, putL, Act.put, List.setIfInBounds_toArray, List.set_cons_zero, List.set_cons_succ, List.getElem_toArray, List.getElem_cons_zero, List.getElem_cons_succ]
                rw [e23]
                go_simp
                rw [if_neg (by omega)]
                simp only [Oper.upon_value]
                refine RI.next (v := .string s24) hK HT (fun _ _ h => h) (HG.out.same 24 HG.out.inv) (show fbT x ad ynm suf D1 D2 D3 s7 s13 s14 s18 s19 s23 s24 s28 s29 24 _ _ from rfl) ?_
                simp only [fbS, putL, Act.put, List.setIfInBounds_toArray, List.set_cons_zero, List.set_cons_succ]
                rw [← e23]
                rfl
              · have hc1 : W.cell? ⟨wr.heap.size, 6, none⟩ = some (.int .i64 x.c) := hG.inv.1.cell 6
                obtain ⟨_, o, ho, _⟩ := mem_ready.1 hi
                have ho2 := ho
                simp only [List.getElem?_toArray, List.getElem?_cons_succ, List.getElem?_cons_zero, Option.some.injEq] at ho2
                subst ho2
                refine step_free ho ?_ ?_
                · rfl
                intro K' hK
                clear ho
                have HT := Lib.hid hT
                have HG := Lib.hid hG
                clear hT hG h0 hi
                subst ha0
                simp only [fbS, putL, Act.put, List.setIfInBounds_toArray, List.set_cons_zero, List.set_cons_succ]
                go_simp
                refine RI.next (v := .int .i64 x.c) hK HT (fun _ _ h => h) (HG.out.same 26 HG.out.inv) (show fbT x ad ynm suf D1 D2 D3 s7 s13 s14 s18 s19 s23 s24 s28 s29 26 _ _ from rfl) ?_
                simp only [fbS, putL, Act.put, List.setIfInBounds_toArray, List.set_cons_zero, List.set_cons_succ]
                rfl
              · have e26 := hT 26 (ready_dep hi rfl 26 (by kernel_rfl))
                have HI := Lib.hid hG.inv
                refine step_free rfl rfl (fun K' hK => ?_)
                have HT := Lib.hid hT
                have HG := Lib.hid hG
                clear hT hG h0 hi
                subst ha0
                simp only [fbS, putL, Act.put, List.setIfInBounds_toArray, List.set_cons_zero, List.set_cons_succ, List.getElem_toArray, List.getElem_cons_zero, List.getElem_cons_succ]
                rw [e26]
                go_simp
                refine (HD3.out _).mono ?_
                rintro e w2 ⟨rfl, hb2⟩
                go_simp
                refine RI.next (v := .string D3) hK HT (fbT_below x ad ynm suf D1 D2 D3 s7 s13 s14 s18 s19 s23 s24 s28 s29 hb2) (HG.out.same 27 (HI.out.below hb2)) (show fbT x ad ynm suf D1 D2 D3 s7 s13 s14 s18 s19 s23 s24 s28 s29 27 _ _ from rfl) ?_
                simp only [fbS, putL, Act.put, List.setIfInBounds_toArray, List.set_cons_zero, List.set_cons_succ]
                rw [← e26]
                rfl
              · have e24 := hT 24 (ready_dep hi rfl 24 (by kernel_rfl))
                have e27 := hT 27 (ready_dep hi rfl 27 (by kernel_rfl))
                refine step_free rfl rfl (fun K' hK => ?_)
                have HT := Lib.hid hT
                have HG := Lib.hid hG
                clear hT hG h0 hi
                subst ha0
                simp only [fbS, putL, Act.put, List.setIfInBounds_toArray, List.set_cons_zero, List.set_cons_succ, List.getElem_toArray, List.getElem_cons_zero, List.getElem_cons_succ]
                rw [e24, e27]
                go_simp
                rw [if_neg (by omega)]
                simp only [Oper.upon_value]
                refine RI.next (v := .string s28) hK HT (fun _ _ h => h) (HG.out.same 28 HG.out.inv) (show fbT x ad ynm suf D1 D2 D3 s7 s13 s14 s18 s19 s23 s24 s28 s29 28 _ _ from rfl) ?_
                simp only [fbS, putL, Act.put, List.setIfInBounds_toArray, List.set_cons_zero, List.set_cons_succ]
                rw [← e24, ← e27]
                rfl
              · have e28 := hT 28 (ready_dep hi rfl 28 (by kernel_rfl))
                refine step_free rfl rfl (fun K' hK => ?_)
                have HT := Lib.hid hT
                have HG := Lib.hid hG
                clear hT hG h0 hi
                subst ha0
                simp only [fbS, putL, Act.put, List.setIfInBounds_toArray, List.set_cons_zero, List.set_cons_succ, List.getElem_toArray, List.getElem_cons_zero, List.getElem_cons_succ]
                rw [e28]
                go_simp
                rw [if_neg (by omega)]
                simp only [Oper.upon_value]
                refine RI.next (v := .string s29) hK HT (fun _ _ h => h) (HG.out.same 29 HG.out.inv) (show fbT x ad ynm suf D1 D2 D3 s7 s13 s14 s18 s19 s23 s24 s28 s29 29 _ _ from rfl) ?_
                simp only [fbS, putL, Act.put, List.setIfInBounds_toArray, List.set_cons_zero, List.set_cons_succ]
                rw [← e28]
                rfl
              · have e29 := hT 29 (ready_dep hi rfl 29 (by kernel_rfl))
                refine step_free rfl rfl (fun K' hK => ?_)
                have HT := Lib.hid hT
                have HG := Lib.hid hG
                clear hT hG h0 hi
                subst ha0
                simp only [fbS, putL, Act.put, List.setIfInBounds_toArray, List.set_cons_zero, List.set_cons_succ, List.getElem_toArray, List.getElem_cons_zero, List.getElem_cons_succ]
                rw [e29]
                go_simp
                refine RI.next (v := .string s29) hK HT (fun _ _ h => h) (HG.out.same 30 HG.out.inv) (show fbT x ad ynm suf D1 D2 D3 s7 s13 s14 s18 s19 s23 s24 s28 s29 30 _ _ from rfl) ?_
                simp only [fbS, putL, Act.put, List.setIfInBounds_toArray, List.set_cons_zero, List.set_cons_succ]
                rw [← e29]
                rfl
            · rintro L a W3 hall ⟨vs, rfl, hG, hT⟩
              have e30 := hT 30 (hall 30 (by decide))
              have hX3 := hG.inv
              clear hG hT hall
              subst ha0
              simp only [fbS, putL, Act.put, List.setIfInBounds_toArray, List.set_cons_zero, List.set_cons_succ]
              rw [e30]
              have Hw3 := Lib.hid hX3.2
              have b0 : W3.cell? ⟨wr.heap.size, 0, none⟩ = some (.int .i64 x.k) := hX3.1.cell 0
              have b7 : W3.cell? ⟨wr.heap.size, 7, none⟩ = some (.int .i64 x.pw) := hX3.1.cell 7
              by_cases hk2x : x.k = 2
              · have g2 : (x.k == 2) = true := by simp [hk2x]
                have hpx := Hpw.out hk2x
                have HD4 := Lib.hid (fun W' => decI_c x.pw (by omega) (by omega) W')
                have n4 := itoa_size21 x.pw (by omega) (by omega)
                have HE := Lib.hid (HF2.out hk2x)
                obtain ⟨D4, hD4⟩ : ∃ q, bOf (Lib.itoa x.pw) = q := ⟨_, rfl⟩
                rw [hD4] at HD4 n4 HE
                clear hD4 hk2x
                go_wp2_with fail
                refine (HD4.out _).mono ?_
                rintro e w4 ⟨rfl, hb4⟩
                have hw4 := below_step Hw3.out hb4
                obtain ⟨u1, hu1⟩ : ∃ q, (⟨#[32]⟩ : ByteArray) ++ D4 = q := ⟨_, rfl⟩
                have hu1z : u1.size ≤ 22 := by rw [← hu1, ByteArray.size_append]; have : (⟨#[32]⟩ : ByteArray).size = 1 := rfl; omega
                rw [hu1] at HE
                obtain ⟨u2, hu2⟩ : ∃ q, s29 ++ u1 = q := ⟨_, rfl⟩
                have hu2z : u2.size ≤ 17100 := by rw [← hu2, ByteArray.size_append]; omega
                rw [hu2] at HE
                go_wp2_with fail
                go_roundw
                case rel => exact (show RFm _ _ _ _ _ _ from ⟨i + 1, by omega, by go_num, by rw [← HE.out], hw4⟩)
                case measure => simp [intOf]; omega
              · have g2 : (x.k == 2) = false := by simp [hk2x]
                have HE := Lib.hid (HF1.out hk2x)
                clear hk2x
                go_wp2_with fail
                go_roundw
                case rel => exact (show RFm _ _ _ _ _ _ from ⟨i + 1, by omega, by go_num, by rw [← HE.out], Hw3.out⟩)
                case measure => simp [intOf]; omega
            · exact RI.init3 fbPure (fun k hk v => fbPureT x ad ynm suf D1 D2 D3 s7 s13 s14 s18 s19 s23 s24 s28 s29 k hk v _) (fun k => a0.tmps.getD (fbF k) undef) (putL_self a0 fbF fbS (by kernel_rfl)).symm (R3.init (by kernel_rfl) ⟨hX2.1.drew, below_todrew hX2.2⟩) (by kernel_rfl)

        · exact RI.init3 faPure (fun k hk v => faPureT x kw k1 k2 k3 k hk v _) (fun k => a0.tmps.getD (faF k) undef) (putL_self a0 faF faS (by kernel_rfl)).symm (R3.init (by kernel_rfl) ⟨hX.1.drew, below_todrew hX.2⟩) (by kernel_rfl)

        -- END9
      · obtain rfl : i = n := by omega
        have HT := Lib.hid (show Ly.preF l i = Ly.fmtL l from Ly.preF_all (by omega))
        rw [HT.out] at HP
        go_wp2_with fail
        go_ret2
        exact lformatR_ok Hz.out HP.out.symm hbr
  · have d3 : (Ly.vErr l != 0) = true := by simp [h0]
    have Hz := Lib.hid h0
    clear h0
    go_enter Tryd.func21, Tryd.ntmps21
    go_wp2_with fail
    refine HV.out.mono ?_
    rintro e w1 ⟨rfl, hb1⟩
    go_wp2_with fail
    go_ret2
    exact lformatR_bad Hz.out hb1
end Go.Proofs.YtmjdjcpmkdninaaDoor
