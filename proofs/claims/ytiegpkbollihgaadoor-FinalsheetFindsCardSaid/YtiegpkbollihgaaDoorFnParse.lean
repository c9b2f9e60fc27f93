/- The walk of the program's Parse of a sheet. -/
import Derived.Test.YtiegpkbollihgaaDoorFnTake
import Derived.Test.YtiegpkbollihgaaDoorFnPT
import Derived.Test.YtiegpkbollihgaaDoorFnW7
import Derived.Test.YtiegpkbollihgaaDoorRow
import Derived.Deep.QuietTactic
import Derived.BigQuiet
namespace Go.Proofs.YtiegpkbollihgaaDoor
open Go.RowKit
theorem RdP.below {B rb : Nat} {r : Fn.RS} {W W' : World} (h : RdP B rb r W) (hb : Below W.heap.size W W') : RdP B rb r W' := by
  obtain ⟨vW, vS, b0, b1, b2, b3, b4, b5, b6, hX, oW, oS, h1, h2⟩ := h
  exact ⟨vW, vS, b0, b1, b2, b3, b4, b5, b6, hX.below hb hX.lt, own_below oW hb, own_below oS hb, h1, h2⟩
theorem cutHit_c (p q : List UInt8) (m : Int) (w : World) (hp : (10 : UInt8) ∉ p) (hs : (p ++ 10 :: q).length < 4294967281) (hm : w.cell? ⟨0, 0, none⟩ = some (.int .i64 m)) :
    Calls Tryd.prog 29 #[.string (baOf (p ++ 10 :: q)), .string ⟨#[10]⟩] w fun e w' => e = .returned (.tuple #[.string (baOf p), .string (baOf q), .bool true]) ∧ ∃ n, w' = w.drewN n := by
  refine (Tryd.strings_Cut (baOf (p ++ 10 :: q)) ⟨#[10]⟩ m w (by rw [Fn.ba_size]; exact hs) hm).mono ?_
  rintro e w' ⟨rfl, h⟩
  rw [baOf_data, show (⟨#[10]⟩ : ByteArray).data.toList = [10] from rfl, Tx.cut_some hp]
  exact ⟨rfl, h⟩
theorem cutMiss_c (p : List UInt8) (m : Int) (w : World) (hp : (10 : UInt8) ∉ p) (hs : p.length < 4294967281) (hm : w.cell? ⟨0, 0, none⟩ = some (.int .i64 m)) :
    Calls Tryd.prog 29 #[.string (baOf p), .string ⟨#[10]⟩] w fun e w' => e = .returned (.tuple #[.string (baOf p), .string ⟨#[]⟩, .bool false]) ∧ ∃ n, w' = w.drewN n := by
  refine (Tryd.strings_Cut (baOf p) ⟨#[10]⟩ m w (by rw [Fn.ba_size]; exact hs) hm).mono ?_
  rintro e w' ⟨rfl, h⟩
  rw [baOf_data, show (⟨#[10]⟩ : ByteArray).data.toList = [10] from rfl, Tx.cut_none hp]
  exact ⟨rfl, h⟩
theorem results_c3 {fn : Func} {p u v : Tmp} {ty : TypeId} (h : fn.results = #[.cell p ty, .tmp u, .tmp v]) (tmps : Array Value) {P : Program} {w : World} {g : Nat} {x : Value}
    (hp : tmps.getD p undef = .pointer (some ⟨g, 0, none⟩)) (hl : (loadVar ty ⟨g, 0, none⟩).run P w = .ok x w) :
    (results fn tmps).run P w = .ok (.tuple #[x, tmps.getD u undef, tmps.getD v undef]) w := by
  have hp' : tmps[p]?.getD undef = .pointer (some ⟨g, 0, none⟩) := by simpa using hp
  simp [results, h, hp', asAddr, hl]
theorem load_final {w : World} {g : Nat} {a b c d e f i j k l : Value} (hX : Blk w g 28 #[a, b, c, d, e, f, i, j, k, l]) : (loadVar 28 ⟨g, 0, none⟩).run Tryd.prog w = .ok (.agg #[a, b, c, d, e, f, i, j, k, l]) w :=
  run_loadVar_row w g _ _ _ (0, 0) _ hX Tryd.underlying28 (by rfl) (by kernel_rfl)
theorem fchk_c (s : ByteArray) (n : Nat) (w : World) (hn : n ≤ s.size) (hs : s.size ≤ 20000) :
    Calls Tryd.prog 19 #[.string (s.extract 0 n)] w fun e w' => e = .returned (.int .i64 ((Fn.chkTo s.data.toList n : Nat) : Int)) ∧ w = w' := by
  have h := fcheck_c (s.extract 0 n) w (by unfold maxLen; rw [ByteArray.size_extract]; omega)
  have e : (s.extract 0 n).data.toList = s.data.toList.take n := by simp [ByteArray.data_extract, Array.toList_extract, List.extract]
  rw [e, Fn.chk_take _ _ (by simpa using hn)] at h
  exact h
theorem below_at {w W WR : World} (hb : Below w.heap.size w W) (hg : W.grownBy WR (some w.heap.size)) : Below w.heap.size w WR := hb.grown hg hb.size (fun k e => by cases e; exact Nat.le_refl _)
def sizeOf_ (v : Value) : Nat := match v with | .string s => s.size | _ => 0
/-- The rows lie in new memory. -/
def Fresh (w : World) (A Bs : Option Addr) : Prop := (∀ ad, A = some ad → w.heap.size ≤ ad.block) ∧ ∀ ad, Bs = some ad → w.heap.size ≤ ad.block
theorem Fresh.none_ {w : World} : Fresh w none none := ⟨fun _ h => (by cases h), fun _ h => (by cases h)⟩
theorem fresh_of {w W : World} {B e e' s s' : Nat} {A : Option Addr} {n c : Nat} {xs : List Value} {Bs : Option Addr} {m d : Nat} {ys : List Value} (h : W.ownsRow B e s (.slice A n c) n xs) (k : W.ownsRow B e' s' (.slice Bs m d) m ys) (hB : w.heap.size ≤ B) : Fresh w A Bs :=
  ⟨fun ad ha => Nat.le_trans hB (own_ge h ad.block (by rw [ha]; rfl)), fun ad ha => Nat.le_trans hB (own_ge k ad.block (by rw [ha]; rfl))⟩
theorem reads_far {w w' : World} {size n b : Nat} {A : Option Addr} {xs : List Value} (h : Reads w w.heap.size size A n xs) (hg : w.grownBy w' (some b)) (hA : ∀ ad, A = some ad → ad.block ≠ b) : Reads w' w'.heap.size size A n xs :=
  ⟨h.1, fun hn => by
    obtain ⟨ad, e, hb, hc⟩ := h.2 hn
    exact ⟨ad, e, Nat.lt_of_lt_of_le hb hg.size, fun j u hu => hg.cell (hc j u hu) (by rw [block_of_add]; exact fun e2 => hA ad e (Option.some.inj e2))⟩⟩
theorem FR.far {w w' : World} {A : Option Addr} {n : Nat} {Bs : Option Addr} {m b : Nat} {f : FN} (h : FR w A n Bs m f) (hg : w.grownBy w' (some b)) (hA : ∀ ad, A = some ad → ad.block ≠ b) (hB : ∀ ad, Bs = some ad → ad.block ≠ b) : FR w' A n Bs m f :=
  ⟨reads_far h.ws hg hA, reads_far h.so hg hB, h.hn, h.hm, h.nm, h.hs⟩
def FParseR (s : ByteArray) (w : World) (e : Ending) (w' : World) : Prop := ∃ A n c Bs m d b0 b1 b2 b3 b4 b5 b6, e = .returned (.tuple #[fnV A n c Bs m d (Fn.parse s).1.nm b0 b1 b2 b3 b4 b5 b6, .int .i64 (Fn.parse s).2.1, .int .i64 (Fn.parse s).2.2]) ∧ (Fn.parse s).1.bk = [b0, b1, b2, b3, b4, b5, b6] ∧ FR w' A n Bs m (Fn.parse s).1 ∧ Fresh w A Bs ∧ Below w.heap.size w w'
theorem fparseR_z {s : ByteArray} {w w' : World} {a b : Int} (h : Fn.parse s = (Fn.fnZ, a, b)) (hb : Below w.heap.size w w') : FParseR s w (.returned (.tuple #[.agg #[.string ⟨#[]⟩, .slice none 0 0, .int .i64 0, .int .i64 0, .int .i64 0, .int .i64 0, .int .i64 0, .int .i64 0, .int .i64 0, .slice none 0 0], .int .i64 a, .int .i64 b])) w' := by
  unfold FParseR
  rw [h]
  exact ⟨none, 0, 0, none, 0, 0, 0, 0, 0, 0, 0, 0, 0, rfl, rfl, ⟨WR.nil_, SR.nil_, by decide, by decide, Nat.zero_le _, by intro x hx; cases hx⟩, Fresh.none_, hb⟩
theorem fparseR_ok {s : ByteArray} {w w' : World} {f : FN} {A : Option Addr} {n c : Nat} {Bs : Option Addr} {m d : Nat} {b0 b1 b2 b3 b4 b5 b6 : Int} (h : Fn.parse s = (f, 0, 0)) (hb : f.bk = [b0, b1, b2, b3, b4, b5, b6]) (hr : FR w' A n Bs m f) (hfr : Fresh w A Bs) (hbl : Below w.heap.size w w') : FParseR s w (.returned (.tuple #[fnV A n c Bs m d f.nm b0 b1 b2 b3 b4 b5 b6, .int .i64 0, .int .i64 0])) w' := by
  unfold FParseR
  rw [h]
  exact ⟨A, n, c, Bs, m, d, b0, b1, b2, b3, b4, b5, b6, rfl, hb, hr, hfr, hbl⟩
def PPI (s : ByteArray) (w : World) (v3 v4 v6 v7 v8 : Value) (wr : World) : Prop := ∃ (rest : List UInt8) (k at_ en ahead : Nat) (r : Fn.RS), v3 = .int .i64 0 ∧ v4 = .int .i64 0 ∧ v6 = .int .i64 (k : Int) ∧ v7 = .int .i64 (ahead : Int) ∧ v8 = .string (baOf rest) ∧ at_ + rest.length = s.size ∧ k ≤ at_ ∧ ahead ≤ s.size ∧ (r.part = 3 → ahead = en) ∧ Hid (Fn.parse s = Fn.pAt s.data.toList rest k at_ en r) ∧ RdP (w.heap.size + 1) (w.heap.size + 1) r wr ∧ Hid (Fn.RFit r k) ∧ Blk wr w.heap.size 28 #[.string ⟨#[]⟩, .slice none 0 0, .int .i64 0, .int .i64 0, .int .i64 0, .int .i64 0, .int .i64 0, .int .i64 0, .int .i64 0, .slice none 0 0] ∧ Below w.heap.size w wr
set_option maxRecDepth 100000 in
set_option maxHeartbeats 8000000 in
theorem fparse_c (s : ByteArray) (mm : Int) (w : World) (hs : s.size ≤ maxLen) (hm : w.cell? ⟨0, 0, none⟩ = some (.int .i64 mm)) :
    Calls Tryd.prog 16 #[.string s] w (FParseR s w) := by
  unfold maxLen at hs
  have hsi : (s.size : Int) ≤ 9223372036854775807 := by omega
  have hR0 := Blk.new w 28 #[.string ⟨#[]⟩, .slice none 0 0, .int .i64 0, .int .i64 0, .int .i64 0, .int .i64 0, .int .i64 0, .int .i64 0, .int .i64 0, .slice none 0 0]
  by_cases hbig : 16384 < s.size
  · have d1 : decide (16384 < (s.size : Int)) = true := by simp; omega
    have d1' : decide (16384 < s.size) = true := by simp; omega
    have HE : Hid (Fn.parse s = (Fn.fnZ, 0, 3)) := Lib.hid (by unfold Fn.parse; rw [if_pos hbig])
    clear hbig
    go_enter Tryd.func16, Tryd.ntmps16
    go_wp2_with fail
    (try simp only [Exit.inBlock, Exit.then])
    refine bodyPost_ret (results_c3 rfl _ (by rfl) (load_final hR0)) rfl ?_
    exact fparseR_z HE.out ((Below.refl _ _).alloc (Nat.le_refl _) _)
  · have d1 : decide (16384 < (s.size : Int)) = false := by simp; omega
    have d1' : decide (16384 < s.size) = false := by simp; omega
    have HE := Lib.hid (Fn.parse_at hbig)
    have hs4 : s.size ≤ 16384 := by omega
    have hR1 := hR0.alloc (.cells #[.string ⟨#[]⟩, .slice none 0 0, .int .i64 0, .int .i64 0, .int .i64 0, .int .i64 0, .int .i64 0, .int .i64 0, .int .i64 0, .slice none 0 0, .int .i64 0, .int .i64 0] 65)
    have hX1 := Blk.new (w.alloc (.cells #[.string ⟨#[]⟩, .slice none 0 0, .int .i64 0, .int .i64 0, .int .i64 0, .int .i64 0, .int .i64 0, .int .i64 0, .int .i64 0, .slice none 0 0] 28)) 65 #[.string ⟨#[]⟩, .slice none 0 0, .int .i64 0, .int .i64 0, .int .i64 0, .int .i64 0, .int .i64 0, .int .i64 0, .int .i64 0, .slice none 0 0, .int .i64 0, .int .i64 0]
    have hb1 : Below w.heap.size w ((w.alloc (.cells #[.string ⟨#[]⟩, .slice none 0 0, .int .i64 0, .int .i64 0, .int .i64 0, .int .i64 0, .int .i64 0, .int .i64 0, .int .i64 0, .slice none 0 0] 28)).alloc (.cells #[.string ⟨#[]⟩, .slice none 0 0, .int .i64 0, .int .i64 0, .int .i64 0, .int .i64 0, .int .i64 0, .int .i64 0, .int .i64 0, .slice none 0 0, .int .i64 0, .int .i64 0] 65)) := ((Below.refl _ _).alloc (Nat.le_refl _) _).alloc (by simp) _
    have hsd : s.data.toList.length = s.size := by simp
    have hsb : baOf s.data.toList = s := rfl
    clear hbig hR0
    go_enter Tryd.func16, Tryd.ntmps16
    go_wp2_with fail
    go_loopw [3, 4, 6, 7, 8] (fun v3 v4 v6 v7 v8 wr => PPI s w v3 v4 v6 v7 v8 wr) (fun _ _ _ _ v8 _ => sizeOf_ v8)
    case atStart => exact (show PPI _ _ _ _ _ _ _ _ from ⟨s.data.toList, 0, 0, 0, 0, Fn.rs0, rfl, rfl, rfl, rfl, by rw [hsb], by omega, Nat.le_refl _, by omega, fun h => rfl, HE, ⟨.slice none 0 0, .slice none 0 0, 0, 0, 0, 0, 0, 0, 0, by have := hX1; rw [show (w.alloc (.cells #[.string ⟨#[]⟩, .slice none 0 0, .int .i64 0, .int .i64 0, .int .i64 0, .int .i64 0, .int .i64 0, .int .i64 0, .int .i64 0, .slice none 0 0] 28)).heap.size = w.heap.size + 1 by simp] at this; exact this, World.ownsRow_nil _ _ _ _, World.ownsRow_nil _ _ _ _, rfl, Nat.le_refl _⟩, Lib.hid Fn.RFit.zero, hR1, hb1⟩)
    case round =>
      obtain ⟨rest, k, at_, en, ahead, r, rfl, rfl, rfl, rfl, rfl, hat, hka, hah, hen, HP, hRd, HF, hR, hbr⟩ := hrel
      have hmr := keep_cell hbr hm
      obtain ⟨vW, vS, b0, b1, b2, b3, b4, b5, b6, hX, oW, oS, hbk, hBrb⟩ := id hRd
      have x10 : wr.cell? ⟨w.heap.size + 1, 10, none⟩ = some (.int .i64 (r.part : Int)) := hX.cell 10
      clear hR1 hX1 hb1 HE
      by_cases h0 : rest = []
      · subst h0
        have hem : (baOf []).toList.isEmpty = true := by rw [Lib.toList_data, baOf_data]; rfl
        by_cases h3 : r.part = 3
        · have e3 : ((r.part : Int) != 3) = false := by simp; omega
          have HP2 := Lib.hid (HP.out.trans (Fn.pAt_end h3))
          rw [← hen h3] at HP2
          have x11 : wr.cell? ⟨w.heap.size + 1, 11, none⟩ = some (.int .i64 r.ck) := hX.cell 11
          have h0a : (0 : Int) ≤ (ahead : Int) := by omega
          have hai : (ahead : Int) ≤ (s.size : Int) := by omega
          obtain ⟨ck, hck⟩ : ∃ ck, Fn.chkTo s.data.toList ahead = ck := ⟨_, rfl⟩
          have HCk : Hid (∀ V : World, Calls Tryd.prog 19 #[.string (s.extract 0 ahead)] V fun e w' => e = .returned (.int .i64 (ck : Int)) ∧ w' = V) := Lib.hid (fun V => by have := fchk_c s ahead V hah (by omega); rw [hck] at this; exact this.mono fun _ _ h => ⟨h.1, h.2.symm⟩)
          unfold Fn.fin at HP2
          rw [hck] at HP2
          clear hck hen h3
          go_wp2_with fail
          go_quiet ((go_at_call 19; exact Calls.quiet_of_same (HCk.out _)))
          have hbq := below_drewN hbr nq
          have hXq := hX.drewN nq
          have hRq := hR.drewN nq
          have oWq := own_below oW (below_drewN (Below.refl wr.heap.size wr) nq)
          have oSq := own_below oS (below_drewN (Below.refl wr.heap.size wr) nq)
          clear hX hR oW oS hbr x10 x11 hRd
          generalize wr.drewN nq = w2 at hbq hXq hRq oWq oSq ⊢
          by_cases hck : (ck : Int) = r.ck
          case neg =>
            have dk : ((ck : Int) != r.ck) = true := by simpa using hck
            have HE2 : Hid (Fn.parse s = (Fn.fnZ, (k : Int), 9)) := Lib.hid (by rw [HP2.out, if_pos hck])
            clear hck
            go_wp2_with (with_reducible refine at_st 28 (.tmp 2) (.tmp 66) ?_; go_must (refine wpList_stB rfl 28 (.tmp 2) (.tmp 66) rfl w.heap.size 0 [.string ⟨#[]⟩, .slice none 0 0, .int .i64 0, .int .i64 0, .int .i64 0, .int .i64 0, .int .i64 0, .int .i64 0, .int .i64 0, .slice none 0 0] rfl rfl hRq #[.string ⟨#[]⟩, .slice none 0 0, .int .i64 0, .int .i64 0, .int .i64 0, .int .i64 0, .int .i64 0, .int .i64 0, .int .i64 0, .slice none 0 0] rfl rfl (by kernel_rfl) rfl ?_; intro WR hRR hgR))
            (try simp only [Exit.inBlock, Exit.then])
            refine bodyPost_ret (results_c3 rfl _ (by rfl) (load_final hRR)) rfl ?_
            exact fparseR_z HE2.out (below_at hbq hgR)
          case pos =>
            have dk : ((ck : Int) != r.ck) = false := by simpa using hck
            have HE2 := Lib.hid HP2.out
            rw [if_neg (by simpa using hck)] at HE2
            obtain ⟨Aw, cw, rfl, hcw1, hcw2⟩ := own_form oWq
            obtain ⟨As, cs, rfl, hcs1, hcs2⟩ := own_form oSq
            have hFit := HF.out
            have hFR : FR w2 Aw r.f.ws.length As r.f.so.length r.f := ⟨own_WR oWq, own_SR oSq, by have := hFit.ws; unfold maxLen; omega, by have := hFit.so; unfold maxLen; omega, Nat.le_trans hFit.nm (by decide), fun x hx => ⟨Nat.le_trans (hFit.hs x hx).1 (by decide), Nat.le_trans (hFit.hs x hx).2 (by decide)⟩⟩
            have HV := Lib.hid (fvalid_c Aw r.f.ws.length cw As r.f.so.length cs r.f b0 b1 b2 b3 b4 b5 b6 w2 hbk hFR)
            have Hbk := Lib.hid hbk
            obtain ⟨fe, hfe⟩ : ∃ fe, Fn.fErr r.f = fe := ⟨_, rfl⟩
            rw [hfe] at HV HE2
            have x0 : w2.cell? ⟨w.heap.size + 1, 0, none⟩ = some (.string r.f.nm) := hXq.cell 0
            have x1 : w2.cell? ⟨w.heap.size + 1, 1, none⟩ = some (.slice Aw r.f.ws.length cw) := hXq.cell 1
            have x2 : w2.cell? ⟨w.heap.size + 1, 2, none⟩ = some (.int .i64 b0) := hXq.cell 2
            have x3 : w2.cell? ⟨w.heap.size + 1, 3, none⟩ = some (.int .i64 b1) := hXq.cell 3
            have x4 : w2.cell? ⟨w.heap.size + 1, 4, none⟩ = some (.int .i64 b2) := hXq.cell 4
            have x5 : w2.cell? ⟨w.heap.size + 1, 5, none⟩ = some (.int .i64 b3) := hXq.cell 5
            have x6 : w2.cell? ⟨w.heap.size + 1, 6, none⟩ = some (.int .i64 b4) := hXq.cell 6
            have x7 : w2.cell? ⟨w.heap.size + 1, 7, none⟩ = some (.int .i64 b5) := hXq.cell 7
            have x8 : w2.cell? ⟨w.heap.size + 1, 8, none⟩ = some (.int .i64 b6) := hXq.cell 8
            have x9 : w2.cell? ⟨w.heap.size + 1, 9, none⟩ = some (.slice As r.f.so.length cs) := hXq.cell 9
            unfold fnV at HV
            clear hck hFit hfe hbk
            go_wp2_with fail
            refine HV.out.mono ?_
            rintro e w3 ⟨rfl, hb3⟩
            have hb3' := below_step hbq hb3
            have hX3 := hXq.below hb3 hXq.lt
            have hR3 := hRq.below hb3 hRq.lt
            have oW3 := own_below oWq hb3
            have oS3 := own_below oSq hb3
            clear x0 x1 x2 x3 x4 x5 x6 x7 x8 x9 hRq hXq oWq oSq
            by_cases hz : fe = 0
            case neg =>
              have dz : (fe != 0) = true := by simpa using hz
              have HE3 : Hid (Fn.parse s = (Fn.fnZ, 0, fe)) := Lib.hid (by rw [HE2.out, if_pos hz])
              clear hz
              go_wp2_with (with_reducible refine at_st 28 (.tmp 2) (.tmp 75) ?_; go_must (refine wpList_stB rfl 28 (.tmp 2) (.tmp 75) rfl w.heap.size 0 [.string ⟨#[]⟩, .slice none 0 0, .int .i64 0, .int .i64 0, .int .i64 0, .int .i64 0, .int .i64 0, .int .i64 0, .int .i64 0, .slice none 0 0] rfl rfl hR3 #[.string ⟨#[]⟩, .slice none 0 0, .int .i64 0, .int .i64 0, .int .i64 0, .int .i64 0, .int .i64 0, .int .i64 0, .int .i64 0, .slice none 0 0] rfl rfl (by kernel_rfl) rfl ?_; intro WR hRR hgR))
              (try simp only [Exit.inBlock, Exit.then])
              refine bodyPost_ret (results_c3 rfl _ (by rfl) (load_final hRR)) rfl ?_
              exact fparseR_z HE3.out (below_at hb3' hgR)
            case pos =>
              have dz : (fe != 0) = false := by simpa using hz
              have HE3 : Hid (Fn.parse s = (r.f, 0, 0)) := Lib.hid (by rw [HE2.out, if_neg (by simpa using hz)])
              clear hz
              have x0 : w3.cell? ⟨w.heap.size + 1, 0, none⟩ = some (.string r.f.nm) := hX3.cell 0
              have x1 : w3.cell? ⟨w.heap.size + 1, 1, none⟩ = some (.slice Aw r.f.ws.length cw) := hX3.cell 1
              have x2 : w3.cell? ⟨w.heap.size + 1, 2, none⟩ = some (.int .i64 b0) := hX3.cell 2
              have x3 : w3.cell? ⟨w.heap.size + 1, 3, none⟩ = some (.int .i64 b1) := hX3.cell 3
              have x4 : w3.cell? ⟨w.heap.size + 1, 4, none⟩ = some (.int .i64 b2) := hX3.cell 4
              have x5 : w3.cell? ⟨w.heap.size + 1, 5, none⟩ = some (.int .i64 b3) := hX3.cell 5
              have x6 : w3.cell? ⟨w.heap.size + 1, 6, none⟩ = some (.int .i64 b4) := hX3.cell 6
              have x7 : w3.cell? ⟨w.heap.size + 1, 7, none⟩ = some (.int .i64 b5) := hX3.cell 7
              have x8 : w3.cell? ⟨w.heap.size + 1, 8, none⟩ = some (.int .i64 b6) := hX3.cell 8
              have x9 : w3.cell? ⟨w.heap.size + 1, 9, none⟩ = some (.slice As r.f.so.length cs) := hX3.cell 9
              go_wp2_with (first
                            | (with_reducible refine at_ld 28 (.tmp 79) ?_; go_must (refine wpList_ldB rfl 28 (.tmp 79) rfl (w.heap.size + 1) 0 rfl hX3 [.string r.f.nm, .slice Aw r.f.ws.length cw, .int .i64 b0, .int .i64 b1, .int .i64 b2, .int .i64 b3, .int .i64 b4, .int .i64 b5, .int .i64 b6, .slice As r.f.so.length cs] rfl _ Tryd.underlying28 rfl (by kernel_rfl) ?_))
                            | (with_reducible refine at_st 28 (.tmp 2) (.tmp 80) ?_; go_must (refine wpList_stB rfl 28 (.tmp 2) (.tmp 80) rfl w.heap.size 0 [.string r.f.nm, .slice Aw r.f.ws.length cw, .int .i64 b0, .int .i64 b1, .int .i64 b2, .int .i64 b3, .int .i64 b4, .int .i64 b5, .int .i64 b6, .slice As r.f.so.length cs] rfl rfl hR3 #[.string r.f.nm, .slice Aw r.f.ws.length cw, .int .i64 b0, .int .i64 b1, .int .i64 b2, .int .i64 b3, .int .i64 b4, .int .i64 b5, .int .i64 b6, .slice As r.f.so.length cs] rfl rfl (by kernel_rfl) rfl ?_; intro WR hRR hgR)))
              have oWR := oW3.kept hgR (.inr (own_blk_ne oW3 hR3 (by decide)))
              have oSR := oS3.kept hgR (.inr (own_blk_ne oS3 hR3 (by decide)))
              have HFR := FR.mk (own_WR oWR) (own_SR oSR) hFR.hn hFR.hm hFR.nm hFR.hs
              have HbR := below_at hb3' hgR
              (try simp only [Exit.inBlock, Exit.then])
              refine bodyPost_ret (results_c3 rfl _ (by rfl) (load_final hRR)) rfl ?_
              exact fparseR_ok HE3.out Hbk.out HFR (fresh_of oWR oSR (Nat.le_succ _)) HbR
        · have e3 : ((r.part : Int) != 3) = true := by simp; omega
          have HE2 : Hid (Fn.parse s = (Fn.fnZ, (k : Int) + 1, 6)) := Lib.hid (HP.out.trans (Fn.pAt_none (by simp) (fun h => h3 h.2)))
          clear h3
          go_wp2_with fail
          refine (cutMiss_c [] mm wr (by simp) (by simp) hmr).mono ?_
          rintro e w2 ⟨rfl, nq, rfl⟩
          go_wp2_with (with_reducible refine at_st 28 (.tmp 2) (.tmp 44) ?_; go_must (refine wpList_stB rfl 28 (.tmp 2) (.tmp 44) rfl w.heap.size 0 [.string ⟨#[]⟩, .slice none 0 0, .int .i64 0, .int .i64 0, .int .i64 0, .int .i64 0, .int .i64 0, .int .i64 0, .int .i64 0, .slice none 0 0] rfl rfl (hR.drewN nq) #[.string ⟨#[]⟩, .slice none 0 0, .int .i64 0, .int .i64 0, .int .i64 0, .int .i64 0, .int .i64 0, .int .i64 0, .int .i64 0, .slice none 0 0] rfl rfl (by kernel_rfl) rfl ?_; intro WR hRR hgR))
          (try simp only [Exit.inBlock, Exit.then])
          refine bodyPost_ret (results_c3 rfl _ (by rfl) (load_final hRR)) rfl ?_
          exact fparseR_z HE2.out (below_at (below_drewN hbr nq) hgR)
      · have hne : (baOf rest).toList.isEmpty = false := by
          rw [Lib.toList_data, baOf_data]
          cases rest with
          | nil => exact absurd rfl h0
          | cons a t => rfl
        by_cases h10 : (10 : UInt8) ∈ rest
        · obtain ⟨p, q, rfl, hp⟩ := List.eq_append_cons_of_mem h10
          have hpl : (p ++ 10 :: q).length = p.length + q.length + 1 := by simp; omega
          have Hpl := Lib.hid hpl
          clear h10 h0
          go_wp2_with fail
          refine (cutHit_c p q mm wr hp (by omega) hmr).mono ?_
          rintro e w2 ⟨rfl, nq, rfl⟩
          have hbq := below_drewN hbr nq
          have hRdq := hRd.below (below_drewN (Below.refl wr.heap.size wr) nq)
          have hRq := hR.drewN nq
          clear hRd hX oW oS hbr hR x10
          have hmq := keep_cell hbq hm
          generalize wr.drewN nq = w2 at hbq hRdq hRq hmq ⊢
          have hB2 : w.heap.size + 1 ≤ w2.heap.size := hRq.lt
          have HT := Lib.hid (take_c (w.heap.size + 1) (w.heap.size + 1) p r mm w2 hRdq hB2 (by omega) (by have := HF.out.ws; omega) (by have := HF.out.so; omega) hmq)
          unfold TakeR at HT
          cases ht : Fn.take r (Tx.cutAt 32 p) with
          | none =>
            rw [ht] at HT
            have HE2 : Hid (Fn.parse s = (Fn.fnZ, (k : Int) + 1, 6)) := Lib.hid (HP.out.trans (Fn.pAt_bad hp ht))
            clear ht
            go_wp2_with fail
            refine HT.out.mono ?_
            rintro e w3 ⟨rfl, hb3⟩
            have hb3' := hbq.trans (hb3.mono (Nat.le_succ _))
            have hR3 := hRq.below hb3 (Nat.lt_succ_self _)
            go_wp2_with (with_reducible refine at_st 28 (.tmp 2) (.tmp 44) ?_; go_must (refine wpList_stB rfl 28 (.tmp 2) (.tmp 44) rfl w.heap.size 0 [.string ⟨#[]⟩, .slice none 0 0, .int .i64 0, .int .i64 0, .int .i64 0, .int .i64 0, .int .i64 0, .int .i64 0, .int .i64 0, .slice none 0 0] rfl rfl hR3 #[.string ⟨#[]⟩, .slice none 0 0, .int .i64 0, .int .i64 0, .int .i64 0, .int .i64 0, .int .i64 0, .int .i64 0, .int .i64 0, .slice none 0 0] rfl rfl (by kernel_rfl) rfl ?_; intro WR hRR hgR))
            (try simp only [Exit.inBlock, Exit.then])
            refine bodyPost_ret (results_c3 rfl _ (by rfl) (load_final hRR)) rfl ?_
            exact fparseR_z HE2.out (below_at hb3' hgR)
          | some r' =>
            rw [ht] at HT
            have HP2 := Lib.hid (HP.out.trans (Fn.pAt_good hp ht))
            have HF2 := Lib.hid (Fn.take_fit (by omega) HF.out ht)
            clear ht
            go_wp2_with fail
            refine HT.out.mono ?_
            rintro e w3 ⟨⟨rfl, hRd3⟩, hb3⟩
            have hb3' := hbq.trans (hb3.mono (Nat.le_succ _))
            have hR3 := hRq.below hb3 (Nat.lt_succ_self _)
            have hx3 : w3.cell? ⟨w.heap.size + 1, 10, none⟩ = some (.int .i64 (r'.part : Int)) := by
              obtain ⟨_, _, _, _, _, _, _, _, _, hX3, _⟩ := hRd3
              exact hX3.cell 10
            by_cases h3 : r'.part = 3
            · have e3 : ((r'.part : Int) == 3) = true := by simp; omega
              have haw : (s.size : Int) - ((baOf (p ++ 10 :: q)).size : Int) = (at_ : Int) := by rw [Fn.ba_size]; omega
              have hbz : (baOf (p ++ 10 :: q)).size = (p ++ 10 :: q).length := Fn.ba_size _
              go_wp2_with fail
              go_roundw
              case rel => exact (show PPI _ _ _ _ _ _ _ _ from ⟨q, k + 1, at_ + p.length + 1, at_, at_, r', rfl, rfl, by go_num, by first | rfl | (congr 1; omega), rfl, by rw [Hpl.out] at hat; omega, by omega, by omega, fun _ => rfl, HP2, hRd3, HF2, hR3, hb3'⟩)
              case measure => simp only [sizeOf_, Fn.ba_size]; rw [Hpl.out]; omega
            · have e3 : ((r'.part : Int) == 3) = false := by simp; omega
              go_wp2_with fail
              go_roundw
              case rel => exact (show PPI _ _ _ _ _ _ _ _ from ⟨q, k + 1, at_ + p.length + 1, at_, ahead, r', rfl, rfl, by go_num, rfl, rfl, by rw [Hpl.out] at hat; omega, by omega, hah, fun h => absurd h h3, HP2, hRd3, HF2, hR3, hb3'⟩)
              case measure => simp only [sizeOf_, Fn.ba_size]; rw [Hpl.out]; omega
        · have HE2 : Hid (Fn.parse s = (Fn.fnZ, (k : Int) + 1, 6)) := Lib.hid (HP.out.trans (Fn.pAt_none h10 (fun h => h0 h.1)))
          clear h0
          go_wp2_with fail
          refine (cutMiss_c rest mm wr h10 (by omega) hmr).mono ?_
          rintro e w2 ⟨rfl, nq, rfl⟩
          go_wp2_with (with_reducible refine at_st 28 (.tmp 2) (.tmp 44) ?_; go_must (refine wpList_stB rfl 28 (.tmp 2) (.tmp 44) rfl w.heap.size 0 [.string ⟨#[]⟩, .slice none 0 0, .int .i64 0, .int .i64 0, .int .i64 0, .int .i64 0, .int .i64 0, .int .i64 0, .int .i64 0, .slice none 0 0] rfl rfl (hR.drewN nq) #[.string ⟨#[]⟩, .slice none 0 0, .int .i64 0, .int .i64 0, .int .i64 0, .int .i64 0, .int .i64 0, .int .i64 0, .int .i64 0, .slice none 0 0] rfl rfl (by kernel_rfl) rfl ?_; intro WR hRR hgR))
          (try simp only [Exit.inBlock, Exit.then])
          refine bodyPost_ret (results_c3 rfl _ (by rfl) (load_final hRR)) rfl ?_
          exact fparseR_z HE2.out (below_at (below_drewN hbr nq) hgR)
end Go.Proofs.YtiegpkbollihgaaDoor
