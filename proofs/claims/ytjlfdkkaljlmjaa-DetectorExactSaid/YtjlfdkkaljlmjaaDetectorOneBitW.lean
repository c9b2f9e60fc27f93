/- The walk of 'DetectorOneBit'; Decode at bytes near the words of a valid list. -/
import Derived.Test.YtjlfdkkaljlmjaaDetectorShortW
import Derived.Test.YtjlfdkkaljlmjaaDetLaws2
import Derived.Test.YtjlfdkkaljlmjaaDetFlip
namespace Go.Proofs.Ytjlfdkkaljlmjaa
open Go.RowKit
theorem in17' (v : Int) : ∃ n : Nat, n < 17 ∧ ((v.tmod 17 + 17) % 17) = (n : Int) := by
  have := mod_bd (v.tmod 17 + 17) 17 (by omega)
  exact ⟨((v.tmod 17 + 17) % 17).toNat, by omega, by omega⟩
/-- What Decode gives where the words carry the values V. -/
theorem dec_of {V B : List Int} {P : List V3} {G : List (Int × Int)} (hE : Ham.unpE B = 0) (hV : Ham.unpackV B = V) (hp : Det.parse V = (P, G)) (hl : P.length ≤ 4096) : Det.decE B = 0 ∧ Det.decP B = P ∧ Det.decG B = G := by
  have h1 : Det.decE B = 0 := by rw [Det.decE, if_neg (by omega), hV, hp, if_neg (by simp only; omega)]
  refine ⟨h1, ?_, ?_⟩
  · rw [Det.decP, if_pos h1, hV, hp]
  · rw [Det.decG, if_pos h1, hV, hp]
theorem decode_as (A : Option Addr) (n c : Nat) (B : List Int) (P : List V3) (G : List (Int × Int)) (w : World) (hn : n ≤ maxLen) (h : IR .u8 w A n B) (hr : ∀ x ∈ B, 0 ≤ x ∧ x < 256) (hd : Det.decE B = 0 ∧ Det.decP B = P ∧ Det.decG B = G) (np ng : Nat) (hnp : P.length = np) (hng : G.length = ng) :
    Calls Try.prog 33 #[.slice A n c] w fun e w' => ∃ v u, e = .returned (.tuple #[v, u, .int .i64 0]) ∧ w'.ownsRow w.heap.size 41 3 v np (flat3 P) ∧ w'.ownsRow w.heap.size 67 2 u ng (flat2 G) ∧ Below w.heap.size w w' := by
  refine (ddecode_c A n c B w hn h hr).mono fun e w' ⟨v, u, h1, h2, h3, h4⟩ => ⟨v, u, by rw [h1, hd.1], ?_, ?_, h4⟩
  · rw [hd.2.1, hnp] at h2; exact h2
  · rw [hd.2.2, hng] at h3; exact h3
set_option linter.unusedVariables false in
set_option maxRecDepth 100000 in
set_option maxHeartbeats 2000000 in
theorem walk_DetectorOneBit (a0 : Option Addr) (len0 cap0 : Nat) (z0 : List Int) (a1 : Option Addr) (len1 cap1 : Nat) (z1 : List Int) (w : World) (w0 : IsRow .i64 w a0 len0 cap0 z0) (w1 : IsRow .i64 w a1 len1 cap1 z1) :
    Calls Try.prog 11 #[.slice a0 len0 cap0, .slice a1 len1 cap1] w fun e w' => e = .returned (.bool true) ∧ Below w.heap.size w w' := by
  obtain ⟨r0, m0, _⟩ := w0.reads
  obtain ⟨r1, m1, _⟩ := w1.reads
  clear w0 w1
  generalize z0.take len0 = l0 at r0
  generalize z1.take len1 = l1 at r1
  have m1' := m1
  unfold maxLen at m1'
  go_enter Try.func11, Try.ntmps11
  go_wp2_with fail
  refine (new_c _ _ _ _ _ m0 r0).mono ?_
  rintro e w1 ⟨rfl, hm1, hb1, hz1⟩
  go_wp2_with fail
  refine (pulses_c w.heap.size w.heap.size 0 30 w1 hm1 (by omega) (by omega)).mono ?_
  rintro e w2 ⟨v2, l, c', rfl, own2, hl30, hmade, _, hm2, hg2⟩
  have hb2 := hb1.trans (grown_below hg2 hb1.size (Nat.le_refl _))
  obtain ⟨A2, c2, rfl, k2, k2'⟩ := own_form own2
  clear hm1 hz1 hm2 hg2
  obtain ⟨G, g1, g2, g3⟩ := Det.vals_len _ l (Nat.le_refl _)
  have Hok := Lib.hid hmade.ok
  have Hvr := Lib.hid (Det.vals_range _ l (Nat.le_refl _) hmade.ok)
  have Hpar := Lib.hid (Det.parse_one l hmade.ok)
  clear hmade
  obtain ⟨n, hn⟩ : ∃ n, l.length = n := ⟨_, rfl⟩
  rw [hn] at own2 hl30 k2 g1 g2 g3 ⊢
  have Hn := Lib.hid hn
  clear hn
  go_wp2_with fail
  refine (encode_made _ n _ l _ k2 k2' (own_VR own2) Hok.out (by omega)).mono ?_
  rintro e w3 ⟨v3, rfl, own3, hb3⟩
  have hap := apart_old own2 own3 (Nat.le_refl _)
  obtain ⟨A3, c3, rfl, _, _⟩ := own_form own3
  have hb3a := below_step hb2 hb3
  have own2a := own_more (own_below own2 hb3) hb1.size
  have own3a := own_more own3 hb2.size
  obtain ⟨m, hm⟩ : ∃ m, (Det.vals l).length = m := ⟨_, rfl⟩
  rw [hm] at own3a g1 ⊢
  generalize Det.vals l = V at own3a Hvr Hpar hm
  have Hm := Lib.hid hm
  have e1 : (2 * (m : Int)) % 2 = 0 := by omega
  have e2 : (2 * (m : Int)) / 2 = (m : Int) := by omega
  have hm200 : m ≤ 200 := by omega
  clear hm own3 own2 hb3 hb2 hb1 g1 g2 g3
  go_wp2_with fail
  go_loopw [8, 9] (fun p _ wr => ∃ (k : Nat) (B : List Int), k ≤ m ∧ p = .int .i64 k ∧ Ham.Near V B ∧ Hid (∀ j, k ≤ j → j < m → Ham.wordAt B j = Ham.word (V.getD j 0).toNat) ∧
    wr.ownsRow w.heap.size 5 1 (.slice A3 (2 * m) c3) (2 * m) (B.map (Value.int .u8)) ∧ wr.ownsRow w.heap.size 41 3 (.slice A2 n c2) n (flat3 l) ∧ Below w.heap.size w wr) (fun p _ _ => m - (intOf p).toNat)
  case atStart => exact ⟨0, _, by omega, rfl, Ham.Near.enc V, Lib.hid (fun j _ hj => Ham.wordAt_enc V j (by rw [Hm.out]; exact hj)), own3a, own2a, hb3a⟩
  case round =>
    obtain ⟨k, B, hk, rfl, hnear, hrest, own3r, own2r, hbr⟩ := hrel
    by_cases hlt : k < m ∧ 0 < len1
    · obtain ⟨hlt, h1⟩ := hlt
      obtain ⟨g, cap, hform, hbg, hgl⟩ := own3r.form (by omega)
      simp only [Value.slice.injEq, true_and] at hform
      obtain ⟨rfl, rfl⟩ := hform
      have hq1 : k % len1 < len1 := Nat.mod_lt _ h1
      have hqi : (k : Int) % (len1 : Int) = ((k % len1 : Nat) : Int) := by omega
      generalize k % len1 = q at hq1 hqi
      obtain ⟨bd, rfl, hbb, hcb⟩ := r1.at_ hq1
      have hcb' := IR.cell hcb hbb hbr
      generalize l1.getD q 0 = x at hcb'
      obtain ⟨p, hp17, hpx⟩ := in17' x
      have hxt := tmod_bd x 17 (by omega)
      clear hcb
      by_cases hp : p < 16
      · have hfc := Lib.hid (flip_c w.heap.size g (2 * m) c3 k p B wr (by simp only [maxLen]; omega) own3r hnear.range (by omega) hp)
        go_wp2_with fail
        refine (hfc.out).mono ?_
        rintro e w5 ⟨rfl, own5, hg5⟩
        have own2s := own2r.kept hg5 (by
          rcases hap with ha | ha
          · exact .inl ha
          · exact .inr ha)
        have hb5 := hbr.grown hg5 hbr.size (fun b hb => by cases hb; exact hbg)
        go_wp2_with fail
        go_roundw
        case rel =>
          refine ⟨k + 1, Ham.flipB B k p, by omega, by go_num, hnear.flip k p (by rw [Hm.out]; exact hlt) hp (hrest.out k (Nat.le_refl _) hlt), Lib.hid (fun i hi hin => ?_), own5, own2s, hb5⟩
          rw [Ham.wordAt_flip_other _ _ _ _ hp (by have := hnear.len; rw [Hm.out] at this; omega) (by omega)]
          exact hrest.out i (by omega) hin
        case measure => simp [intOf]; omega
      · obtain rfl : p = 16 := by omega
        go_wp2_with fail
        go_roundw
        case rel => exact ⟨k + 1, B, by omega, by go_num, hnear, Lib.hid (fun i hi hin => hrest.out i (by omega) hin), own3r, own2r, hbr⟩
        case measure => simp [intOf]; omega
    · have hun := hnear.unpack Hvr.out (by rw [Hm.out]; omega)
      have hdec := Lib.hid (dec_of hun.1 hun.2.1 Hpar.out (by rw [Hn.out]; omega))
      have hBr := Lib.hid hnear.range
      have hcase : (k < m ∧ len1 = 0) ∨ (k = m) := by omega
      clear hun hlt
      have hdc := Lib.hid (fun W (hI : IR .u8 W A3 (2 * m) B) => decode_as A3 (2 * m) c3 B l [] W (by simp only [maxLen]; omega) hI hBr.out hdec.out n 0 Hn.out rfl)
      rcases hcase with ⟨hc1, rfl⟩ | rfl
      all_goals
        go_wp2_with fail
        refine (hdc.out _ (own_IR own3r)).mono ?_
        rintro e w6 ⟨v6, u6, rfl, own6, own6', hb6⟩
        obtain ⟨A6, c6, rfl, k6, k6'⟩ := own_form own6
        obtain ⟨B6, d6, rfl, _, _⟩ := own_form own6'
        have own2s := own_below own2r hb6
        have hb6a := below_step hbr hb6
        clear hb6 hbr own2r own3r own3a own2a hb3a
        go_wp2_with fail
        refine (gpulses_eq _ _ _ _ _ _ _ _ (Nat.le_trans k6 k6') (own_VR own6) (own_VR own2s)).mono ?_
        rintro e w7 ⟨rfl, hb7⟩
        have hb7a := below_step hb6a hb7
        clear hb7 hb6a
        go_wp2_with fail
        refine (sane04_c _).mono ?_
        rintro e w8 ⟨rfl, hb8⟩
        go_wp2_with fail
        go_ret
        exact ⟨rfl, below_step hb7a hb8⟩
end Go.Proofs.Ytjlfdkkaljlmjaa
