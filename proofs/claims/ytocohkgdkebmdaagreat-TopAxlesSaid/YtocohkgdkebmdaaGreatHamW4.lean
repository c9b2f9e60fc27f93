/- Pack and Unpack at good values; at bytes near code words; at one lost word; one bit of a byte turned. -/
import Derived.Test.YtocohkgdkebmdaaGreatHamW2
namespace Go.Proofs.YtocohkgdkebmdaaGreat
open Go.RowKit
theorem join_bytes (x y : Nat) (hx : x < 256) (hy : y < 256) : bits .or .i64 ((x : Int) * 256) (y : Int) = ((x * 256 + y : Nat) : Int) := by
  rw [show ((x : Int) * 256) = ((x * 256 : Nat) : Int) by omega, i64_or_nat _ _ (by omega) (by omega)]
  congr 1
  exact nat_join 8 _ _ (by omega) (by omega)
set_option maxHeartbeats 1000000 in
theorem unpack_c (A : Option Addr) (n c : Nat) (l : List Int) (w : World) (hn : n ≤ maxLen) (h : IR .u8 w A n l) (hr : ∀ x ∈ l, 0 ≤ x ∧ x < 256) :
    Calls Tryz.prog 26 #[.slice A n c] w fun e w' => ∃ v u, e = .returned (.tuple #[v, u, .int .i64 (Ham.unpE l)]) ∧ w'.ownsRow w.heap.size 3 1 v (Ham.unpackV l).length ((Ham.unpackV l).map (Value.int .i64)) ∧
      w'.ownsRow w.heap.size 3 1 u (Ham.unpackL l).length ((Ham.unpackL l).map (Value.int .i64)) ∧ apart v u ∧ Below w.heap.size w w' := by
  have hl := h.len
  unfold maxLen at hn
  by_cases hbig : 131072 < n
  · have he : Ham.unpE l = 3 := by simp [Ham.unpE, hl, hbig]
    have hv : Ham.unpackV l = [] ∧ Ham.unpackL l = [] := by simp [Ham.unpackV, Ham.unpackL, he]
    have He := Lib.hid he
    have Hv := Lib.hid hv
    clear he hv
    go_enter Tryz.func26, Tryz.ntmps26
    go_wp2_with fail
    go_ret3
    refine ⟨_, _, by rw [He.out]; rfl, ?_, ?_, .inl rfl, Below.refl _ _⟩
    · rw [Hv.out.1]; exact World.ownsRow_nil _ _ _ _
    · rw [Hv.out.2]; exact World.ownsRow_nil _ _ _ _
  · have hd1 : decide (131072 < (n : Int)) = false := by simp; omega
    by_cases hodd : n % 2 = 1
    · have he : Ham.unpE l = 10 := by simp [Ham.unpE, hl, hbig, hodd]
      have hv : Ham.unpackV l = [] ∧ Ham.unpackL l = [] := by simp [Ham.unpackV, Ham.unpackL, he]
      have He := Lib.hid he
      have Hv := Lib.hid hv
      have ho : ((n : Int) % 2 == 1) = true := by simp; omega
      clear he hv hodd
      go_enter Tryz.func26, Tryz.ntmps26
      go_wp2_with fail
      go_ret3
      refine ⟨_, _, by rw [He.out]; rfl, ?_, ?_, .inl rfl, Below.refl _ _⟩
      · rw [Hv.out.1]; exact World.ownsRow_nil _ _ _ _
      · rw [Hv.out.2]; exact World.ownsRow_nil _ _ _ _
    · have he : Ham.unpE l = 0 := by rw [Ham.unpE, if_neg (by omega), if_neg (by omega)]
      have hv : Ham.unpackV l = Ham.unpV l (n / 2) ∧ Ham.unpackL l = Ham.unpL l (n / 2) := by simp [Ham.unpackV, Ham.unpackL, he, hl]
      have He := Lib.hid he
      have Hv := Lib.hid hv
      have ho : ((n : Int) % 2 == 1) = false := by simp; omega
      clear he hv
      go_enter Tryz.func26, Tryz.ntmps26
      go_wp2_with fail
      go_loopw [5, 6, 7, 8, 9, 10] (fun v u p _ _ _ wr => ∃ i k : Nat, i ≤ n ∧ Hid (i = 2 * k) ∧ p = .int .i64 i ∧ wr.ownsRow w.heap.size 3 1 v k ((Ham.unpV l k).map (Value.int .i64)) ∧
        wr.ownsRow w.heap.size 3 1 u (Ham.unpL l k).length ((Ham.unpL l k).map (Value.int .i64)) ∧ apart v u ∧ Below w.heap.size w wr) (fun _ _ p _ _ _ _ => n - (intOf p).toNat)
      case atStart => exact ⟨0, 0, by omega, Lib.hid rfl, rfl, World.ownsRow_nil _ _ _ _, World.ownsRow_nil _ _ _ _, .inl rfl, Below.refl _ _⟩
      case round =>
        obtain ⟨i, k, hi, hik, rfl, hown, hownl, hap, hbr⟩ := hrel
        by_cases hlt : i < n
        · have hi1 : i + 1 < n := by have := hik.out; omega
          have hkn : k < n := by have := hik.out; omega
          obtain ⟨ad, rfl, hba, hca⟩ := h.at_ (i := i) (by omega)
          obtain ⟨ad', hea, _, hcb⟩ := h.at_ (i := i + 1) (by omega)
          obtain rfl : ad = ad' := by simpa using hea
          have hca' := IR.cell hca hba hbr
          have hcb' := IR.cell hcb hba hbr
          have hwl := Ham.wordAt_lt l k hr
          have g1 : 0 ≤ l.getD i 0 ∧ l.getD i 0 < 256 := hr _ (getD_mem l _ (by omega))
          have g2 : 0 ≤ l.getD (i + 1) 0 ∧ l.getD (i + 1) 0 < 256 := hr _ (getD_mem l _ (by omega))
          have hvs := Lib.hid (Ham.unpV_succ l k)
          have hwa : Ham.wordAt l k = (l.getD i 0).toNat * 256 + (l.getD (i + 1) 0).toNat := by rw [hik.out]; rfl
          obtain ⟨x, hx⟩ := Int.eq_ofNat_of_zero_le g1.1
          obtain ⟨y, hy⟩ := Int.eq_ofNat_of_zero_le g2.1
          rw [hx] at hca' g1 hwa
          rw [hy] at hcb' g2 hwa
          have hj : bits .or .i64 ((x : Int) * 256) (y : Int) = ((Ham.wordAt l k : Nat) : Int) := by rw [hwa]; exact join_bytes x y (by omega) (by omega)
          have hcb2 : wr.cell? ⟨ad.block, ad.off + (i + 1), none⟩ = some (.int .u8 y) := by simpa [Addr.add] using hcb'
          clear hca hcb hea hx hy hwa hcb'
          have s1 : IntKind.i64.wrap ((i : Int) + 1) = (i : Int) + 1 := IntWalk.i64_in _ ⟨by omega, by omega⟩
          have s2 : ((i : Int) + 1).toNat = i + 1 := by omega
          have s3 : 0 ≤ (i : Int) + 1 := by omega
          have s4 : (i : Int) + 1 < (n : Int) := by omega
          have s5 : IntKind.i64.wrap (x : Int) = (x : Int) := IntWalk.i64_in _ ⟨by omega, by omega⟩
          have s6 : IntKind.i64.wrap ((x : Int) * 256) = (x : Int) * 256 := IntWalk.i64_in _ ⟨by omega, by omega⟩
          have s7 : IntKind.i64.wrap (y : Int) = (y : Int) := IntWalk.i64_in _ ⟨by omega, by omega⟩
          generalize hxw : Ham.wordAt l k = xw at hj hwl
          have Hxw := Lib.hid hxw
          clear hxw
          have hvl := Ham.decV_lt xw
          have hll := Ham.unpL_len l k
          by_cases hE : Ham.decE xw = 0
          · obtain ⟨dv, hdv⟩ : ∃ dv, Ham.decV xw = dv := ⟨_, rfl⟩
            have hva : Ham.vAt l k = (dv : Int) := by rw [Ham.vAt, Hxw.out, if_pos hE, hdv]
            have hls := Lib.hid (Ham.unpL_kept l k (by rw [Hxw.out]; exact hE))
            have Hva := Lib.hid hva
            have Hd := Lib.hid (decode_nat xw dv _ 0 hwl ⟨hdv, rfl, hE⟩)
            rw [hdv] at hvl
            clear hva hE hdv
            go_wp2_with fail
            go_region_held3 (fun W => W.cell? (ad.add i) = some (.int .u8 x) ∧ W.cell? ⟨ad.block, ad.off + (i + 1), none⟩ = some (.int .u8 y)) (first | exact ⟨hca', hcb2⟩ | exact ⟨keep_cell_d hb3 hca', keep_cell_d hb3 hcb2⟩) (first | (go_at_call 47; refine (Hd.out _).mono ?_; rintro e w3 ⟨rfl, hb3⟩))
            clear s1 s2 s3 s4 s5 s6 s7 hj
            have hb3' := below_drew' hb3
            have hown3 := own_below hown hb3'
            have hownl3 := own_below hownl hb3'
            have hbr3 := below_step hbr hb3'
            clear hown hownl hbr hb3 hb3'
            go_wp2_with (at_builtin; refine wpList_push sl_int_b rfl (.tmp 49) (.tmp 51) rfl w.heap.size _ _ _ rfl hown3 1 1 rfl rfl rfl (by simp only [maxLen]; omega) (by omega) hbr3.size ?_; intro v1 w4 hown4 hgr4)
            have hownl4 := hgr4.keep hownl3 hap.symm
            have hap4 := (hgr4.apart_l hownl3 hap.symm).symm
            have hb4 := hbr3.trans (hgr4.below (own_ge hown3) hbr3.size)
            clear hown3 hgr4 hownl3 hap hbr3
            go_wp2_with fail
            go_roundw
            case rel => exact ⟨i + 2, k + 1, by omega, Lib.hid (by have := hik.out; omega), by go_num, by rw [hvs.out, Hva.out]; simpa using hown4, by rw [hls.out]; exact hownl4, hap4, hb4⟩
            case measure => simp [intOf]; omega
          · have hE9 : Ham.decE xw = 9 := (Ham.decE_of xw).resolve_left hE
            have hva : Ham.vAt l k = -1 := by rw [Ham.vAt, Hxw.out, if_neg hE]
            have hls := Lib.hid (Ham.unpL_lost l k (by rw [Hxw.out]; exact hE))
            have Hva := Lib.hid hva
            have Hd := Lib.hid (decode_nat xw _ _ 9 hwl ⟨rfl, rfl, hE9⟩)
            have hq : (i : Int) / 2 = (k : Int) := by have := hik.out; omega
            have Hq := Lib.hid hq
            clear hva hE hE9 hq
            go_wp2_with fail
            go_region_held3 (fun W => W.cell? (ad.add i) = some (.int .u8 x) ∧ W.cell? ⟨ad.block, ad.off + (i + 1), none⟩ = some (.int .u8 y)) (first | exact ⟨hca', hcb2⟩ | exact ⟨keep_cell_d hb3 hca', keep_cell_d hb3 hcb2⟩) (first | (go_at_call 47; refine (Hd.out _).mono ?_; rintro e w3 ⟨rfl, hb3⟩))
            clear s1 s2 s3 s4 s5 s6 s7 hj
            have hb3' := below_drew' hb3
            have hown3 := own_below hown hb3'
            have hownl3 := own_below hownl hb3'
            have hbr3 := below_step hbr hb3'
            clear hown hownl hbr hb3 hb3'
            go_wp2_with (first
              | (at_builtin
                 refine wpList_push sl_int_b rfl (.tmp 44) (.tmp 47) rfl w.heap.size _ _ _ rfl hownl3 1 1 rfl rfl rfl (by simp only [maxLen]; omega) (by omega) hbr3.size ?_
                 intro u1 w4 hownl4 hgr4
                 have hown4 := hgr4.keep hown3 hap
                 have hap4 := hgr4.apart_l hown3 hap
                 have hb4 := hbr3.trans (hgr4.below (own_ge hownl3) hbr3.size)
                 clear hown3 hgr4 hownl3 hap hbr3)
              | (at_builtin
                 refine wpList_push sl_int_b rfl (.tmp 49) (.tmp 51) rfl w.heap.size _ _ _ rfl hown4 1 1 rfl rfl rfl (by simp only [maxLen]; omega) (by omega) hb4.size ?_
                 intro v1 w5 hown5 hgr5
                 have hownl5 := hgr5.keep hownl4 hap4.symm
                 have hap5 := (hgr5.apart_l hownl4 hap4.symm).symm
                 have hb5 := hb4.trans (hgr5.below (own_ge hown4) hb4.size)
                 clear hown4 hgr5 hownl4 hap4 hb4))
            go_wp2_with fail
            go_roundw
            case rel =>
              refine ⟨i + 2, k + 1, by omega, Lib.hid (by have := hik.out; omega), by go_num, by rw [hvs.out, Hva.out]; simpa using hown5, ?_, hap5, hb5⟩
              rw [hls.out]
              have := Hq.out
              simpa [this] using hownl5
            case measure => simp [intOf]; omega
        · obtain rfl : i = n := by omega
          have hk2 : k = i / 2 := by have := hik.out; omega
          have Hk2 := Lib.hid hk2
          clear hk2
          go_wp2_with fail
          go_ret3
          refine ⟨_, _, by rw [He.out]; rfl, ?_, ?_, hap, hbr⟩
          · rw [Hv.out.1, Ham.unpV_len, ← Hk2.out]; exact hown
          · rw [Hv.out.2, ← Hk2.out]; exact hownl
end Go.Proofs.YtocohkgdkebmdaaGreat
namespace Go.Proofs.YtocohkgdkebmdaaGreat
open Go.RowKit
theorem pack_ok (A : Option Addr) (n c : Nat) (l : List Int) (w : World) (hn : n ≤ 65536) (h : IR .i64 w A n l) (hr : ∀ v ∈ l, 0 ≤ v ∧ v < 2048) :
    Calls Tryz.prog 25 #[.slice A n c] w fun e w' => ∃ v, e = .returned (.tuple #[v, .int .i64 0]) ∧ w'.ownsRow w.heap.size 5 1 v (2 * n) ((Ham.encB l).map (Value.int .u8)) ∧ Below w.heap.size w w' := by
  have hl := h.len
  have hv := Ham.vals_ok l hr
  have he : Ham.packE l = 0 := by rw [Ham.packE, if_neg (by omega), if_pos hv]
  have hb : Ham.packB l = Ham.encB l := by rw [Ham.packB, if_neg (by omega), if_pos hv]
  have hlen : (Ham.encB l).length = 2 * n := by rw [Ham.encB_len, hl]
  refine (pack_c A n c l w (by simp only [maxLen]; omega) h).mono fun e w' ⟨v, h1, h2, h3⟩ => ⟨v, by rw [h1, he], ?_, h3⟩
  rwa [hb, hlen] at h2
theorem u8_flip (x p : Nat) (hx : x < 256) : bits .xor .u8 (x : Int) (2 ^ (p % 8) % 256) = ((x ^^^ 2 ^ (p % 8) : Nat) : Int) := by
  have h1 : 2 ^ (p % 8) < 2 ^ 8 := Nat.pow_lt_pow_right (by decide) (by omega)
  have h2 : (2 : Int) ^ (p % 8) % 256 = ((2 ^ (p % 8) : Nat) : Int) := by
    rw [show ((2 : Int) ^ (p % 8)) = ((2 ^ (p % 8) : Nat) : Int) by simp]
    generalize 2 ^ (p % 8) = q at h1 ⊢
    omega
  rw [h2, u8_xor_nat _ _ hx (by omega)]
end Go.Proofs.YtocohkgdkebmdaaGreat
