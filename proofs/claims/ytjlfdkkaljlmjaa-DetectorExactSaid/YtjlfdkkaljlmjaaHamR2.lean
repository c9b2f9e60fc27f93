/- The walks of layer 3's reference: Decode, Distance, Pack, Unpack. -/
import Derived.Test.YtjlfdkkaljlmjaaHamR1
namespace Go.Proofs.Ytjlfdkkaljlmjaa
open Go.RowKit
theorem odd_test (n : Nat) : Ham.oddTo n 16 = decide (Ham.pop n % 2 = 1) := by
  unfold Ham.oddTo Ham.pop
  rcases Nat.mod_two_eq_zero_or_one (Ham.popTo n 16) with g | g <;> rw [g] <;> decide
set_option maxHeartbeats 800000 in
theorem decode_r (v : Int) (w : World) :
    Calls Try.prog 75 #[.int .i64 v] w fun e w' => e = .returned (.tuple #[.int .i64 (Ham.dV v), .int .i64 (Ham.dB v), .int .i64 (Ham.dE v)]) ∧ Below w.heap.size w w' := by
  by_cases h : v < 0 ∨ 65535 < v
  · have hr : Ham.dV v = 0 ∧ Ham.dB v = 0 ∧ Ham.dE v = 2 := by simp [Ham.dV, Ham.dB, Ham.dE, h]
    have Hr := Lib.hid hr
    clear hr
    by_cases h0 : v < 0
    · clear h
      go_enter Try.func75, Try.ntmps75
      go_wp2_with fail
      go_ret3
      exact ⟨ret3v Hr.out.1.symm Hr.out.2.1.symm Hr.out.2.2.symm, Below.refl _ _⟩
    · have h1 : 65535 < v := by omega
      clear h
      go_enter Try.func75, Try.ntmps75
      go_wp2_with fail
      go_ret3
      exact ⟨ret3v Hr.out.1.symm Hr.out.2.1.symm Hr.out.2.2.symm, Below.refl _ _⟩
  · obtain ⟨n, rfl⟩ := Int.eq_ofNat_of_zero_le (show 0 ≤ v by omega)
    have hr : Ham.dV (n : Int) = (Ham.decV n : Nat) ∧ Ham.dB (n : Int) = Ham.decB n ∧ Ham.dE (n : Int) = Ham.decE n := by
      refine ⟨?_, ?_, ?_⟩
      · rw [Ham.dV, if_neg h]; rfl
      · rw [Ham.dB, if_neg h]; rfl
      · rw [Ham.dE, if_neg h]; rfl
    have Hr := Lib.hid hr
    clear hr
    have h1 : n < 65536 := by omega
    clear h
    have hs := Ham.syn_lt n
    by_cases hp : Ham.pop n % 2 = 1
    · have hd : Ham.decV n = Ham.val (n ^^^ 2 ^ Ham.syn n) ∧ Ham.decB n = (Ham.syn n : Nat) ∧ Ham.decE n = 0 := by simp [Ham.decV, Ham.decB, Ham.decE, hp]
      have Hd := Lib.hid hd
      have ho : Ham.oddTo n 16 = true := by rw [odd_test]; simp [hp]
      have hx := flip_word n (Ham.syn n) h1 hs
      have hxl := Ham.xor16 h1 (Ham.pow16 (show Ham.syn n ≤ 15 by omega))
      clear hd hp
      go_enter Try.func75, Try.ntmps75
      go_wp2_with fail
      refine (syndrome_r _ h1 _).mono ?_
      rintro e w3 ⟨rfl, rfl⟩
      rw [ho]
      clear ho
      go_wp2_with fail
      refine (value_r _ hxl _).mono ?_
      rintro e w3 ⟨rfl, hb3⟩
      go_wp2_with fail
      go_ret3
      exact ⟨ret3v (by rw [Hr.out.1, Hd.out.1]) (by rw [Hr.out.2.1, Hd.out.2.1]) (by rw [Hr.out.2.2, Hd.out.2.2]), hb3⟩
    · have ho : Ham.oddTo n 16 = false := by rw [odd_test]; simp [hp]
      by_cases h0 : Ham.syn n = 0
      · have hd : Ham.decV n = Ham.val n ∧ Ham.decB n = -1 ∧ Ham.decE n = 0 := by simp [Ham.decV, Ham.decB, Ham.decE, hp, h0]
        have Hd := Lib.hid hd
        have h0' : (((Ham.syn n : Nat) : Int) != 0) = false := by simp [h0]
        clear hd hp h0
        go_enter Try.func75, Try.ntmps75
        go_wp2_with fail
        refine (syndrome_r _ h1 _).mono ?_
        rintro e w3 ⟨rfl, rfl⟩
        rw [ho]
        clear ho
        go_wp2_with fail
        refine (value_r _ h1 _).mono ?_
        rintro e w3 ⟨rfl, hb3⟩
        go_wp2_with fail
        go_ret3
        exact ⟨ret3v (by rw [Hr.out.1, Hd.out.1]) (by rw [Hr.out.2.1, Hd.out.2.1]) (by rw [Hr.out.2.2, Hd.out.2.2]), hb3⟩
      · have hd : Ham.decV n = 0 ∧ Ham.decB n = 0 ∧ Ham.decE n = 9 := by simp [Ham.decV, Ham.decB, Ham.decE, hp, h0]
        have Hd := Lib.hid hd
        have h0' : (((Ham.syn n : Nat) : Int) != 0) = true := by simp [h0]
        clear hd hp h0
        go_enter Try.func75, Try.ntmps75
        go_wp2_with fail
        refine (syndrome_r _ h1 _).mono ?_
        rintro e w3 ⟨rfl, rfl⟩
        rw [ho]
        clear ho
        go_wp2_with fail
        go_ret3
        exact ⟨ret3v (by rw [Hr.out.1, Hd.out.1]; rfl) (by rw [Hr.out.2.1, Hd.out.2.1]) (by rw [Hr.out.2.2, Hd.out.2.2]), Below.refl _ _⟩
theorem decode_nat_r (x v : Nat) (b e0 : Int) (hx : x < 65536) (h : Ham.decV x = v ∧ Ham.decB x = b ∧ Ham.decE x = e0) (w : World) :
    Calls Try.prog 75 #[.int .i64 x] w fun e w' => e = .returned (.tuple #[.int .i64 v, .int .i64 b, .int .i64 e0]) ∧ Below w.heap.size w w' :=
  (decode_r x w).mono fun _ _ ⟨he, hb⟩ => ⟨by
    rw [he, Ham.dV, Ham.dB, Ham.dE, if_neg (by omega), if_neg (by omega), if_neg (by omega), Int.toNat_natCast, h.1, h.2.1, h.2.2], hb⟩

/- Distance -/
theorem pop_halves (x f : Nat) : Ham.popTo x (f + 1) = x % 2 + Ham.popTo (x / 2) f := Ham.popTo_half x f
theorem popTo_stop (x f : Nat) (h : x < 2 ^ f) (g : Nat) (hg : f ≤ g) : Ham.popTo x g = Ham.popTo x f := by
  induction g with
  | zero => obtain rfl : f = 0 := by omega
            rfl
  | succ g ih =>
    by_cases he : f = g + 1
    · rw [he]
    · have h2 : x < 2 ^ g := Nat.lt_of_lt_of_le h (Nat.pow_le_pow_right (by decide) (by omega))
      rw [Ham.popTo, ih (by omega), Nat.div_eq_of_lt h2]
      omega
theorem pop_half (x : Nat) (h : x < 65536) : Ham.pop x = x % 2 + Ham.pop (x / 2) := by
  have h1 := popTo_stop x 16 h 17 (by omega)
  rw [pop_halves] at h1
  exact h1.symm
/- Pack -/
set_option maxHeartbeats 1000000 in
theorem pack_r (A : Option Addr) (n c : Nat) (l : List Int) (w : World) (hn : n ≤ maxLen) (h : IR .i64 w A n l) :
    Calls Try.prog 56 #[.slice A n c] w fun e w' => ∃ v, e = .returned (.tuple #[v, .int .i64 (Ham.packE l)]) ∧ w'.ownsRow w.heap.size 5 1 v (Ham.packB l).length ((Ham.packB l).map (Value.int .u8)) ∧ Below w.heap.size w w' := by
  have hl := h.len
  unfold maxLen at hn
  by_cases hbig : 65536 < n
  · have hr : Ham.packE l = 3 ∧ Ham.packB l = [] := by simp [Ham.packE, Ham.packB, hl, hbig]
    have Hr := Lib.hid hr
    clear hr
    go_enter Try.func56, Try.ntmps56
    go_wp2_with fail
    go_ret2
    refine ⟨_, by rw [Hr.out.1]; rfl, ?_, Below.refl _ _⟩
    rw [Hr.out.2]
    exact World.ownsRow_nil _ _ _ _
  · have hd1 : decide (65536 < (n : Int)) = false := by simp; omega
    go_enter Try.func56, Try.ntmps56
    go_wp2_with fail
    go_loopw [4, 5, 6, 7] (fun out p _ _ wr => ∃ k : Nat, k ≤ n ∧ p = .int .i64 k ∧ (l.take k).all Ham.okV = true ∧ wr.ownsRow w.heap.size 5 1 out (Ham.encB (l.take k)).length ((Ham.encB (l.take k)).map (Value.int .u8)) ∧ Below w.heap.size w wr) (fun _ p _ _ _ => n - (intOf p).toNat)
    case atStart => exact ⟨0, by omega, rfl, by simp, World.ownsRow_nil _ _ _ _, Below.refl _ _⟩
    case round =>
      obtain ⟨k, hk, rfl, hall, hown, hbr⟩ := hrel
      by_cases hlt : k < n
      · have hlk : k < l.length := by omega
        have hsn := Lib.hid (take_snoc_getD l k hlk)
        have hat := Lib.hid (all_take l k hlk hall)
        have han := Lib.hid (all_not l k hlk)
        have Hall := Lib.hid hall
        obtain ⟨ad, rfl, hba, hca⟩ := h.at_ hlt
        have hca' := IR.cell hca hba hbr
        clear hca hall
        generalize l.getD k 0 = x at hsn hat han hca'
        by_cases hx : x < 0 ∨ 2047 < x
        · have hf : Ham.okV x = false := by simp [Ham.okV]; omega
          have hr : Ham.packE l = 2 ∧ Ham.packB l = [] := by simp [Ham.packE, Ham.packB, hl, hbig, han.out hf]
          have Hr := Lib.hid hr
          have he : Ham.encE x = 2 := by simp [Ham.encE, hx]
          clear hr hf hx
          go_wp2_with fail
          refine (encode_r x _).mono ?_
          rintro e w2 ⟨rfl, hb2⟩
          rw [he]
          clear he
          go_wp2_with fail
          go_ret2
          refine ⟨_, by rw [Hr.out.1]; rfl, ?_, below_step hbr hb2⟩
          rw [Hr.out.2]
          exact World.ownsRow_nil _ _ _ _
        · have hf : Ham.okV x = true := by simp [Ham.okV]; omega
          have hat' := Lib.hid (hat.out hf)
          have hel := Lib.hid (Ham.encB_len (l.take k))
          have htl : (l.take k).length ≤ k := List.length_take_le _ _
          have he : Ham.encV x = (Ham.word x.toNat : Nat) ∧ Ham.encE x = 0 := by
            constructor
            · rw [Ham.encV, if_neg hx]
            · rw [Ham.encE, if_neg hx]
          have hx0 : 0 ≤ x := by omega
          have hx1 : x ≤ 2047 := by omega
          clear hat han hf hx
          obtain ⟨m, rfl⟩ := Int.eq_ofNat_of_zero_le hx0
          have hwl := Ham.word_lt m
          rw [Int.toNat_natCast] at he
          have He := Lib.hid he
          clear he
          go_wp2_with fail
          refine (encode_r (m : Int) _).mono ?_
          rintro e w2 ⟨rfl, hb2⟩
          rw [He.out.1, He.out.2]
          have hown2 := own_below hown hb2
          have hbr2 := below_step hbr hb2
          clear hown hb2 hbr
          have hel' := hel.out
          go_wp2_with (at_builtin; refine wpList_push sl_u8 rfl (.tmp 28) (.tmp 35) rfl w.heap.size _ _ _ rfl hown2 2 2 rfl rfl rfl (by simp only [maxLen]; omega) (by omega) hbr2.size ?_; intro v1 w3 hown3 hgr3)
          have hb3 := hbr2.trans (hgr3.below (own_ge hown2) hbr2.size)
          clear hown2 hgr3 hbr2 hel'
          go_wp2_with fail
          go_roundw
          case rel =>
            refine ⟨k + 1, by omega, by go_num, hat'.out, ?_, hb3⟩
            rw [hsn.out, Ham.encB_snoc]
            simpa using hown3
          case measure => simp [intOf]; omega
      · obtain rfl : k = n := by omega
        have ht : l.take k = l := List.take_of_length_le (by omega)
        rw [ht] at hall hown
        have hr : Ham.packE l = 0 ∧ Ham.packB l = Ham.encB l := by
          constructor
          · rw [Ham.packE, if_neg (by omega), if_pos hall]
          · rw [Ham.packB, if_neg (by omega), if_pos hall]
        have Hr := Lib.hid hr
        clear hr ht hall
        go_wp2_with fail
        go_ret2
        refine ⟨_, by rw [Hr.out.1]; rfl, ?_, hbr⟩
        rw [Hr.out.2]
        exact hown

/- Unpack -/
set_option maxHeartbeats 1000000 in
theorem unpack_r (A : Option Addr) (n c : Nat) (l : List Int) (w : World) (hn : n ≤ maxLen) (h : IR .u8 w A n l) (hr : ∀ x ∈ l, 0 ≤ x ∧ x < 256) :
    Calls Try.prog 67 #[.slice A n c] w fun e w' => ∃ v u, e = .returned (.tuple #[v, u, .int .i64 (Ham.unpE l)]) ∧ w'.ownsRow w.heap.size 3 1 v (Ham.unpackV l).length ((Ham.unpackV l).map (Value.int .i64)) ∧
      w'.ownsRow w.heap.size 3 1 u (Ham.unpackL l).length ((Ham.unpackL l).map (Value.int .i64)) ∧ apart v u ∧ Below w.heap.size w w' := by
  have hl := h.len
  unfold maxLen at hn
  by_cases hbig : 131072 < n
  · have he : Ham.unpE l = 3 := by simp [Ham.unpE, hl, hbig]
    have hv : Ham.unpackV l = [] ∧ Ham.unpackL l = [] := by simp [Ham.unpackV, Ham.unpackL, he]
    have He := Lib.hid he
    have Hv := Lib.hid hv
    clear he hv
    go_enter Try.func67, Try.ntmps67
    go_wp2_with fail
    go_ret3
    refine ⟨_, _, by rw [He.out]; rfl, ?_, ?_, .inl rfl, Below.refl _ _⟩
    · rw [Hv.out.1]; exact World.ownsRow_nil _ _ _ _
    · rw [Hv.out.2]; exact World.ownsRow_nil _ _ _ _
  · have hd1 : decide (131072 < (n : Int)) = false := by simp; omega
    by_cases hodd : n % 2 = 1
    · have he : Ham.unpE l = 10 := by simp [Ham.unpE, hl, hbig, hodd]
      have hv : Ham.unpackV l = [] ∧ Ham.unpackL l = [] := by simp [Ham.unpackV, Ham.unpackL, he]
      have He := Lib.hid he
      have Hv := Lib.hid hv
      have ho : ((n : Int) % 2 == 1) = true := by simp; omega
      clear he hv hodd
      go_enter Try.func67, Try.ntmps67
      go_wp2_with fail
      go_ret3
      refine ⟨_, _, by rw [He.out]; rfl, ?_, ?_, .inl rfl, Below.refl _ _⟩
      · rw [Hv.out.1]; exact World.ownsRow_nil _ _ _ _
      · rw [Hv.out.2]; exact World.ownsRow_nil _ _ _ _
    · have he : Ham.unpE l = 0 := by rw [Ham.unpE, if_neg (by omega), if_neg (by omega)]
      have hv : Ham.unpackV l = Ham.unpV l (n / 2) ∧ Ham.unpackL l = Ham.unpL l (n / 2) := by simp [Ham.unpackV, Ham.unpackL, he, hl]
      have He := Lib.hid he
      have Hv := Lib.hid hv
      have ho : ((n : Int) % 2 == 1) = false := by simp; omega
      clear he hv
      go_enter Try.func67, Try.ntmps67
      go_wp2_with fail
      go_loopw [5, 6, 7, 8, 9, 10] (fun v u p _ _ _ wr => ∃ i k : Nat, i ≤ n ∧ Hid (i = 2 * k) ∧ p = .int .i64 i ∧ wr.ownsRow w.heap.size 3 1 v k ((Ham.unpV l k).map (Value.int .i64)) ∧
        wr.ownsRow w.heap.size 3 1 u (Ham.unpL l k).length ((Ham.unpL l k).map (Value.int .i64)) ∧ apart v u ∧ Below w.heap.size w wr) (fun _ _ p _ _ _ _ => n - (intOf p).toNat)
      case atStart => exact ⟨0, 0, by omega, Lib.hid rfl, rfl, World.ownsRow_nil _ _ _ _, World.ownsRow_nil _ _ _ _, .inl rfl, Below.refl _ _⟩
      case round =>
        obtain ⟨i, k, hi, hik, rfl, hown, hownl, hap, hbr⟩ := hrel
        by_cases hlt : i < n
        · have hi1 : i + 1 < n := by have := hik.out; omega
          have hkn : k < n := by have := hik.out; omega
          obtain ⟨ad, rfl, hba, hca⟩ := h.at_ (i := i) (by omega)
          obtain ⟨ad', hea, _, hcb⟩ := h.at_ (i := i + 1) (by omega)
          obtain rfl : ad = ad' := by simpa using hea
          have hca' := IR.cell hca hba hbr
          have hcb' := IR.cell hcb hba hbr
          have hwl := Ham.wordAt_lt l k hr
          have g1 : 0 ≤ l.getD i 0 ∧ l.getD i 0 < 256 := hr _ (getD_mem l _ (by omega))
          have g2 : 0 ≤ l.getD (i + 1) 0 ∧ l.getD (i + 1) 0 < 256 := hr _ (getD_mem l _ (by omega))
          have hvs := Lib.hid (Ham.unpV_succ l k)
          have hwa : Ham.wordAt l k = (l.getD i 0).toNat * 256 + (l.getD (i + 1) 0).toNat := by rw [hik.out]; rfl
          obtain ⟨x, hx⟩ := Int.eq_ofNat_of_zero_le g1.1
          obtain ⟨y, hy⟩ := Int.eq_ofNat_of_zero_le g2.1
          rw [hx] at hca' g1 hwa
          rw [hy] at hcb' g2 hwa
          have hj : IntKind.i64.wrap ((x : Int) * 256 + (y : Int)) = ((Ham.wordAt l k : Nat) : Int) := by rw [hwa, IntWalk.i64_in _ ⟨by omega, by omega⟩]; omega
          have hcb2 : wr.cell? ⟨ad.block, ad.off + (i + 1), none⟩ = some (.int .u8 y) := by simpa [Addr.add] using hcb'
          clear hca hcb hea hx hy hwa hcb'
          have s1 : IntKind.i64.wrap ((i : Int) + 1) = (i : Int) + 1 := IntWalk.i64_in _ ⟨by omega, by omega⟩
          have s2 : ((i : Int) + 1).toNat = i + 1 := by omega
          have s3 : 0 ≤ (i : Int) + 1 := by omega
          have s4 : (i : Int) + 1 < (n : Int) := by omega
          have s5 : IntKind.i64.wrap (x : Int) = (x : Int) := IntWalk.i64_in _ ⟨by omega, by omega⟩
          have s6 : IntKind.i64.wrap ((x : Int) * 256) = (x : Int) * 256 := IntWalk.i64_in _ ⟨by omega, by omega⟩
          have s7 : IntKind.i64.wrap (y : Int) = (y : Int) := IntWalk.i64_in _ ⟨by omega, by omega⟩
          generalize hxw : Ham.wordAt l k = xw at hj hwl
          have Hxw := Lib.hid hxw
          clear hxw
          have hvl := Ham.decV_lt xw
          have hll := Ham.unpL_len l k
          by_cases hE : Ham.decE xw = 0
          · obtain ⟨dv, hdv⟩ : ∃ dv, Ham.decV xw = dv := ⟨_, rfl⟩
            have hva : Ham.vAt l k = (dv : Int) := by rw [Ham.vAt, Hxw.out, if_pos hE, hdv]
            have hls := Lib.hid (Ham.unpL_kept l k (by rw [Hxw.out]; exact hE))
            have Hva := Lib.hid hva
            have Hd := Lib.hid (decode_nat_r xw dv _ 0 hwl ⟨hdv, rfl, hE⟩)
            rw [hdv] at hvl
            clear hva hE hdv
            go_wp2_with fail
            go_region_held3 (fun W => W.cell? (ad.add i) = some (.int .u8 x) ∧ W.cell? ⟨ad.block, ad.off + (i + 1), none⟩ = some (.int .u8 y)) (first | exact ⟨hca', hcb2⟩ | exact ⟨keep_cell_d hb3 hca', keep_cell_d hb3 hcb2⟩) (first | (go_at_call 75; refine (Hd.out _).mono ?_; rintro e w3 ⟨rfl, hb3⟩))
            clear s1 s2 s3 s4 s5 s6 s7 hj
            have hb3' := below_drew' hb3
            have hown3 := own_below hown hb3'
            have hownl3 := own_below hownl hb3'
            have hbr3 := below_step hbr hb3'
            clear hown hownl hbr hb3 hb3'
            go_wp2_with (at_builtin; refine wpList_push sl_int rfl (.tmp 49) (.tmp 51) rfl w.heap.size _ _ _ rfl hown3 1 1 rfl rfl rfl (by simp only [maxLen]; omega) (by omega) hbr3.size ?_; intro v1 w4 hown4 hgr4)
            have hownl4 := hgr4.keep hownl3 hap.symm
            have hap4 := (hgr4.apart_l hownl3 hap.symm).symm
            have hb4 := hbr3.trans (hgr4.below (own_ge hown3) hbr3.size)
            clear hown3 hgr4 hownl3 hap hbr3
            go_wp2_with fail
            go_roundw
            case rel => exact ⟨i + 2, k + 1, by omega, Lib.hid (by have := hik.out; omega), by go_num, by rw [hvs.out, Hva.out]; simpa using hown4, by rw [hls.out]; exact hownl4, hap4, hb4⟩
            case measure => simp [intOf]; omega
          · have hE9 : Ham.decE xw = 9 := (Ham.decE_of xw).resolve_left hE
            have hva : Ham.vAt l k = -1 := by rw [Ham.vAt, Hxw.out, if_neg hE]
            have hls := Lib.hid (Ham.unpL_lost l k (by rw [Hxw.out]; exact hE))
            have Hva := Lib.hid hva
            have Hd := Lib.hid (decode_nat_r xw _ _ 9 hwl ⟨rfl, rfl, hE9⟩)
            have hq : (i : Int) / 2 = (k : Int) := by have := hik.out; omega
            have Hq := Lib.hid hq
            clear hva hE hE9 hq
            go_wp2_with fail
            go_region_held3 (fun W => W.cell? (ad.add i) = some (.int .u8 x) ∧ W.cell? ⟨ad.block, ad.off + (i + 1), none⟩ = some (.int .u8 y)) (first | exact ⟨hca', hcb2⟩ | exact ⟨keep_cell_d hb3 hca', keep_cell_d hb3 hcb2⟩) (first | (go_at_call 75; refine (Hd.out _).mono ?_; rintro e w3 ⟨rfl, hb3⟩))
            clear s1 s2 s3 s4 s5 s6 s7 hj
            have hb3' := below_drew' hb3
            have hown3 := own_below hown hb3'
            have hownl3 := own_below hownl hb3'
            have hbr3 := below_step hbr hb3'
            clear hown hownl hbr hb3 hb3'
            go_wp2_with (first
              | (at_builtin
                 refine wpList_push sl_int rfl (.tmp 44) (.tmp 47) rfl w.heap.size _ _ _ rfl hownl3 1 1 rfl rfl rfl (by simp only [maxLen]; omega) (by omega) hbr3.size ?_
                 intro u1 w4 hownl4 hgr4
                 have hown4 := hgr4.keep hown3 hap
                 have hap4 := hgr4.apart_l hown3 hap
                 have hb4 := hbr3.trans (hgr4.below (own_ge hownl3) hbr3.size)
                 clear hown3 hgr4 hownl3 hap hbr3)
              | (at_builtin
                 refine wpList_push sl_int rfl (.tmp 49) (.tmp 51) rfl w.heap.size _ _ _ rfl hown4 1 1 rfl rfl rfl (by simp only [maxLen]; omega) (by omega) hb4.size ?_
                 intro v1 w5 hown5 hgr5
                 have hownl5 := hgr5.keep hownl4 hap4.symm
                 have hap5 := (hgr5.apart_l hownl4 hap4.symm).symm
                 have hb5 := hb4.trans (hgr5.below (own_ge hown4) hb4.size)
                 clear hown4 hgr5 hownl4 hap4 hb4))
            go_wp2_with fail
            go_roundw
            case rel =>
              refine ⟨i + 2, k + 1, by omega, Lib.hid (by have := hik.out; omega), by go_num, by rw [hvs.out, Hva.out]; simpa using hown5, ?_, hap5, hb5⟩
              rw [hls.out]
              have := Hq.out
              simpa [this] using hownl5
            case measure => simp [intOf]; omega
        · obtain rfl : i = n := by omega
          have hk2 : k = i / 2 := by have := hik.out; omega
          have Hk2 := Lib.hid hk2
          clear hk2
          go_wp2_with fail
          go_ret3
          refine ⟨_, _, by rw [He.out]; rfl, ?_, ?_, hap, hbr⟩
          · rw [Hv.out.1, Ham.unpV_len, ← Hk2.out]; exact hown
          · rw [Hv.out.2, ← Hk2.out]; exact hownl
end Go.Proofs.Ytjlfdkkaljlmjaa
