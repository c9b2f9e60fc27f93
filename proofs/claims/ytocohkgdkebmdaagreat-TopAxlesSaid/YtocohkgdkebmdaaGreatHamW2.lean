/- The walks of layer 3 over slices: values, Pack, Unpack (program). -/
import Derived.Test.YtocohkgdkebmdaaGreatHamPlain
import Derived.Test.YtocohkgdkebmdaaGreatGen1
import Derived.Deep.RegionWith
import Derived.Deep.RegionHeld3
namespace Go.Proofs.YtocohkgdkebmdaaGreat.Ham

/- lists -/
def okV (v : Int) : Bool := decide (0 ≤ v) && decide (v ≤ 2047)
def encB (l : List Int) : List Int := l.flatMap fun v => [((word v.toNat / 256 : Nat) : Int), ((word v.toNat % 256 : Nat) : Int)]
def packE (l : List Int) : Int := if 65536 < l.length then 3 else if l.all okV then 0 else 2
def packB (l : List Int) : List Int := if 65536 < l.length then [] else if l.all okV then encB l else []
theorem encB_len (l : List Int) : (encB l).length = 2 * l.length := by
  induction l with
  | nil => rfl
  | cons x l ih =>
    have e : encB (x :: l) = [((word x.toNat / 256 : Nat) : Int), ((word x.toNat % 256 : Nat) : Int)] ++ encB l := rfl
    rw [e, List.length_append, ih]
    simp only [List.length_cons, List.length_nil]
    omega
theorem encB_snoc (l : List Int) (v : Int) : encB (l ++ [v]) = encB l ++ [((word v.toNat / 256 : Nat) : Int), ((word v.toNat % 256 : Nat) : Int)] := by simp [encB]
def wordAt (b : List Int) (j : Nat) : Nat := (b.getD (2 * j) 0).toNat * 256 + (b.getD (2 * j + 1) 0).toNat
/-- The value of word j, -1 if it is lost. -/
def vAt (b : List Int) (j : Nat) : Int := if decE (wordAt b j) = 0 then (decV (wordAt b j) : Int) else -1
def unpV (b : List Int) (k : Nat) : List Int := (List.range k).map (vAt b)
def unpL (b : List Int) (k : Nat) : List Int := ((List.range k).filter fun j => decE (wordAt b j) != 0).map Int.ofNat
def unpE (b : List Int) : Int := if 131072 < b.length then 3 else if b.length % 2 = 1 then 10 else 0
def unpackV (b : List Int) : List Int := if unpE b = 0 then unpV b (b.length / 2) else []
def unpackL (b : List Int) : List Int := if unpE b = 0 then unpL b (b.length / 2) else []
theorem unpV_succ (b : List Int) (k : Nat) : unpV b (k + 1) = unpV b k ++ [vAt b k] := by simp [unpV, List.range_succ]
theorem unpV_len (b : List Int) (k : Nat) : (unpV b k).length = k := by simp [unpV]
theorem unpL_len (b : List Int) (k : Nat) : (unpL b k).length ≤ k := by
  have := List.length_filter_le (fun j => decE (wordAt b j) != 0) (List.range k)
  simp [unpL] at *; omega
theorem unpL_lost (b : List Int) (k : Nat) (h : decE (wordAt b k) ≠ 0) : unpL b (k + 1) = unpL b k ++ [(k : Int)] := by
  simp [unpL, List.range_succ, List.filter_append, h]
theorem unpL_kept (b : List Int) (k : Nat) (h : decE (wordAt b k) = 0) : unpL b (k + 1) = unpL b k := by
  simp [unpL, List.range_succ, List.filter_append, h]
theorem decE_of (w : Nat) : decE w = 0 ∨ decE w = 9 := by
  unfold decE
  split
  · exact .inl rfl
  · split
    · exact .inl rfl
    · exact .inr rfl
theorem wordAt_lt (b : List Int) (j : Nat) (h : ∀ x ∈ b, 0 ≤ x ∧ x < 256) : wordAt b j < 65536 := by
  have g : ∀ i, 0 ≤ b.getD i 0 ∧ b.getD i 0 < 256 := by
    intro i
    rcases Nat.lt_or_ge i b.length with hi | hi
    · rw [List.getD_eq_getElem?_getD, List.getElem?_eq_getElem hi]; exact h _ (List.getElem_mem hi)
    · rw [List.getD_eq_getElem?_getD, List.getElem?_eq_none hi]; simp
  have g1 := g (2 * j)
  have g2 := g (2 * j + 1)
  unfold wordAt
  omega
/- one bit of a word turned -/
theorem byte_xor_lt {a k : Nat} (ha : a < 256) (hk : k < 8) : a ^^^ 2 ^ k < 256 := Nat.xor_lt_two_pow (n := 8) ha (Nat.pow_lt_pow_right (a := 2) (by decide) hk)
theorem xor_low (h l k : Nat) (hl : l < 256) (hk : k < 8) : (h * 256 + l) ^^^ 2 ^ k = h * 256 + (l ^^^ 2 ^ k) := by
  have hp : 2 ^ k < 2 ^ 8 := Nat.pow_lt_pow_right (by decide) hk
  have e1 : h * 256 + l = 2 ^ 8 * h + l := by omega
  have e2 : h * 256 + (l ^^^ 2 ^ k) = 2 ^ 8 * h + (l ^^^ 2 ^ k) := by omega
  rw [e1, e2]
  apply Nat.eq_of_testBit_eq
  intro i
  rw [Nat.testBit_xor, Nat.testBit_two_pow_mul_add h (i := 8) hl i, Nat.testBit_two_pow_mul_add h (i := 8) (byte_xor_lt hl hk) i]
  by_cases hi : i < 8
  · simp only [if_pos hi, Nat.testBit_xor]
  · simp only [if_neg hi]
    rw [Nat.testBit_lt_two_pow (Nat.lt_of_lt_of_le hp (Nat.pow_le_pow_right (by decide) (by omega)))]
    simp
theorem xor_high (h l k : Nat) (hl : l < 256) : (h * 256 + l) ^^^ 2 ^ (k + 8) = (h ^^^ 2 ^ k) * 256 + l := by
  have e : ∀ z : Nat, z * 256 + l = 2 ^ 8 * z + l := by intro z; omega
  rw [e h, e (h ^^^ 2 ^ k)]
  apply Nat.eq_of_testBit_eq
  intro i
  rw [Nat.testBit_xor, Nat.testBit_two_pow_mul_add h (i := 8) hl i, Nat.testBit_two_pow_mul_add (h ^^^ 2 ^ k) (i := 8) hl i]
  by_cases hi : i < 8
  · simp only [if_pos hi]
    rw [Nat.testBit_two_pow_of_ne (by omega)]
    simp
  · simp only [if_neg hi, Nat.testBit_xor]
    congr 1
    by_cases he : i = k + 8
    · subst he; simp [Nat.testBit_two_pow_self]
    · rw [Nat.testBit_two_pow_of_ne (by omega), Nat.testBit_two_pow_of_ne (by omega)]
def flipB (b : List Int) (i p : Nat) : List Int := b.set (2 * i + 1 - p / 8) ((((b.getD (2 * i + 1 - p / 8) 0).toNat ^^^ 2 ^ (p % 8) : Nat)) : Int)
theorem flipB_len (b : List Int) (i p : Nat) : (flipB b i p).length = b.length := by simp [flipB]
theorem getD_set (b : List Int) (j k : Nat) (x : Int) (h : j < b.length) : (b.set j x).getD k 0 = if k = j then x else b.getD k 0 := by
  simp only [List.getD_eq_getElem?_getD, List.getElem?_set]
  by_cases hk : j = k
  · subst hk; simp [h]
  · simp [hk, Ne.symm hk]
theorem getD_range (b : List Int) (h : ∀ x ∈ b, 0 ≤ x ∧ x < 256) (i : Nat) : 0 ≤ b.getD i 0 ∧ b.getD i 0 < 256 := by
  rcases Nat.lt_or_ge i b.length with hi | hi
  · rw [List.getD_eq_getElem?_getD, List.getElem?_eq_getElem hi]; exact h _ (List.getElem_mem hi)
  · rw [List.getD_eq_getElem?_getD, List.getElem?_eq_none hi]; simp
theorem flipB_range (b : List Int) (i p : Nat) (h : ∀ x ∈ b, 0 ≤ x ∧ x < 256) : ∀ x ∈ flipB b i p, 0 ≤ x ∧ x < 256 := by
  intro x hx
  rcases List.mem_or_eq_of_mem_set hx with hx | rfl
  · exact h x hx
  · have g := getD_range b h (2 * i + 1 - p / 8)
    have := byte_xor_lt (a := (b.getD (2 * i + 1 - p / 8) 0).toNat) (k := p % 8) (by omega) (by omega)
    omega
theorem wordAt_flip (b : List Int) (i p : Nat) (hp : p < 16) (hi : 2 * i + 1 < b.length) (h : ∀ x ∈ b, 0 ≤ x ∧ x < 256) : wordAt (flipB b i p) i = wordAt b i ^^^ 2 ^ p := by
  have g := getD_range b h (2 * i + 1)
  unfold wordAt flipB
  by_cases h8 : p < 8
  · have e : p / 8 = 0 := by omega
    have e2 : p % 8 = p := by omega
    rw [e, e2, getD_set _ _ _ _ (by omega), getD_set _ _ _ _ (by omega), if_neg (by omega), if_pos (by omega), Nat.sub_zero, Int.toNat_natCast, xor_low _ _ _ (by omega) h8]
  · have e : p / 8 = 1 := by omega
    have e2 : p = p % 8 + 8 := by omega
    rw [e, getD_set _ _ _ _ (by omega), getD_set _ _ _ _ (by omega), if_pos (by omega), if_neg (by omega), Int.toNat_natCast]
    have e3 : 2 * i + 1 - 1 = 2 * i := by omega
    rw [e3]
    generalize hq : p % 8 = q at *
    rw [e2, xor_high _ _ _ (by omega)]
theorem wordAt_flip_other (b : List Int) (i j p : Nat) (hp : p < 16) (hi : 2 * i + 1 < b.length) (hne : j ≠ i) : wordAt (flipB b i p) j = wordAt b j := by
  unfold wordAt flipB
  rw [getD_set _ _ _ _ (by omega), getD_set _ _ _ _ (by omega), if_neg (by omega), if_neg (by omega)]
theorem encB_at (l : List Int) : ∀ i, i < l.length → (encB l).getD (2 * i) 0 = ((word (l.getD i 0).toNat / 256 : Nat) : Int) ∧ (encB l).getD (2 * i + 1) 0 = ((word (l.getD i 0).toNat % 256 : Nat) : Int) := by
  induction l with
  | nil => intro i h; simp at h
  | cons x l ih =>
    intro i h
    have e : encB (x :: l) = ((word x.toNat / 256 : Nat) : Int) :: ((word x.toNat % 256 : Nat) : Int) :: encB l := rfl
    rw [e]
    rcases i with _ | i
    · exact ⟨rfl, rfl⟩
    · simp only [List.length_cons] at h
      exact ih i (by omega)
theorem wordAt_enc (l : List Int) (i : Nat) (h : i < l.length) : wordAt (encB l) i = word (l.getD i 0).toNat := by
  obtain ⟨h1, h2⟩ := encB_at l i h
  unfold wordAt
  rw [h1, h2]
  simp only [Int.toNat_natCast]
  omega
theorem encB_range (l : List Int) : ∀ x ∈ encB l, 0 ≤ x ∧ x < 256 := by
  intro x hx
  obtain ⟨v, _, hv⟩ := List.mem_flatMap.1 hx
  have := word_lt v.toNat
  simp only [List.mem_cons, List.not_mem_nil, or_false] at hv
  rcases hv with rfl | rfl <;> omega
theorem vals_ok (l : List Int) (h : ∀ v ∈ l, 0 ≤ v ∧ v < 2048) : l.all okV = true := by
  rw [List.all_eq_true]
  intro v hv
  have := h v hv
  simp [okV]; omega
/-- What is known of the bytes B when each word of them is that of l, with at most one bit turned. -/
structure Near (l B : List Int) : Prop where
  len : B.length = 2 * l.length
  range : ∀ x ∈ B, 0 ≤ x ∧ x < 256
  near : ∀ j, j < l.length → wordAt B j = word (l.getD j 0).toNat ∨ ∃ p, p < 16 ∧ wordAt B j = word (l.getD j 0).toNat ^^^ 2 ^ p
theorem Near.enc (l : List Int) : Near l (encB l) := ⟨encB_len l, encB_range l, fun j hj => .inl (wordAt_enc l j hj)⟩
theorem Near.flip {l B : List Int} (h : Near l B) (i p : Nat) (hi : i < l.length) (hp : p < 16) (he : wordAt B i = word (l.getD i 0).toNat) : Near l (flipB B i p) := by
  have hl := h.len
  refine ⟨by rw [flipB_len]; exact hl, flipB_range _ _ _ h.range, fun j hj => ?_⟩
  by_cases hji : j = i
  · subst hji
    exact .inr ⟨p, hp, by rw [wordAt_flip _ _ _ hp (by omega) h.range, he]⟩
  · rw [wordAt_flip_other _ _ _ _ hp (by omega) hji]
    exact h.near j hj
theorem ext_getD (a b : List Int) (hl : a.length = b.length) (h : ∀ i, i < a.length → a.getD i 0 = b.getD i 0) : a = b := by
  refine List.ext_getElem hl fun i h1 h2 => ?_
  have := h i h1
  rwa [List.getD_eq_getElem?_getD, List.getElem?_eq_getElem h1, List.getD_eq_getElem?_getD, List.getElem?_eq_getElem h2] at this
theorem map_range_getD (f : Nat → Int) (n i : Nat) (h : i < n) : ((List.range n).map f).getD i 0 = f i := by
  rw [List.getD_eq_getElem?_getD, List.getElem?_map, List.getElem?_range h]; rfl
theorem Near.dec {l B : List Int} (h : Near l B) (hr : ∀ v ∈ l, 0 ≤ v ∧ v < 2048) (j : Nat) (hj : j < l.length) : decE (wordAt B j) = 0 ∧ vAt B j = l.getD j 0 := by
  have hm : 0 ≤ l.getD j 0 ∧ l.getD j 0 < 2048 := by
    rw [List.getD_eq_getElem?_getD, List.getElem?_eq_getElem hj]; exact hr _ (List.getElem_mem hj)
  have hv : decE (wordAt B j) = 0 ∧ decV (wordAt B j) = (l.getD j 0).toNat := by
    rcases h.near j hj with e | ⟨p, hp, e⟩
    · obtain ⟨a, _, b⟩ := dec_clean (l.getD j 0).toNat (by omega)
      rw [e]; exact ⟨b, a⟩
    · obtain ⟨a, _, b⟩ := dec_one (l.getD j 0).toNat p (by omega) hp
      rw [e]; exact ⟨b, a⟩
  refine ⟨hv.1, ?_⟩
  rw [vAt, if_pos hv.1, hv.2]
  omega
/-- Unpack gives back what was packed. -/
theorem Near.unpack {l B : List Int} (h : Near l B) (hr : ∀ v ∈ l, 0 ≤ v ∧ v < 2048) (hn : l.length ≤ 65536) : unpE B = 0 ∧ unpackV B = l ∧ unpackL B = [] := by
  have hl := h.len
  have he : unpE B = 0 := by rw [unpE, if_neg (by omega), if_neg (by omega)]
  have hd : B.length / 2 = l.length := by omega
  refine ⟨he, ?_, ?_⟩
  · rw [unpackV, if_pos he, hd]
    refine ext_getD _ _ (unpV_len _ _) fun i hi => ?_
    rw [unpV_len] at hi
    rw [unpV, map_range_getD _ _ _ hi]
    exact (h.dec hr i hi).2
  · rw [unpackL, if_pos he, hd, unpL]
    have : (List.range l.length).filter (fun j => decE (wordAt B j) != 0) = [] := by
      rw [List.filter_eq_nil_iff]
      intro j hj
      have := (h.dec hr j (List.mem_range.1 hj)).1
      simp [this]
    rw [this]; rfl
end Go.Proofs.YtocohkgdkebmdaaGreat.Ham
namespace Go.Proofs.YtocohkgdkebmdaaGreat
open Go.RowKit
namespace Ham
end Ham
theorem take_snoc_getD (l : List Int) (k : Nat) (h : k < l.length) : l.take (k + 1) = l.take k ++ [l.getD k 0] := by
  rw [List.take_succ_eq_append_getElem h, List.getD_eq_getElem?_getD, List.getElem?_eq_getElem h]; rfl
theorem getD_mem (l : List Int) (k : Nat) (h : k < l.length) : l.getD k 0 ∈ l := by
  rw [List.getD_eq_getElem?_getD, List.getElem?_eq_getElem h]; exact List.getElem_mem h
theorem all_take (l : List Int) (k : Nat) (h : k < l.length) (h1 : (l.take k).all Ham.okV = true) (h2 : Ham.okV (l.getD k 0) = true) : (l.take (k + 1)).all Ham.okV = true := by
  rw [take_snoc_getD l k h, List.all_append, h1]; simpa using h2
theorem all_not (l : List Int) (k : Nat) (h : k < l.length) (h2 : Ham.okV (l.getD k 0) = false) : l.all Ham.okV = false := by
  rw [List.all_eq_false]
  exact ⟨_, getD_mem l k h, by rw [h2]; simp⟩
set_option maxHeartbeats 1000000 in
theorem pack_c (A : Option Addr) (n c : Nat) (l : List Int) (w : World) (hn : n ≤ maxLen) (h : IR .i64 w A n l) :
    Calls Tryz.prog 25 #[.slice A n c] w fun e w' => ∃ v, e = .returned (.tuple #[v, .int .i64 (Ham.packE l)]) ∧ w'.ownsRow w.heap.size 5 1 v (Ham.packB l).length ((Ham.packB l).map (Value.int .u8)) ∧ Below w.heap.size w w' := by
  have hl := h.len
  unfold maxLen at hn
  by_cases hbig : 65536 < n
  · have hr : Ham.packE l = 3 ∧ Ham.packB l = [] := by simp [Ham.packE, Ham.packB, hl, hbig]
    have Hr := Lib.hid hr
    clear hr
    go_enter Tryz.func25, Tryz.ntmps25
    go_wp2_with fail
    go_ret2
    refine ⟨_, by rw [Hr.out.1]; rfl, ?_, Below.refl _ _⟩
    rw [Hr.out.2]
    exact World.ownsRow_nil _ _ _ _
  · go_enter Tryz.func25, Tryz.ntmps25
    go_wp2_with (at_make; refine wpList_mk0 sl_u8 rfl _ _ rfl w.heap.size _ _ _ (2 * n) rfl rfl (by omega) (by omega) (by simp only [maxLen]; omega) (Nat.le_refl _) ?_; intro w1 hown1 hb1)
    go_loopw [4, 6, 7, 17] (fun out _ _ p wr => ∃ k : Nat, k ≤ n ∧ p = .int .i64 k ∧ (l.take k).all Ham.okV = true ∧ wr.ownsRow w.heap.size 5 1 out (Ham.encB (l.take k)).length ((Ham.encB (l.take k)).map (Value.int .u8)) ∧ Below w.heap.size w wr) (fun _ _ _ p _ => n - (intOf p).toNat)
    case atStart => exact ⟨0, by omega, rfl, by simp, hown1, hb1⟩
    case round =>
      obtain ⟨k, hk, rfl, hall, hown, hbr⟩ := hrel
      by_cases hlt : k < n
      · have hlk : k < l.length := by omega
        have hsn := Lib.hid (take_snoc_getD l k hlk)
        have hat := Lib.hid (all_take l k hlk hall)
        have han := Lib.hid (all_not l k hlk)
        have Hall := Lib.hid hall
        obtain ⟨ad, rfl, hba, hca⟩ := h.at_ hlt
        have hca' := IR.cell hca hba hbr
        clear hca hall
        generalize l.getD k 0 = x at hsn hat han hca'
        by_cases hx0 : x < 0
        · have hf : Ham.okV x = false := by simp [Ham.okV]; omega
          have hr : Ham.packE l = 2 ∧ Ham.packB l = [] := by simp [Ham.packE, Ham.packB, hl, hbig, han.out hf]
          have Hr := Lib.hid hr
          clear hr hf
          go_wp2_with fail
          go_ret2
          refine ⟨_, by rw [Hr.out.1]; rfl, ?_, hbr⟩
          rw [Hr.out.2]
          exact World.ownsRow_nil _ _ _ _
        · by_cases hx1 : 2047 < x
          · have hf : Ham.okV x = false := by simp [Ham.okV]; omega
            have hr : Ham.packE l = 2 ∧ Ham.packB l = [] := by simp [Ham.packE, Ham.packB, hl, hbig, han.out hf]
            have Hr := Lib.hid hr
            clear hr hf
            go_wp2_with fail
            go_ret2
            refine ⟨_, by rw [Hr.out.1]; rfl, ?_, hbr⟩
            rw [Hr.out.2]
            exact World.ownsRow_nil _ _ _ _
          · have hf : Ham.okV x = true := by simp [Ham.okV]; omega
            have hat' := Lib.hid (hat.out hf)
            have hel := Lib.hid (Ham.encB_len (l.take k))
            have htl : (l.take k).length ≤ k := List.length_take_le _ _
            clear hat han hf
            obtain ⟨m, rfl⟩ := Int.eq_ofNat_of_zero_le (show 0 ≤ x by omega)
            have hwl := Ham.word_lt m
            go_wp2_with fail
            refine (word_c m (by omega) _).mono ?_
            rintro e w2 ⟨rfl, hb2⟩
            have hown2 := own_below hown hb2
            have hbr2 := below_step hbr hb2
            clear hown hb2 hbr hown1 hb1
            have hel' := hel.out
            go_wp2_with (at_builtin; refine wpList_push sl_u8 rfl (.tmp 29) (.tmp 35) rfl w.heap.size _ _ _ rfl hown2 2 2 rfl rfl rfl (by simp only [maxLen]; omega) (by omega) hbr2.size ?_; intro v1 w3 hown3 hgr3)
            have hb3 := hbr2.trans (hgr3.below (own_ge hown2) hbr2.size)
            clear hown2 hgr3 hbr2 hel'
            go_wp2_with fail
            go_roundw
            case rel =>
              refine ⟨k + 1, by omega, by go_num, hat'.out, ?_, hb3⟩
              rw [hsn.out, Ham.encB_snoc]
              simpa using hown3
            case measure => simp [intOf]; omega
      · obtain rfl : k = n := by omega
        have ht : l.take k = l := List.take_of_length_le (by omega)
        rw [ht] at hall hown
        have hr : Ham.packE l = 0 ∧ Ham.packB l = Ham.encB l := by
          constructor
          · rw [Ham.packE, if_neg (by omega), if_pos hall]
          · rw [Ham.packB, if_neg (by omega), if_pos hall]
        have Hr := Lib.hid hr
        clear hr ht hall
        go_wp2_with fail
        go_ret2
        refine ⟨_, by rw [Hr.out.1]; rfl, ?_, hbr⟩
        rw [Hr.out.2]
        exact hown
end Go.Proofs.YtocohkgdkebmdaaGreat
