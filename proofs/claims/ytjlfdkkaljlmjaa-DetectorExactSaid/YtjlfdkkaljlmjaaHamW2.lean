/- The walks of layer 3 over slices: values, Pack, Unpack (program). -/
import Derived.Test.YtjlfdkkaljlmjaaHammingCorrectsW
import Derived.Test.YtjlfdkkaljlmjaaGen1
import Derived.Test.YtjlfdkkaljlmjaaHamLists
import Derived.Deep.RegionWith
import Derived.Deep.RegionHeld3
namespace Go.Proofs.Ytjlfdkkaljlmjaa
open Go.RowKit
namespace Ham
def valsL (l : List Int) : List Int := (l.take 60).map fun v => (v.tmod 2048 + 2048) % 2048
theorem valsL_len (l : List Int) : (valsL l).length = min 60 l.length := by simp [valsL]
theorem valsL_range (l : List Int) : ∀ v ∈ valsL l, 0 ≤ v ∧ v < 2048 := by
  intro v hv
  obtain ⟨x, _, rfl⟩ := List.mem_map.1 hv
  exact mod_bd _ 2048 (by omega)
end Ham
theorem take_snoc_getD (l : List Int) (k : Nat) (h : k < l.length) : l.take (k + 1) = l.take k ++ [l.getD k 0] := by
  rw [List.take_succ_eq_append_getElem h, List.getD_eq_getElem?_getD, List.getElem?_eq_getElem h]; rfl
theorem vals_snoc (l : List Int) (k : Nat) (h : k < l.length) (h60 : k < 60) : (Ham.valsL l).take (k + 1) = (Ham.valsL l).take k ++ [((l.getD k 0).tmod 2048 + 2048) % 2048] := by
  rw [take_snoc_getD _ k (by rw [Ham.valsL_len]; omega)]
  congr 1
  simp only [Ham.valsL, List.getD_eq_getElem?_getD, List.getElem?_map, List.getElem?_take_of_lt h60, List.getElem?_eq_getElem h]
  rfl
theorem getD_mem (l : List Int) (k : Nat) (h : k < l.length) : l.getD k 0 ∈ l := by
  rw [List.getD_eq_getElem?_getD, List.getElem?_eq_getElem h]; exact List.getElem_mem h
theorem all_take (l : List Int) (k : Nat) (h : k < l.length) (h1 : (l.take k).all Ham.okV = true) (h2 : Ham.okV (l.getD k 0) = true) : (l.take (k + 1)).all Ham.okV = true := by
  rw [take_snoc_getD l k h, List.all_append, h1]; simpa using h2
theorem all_not (l : List Int) (k : Nat) (h : k < l.length) (h2 : Ham.okV (l.getD k 0) = false) : l.all Ham.okV = false := by
  rw [List.all_eq_false]
  exact ⟨_, getD_mem l k h, by rw [h2]; simp⟩
set_option maxHeartbeats 1000000 in
theorem pack_c (A : Option Addr) (n c : Nat) (l : List Int) (w : World) (hn : n ≤ maxLen) (h : IR .i64 w A n l) :
    Calls Try.prog 52 #[.slice A n c] w fun e w' => ∃ v, e = .returned (.tuple #[v, .int .i64 (Ham.packE l)]) ∧ w'.ownsRow w.heap.size 5 1 v (Ham.packB l).length ((Ham.packB l).map (Value.int .u8)) ∧ Below w.heap.size w w' := by
  have hl := h.len
  unfold maxLen at hn
  by_cases hbig : 65536 < n
  · have hr : Ham.packE l = 3 ∧ Ham.packB l = [] := by simp [Ham.packE, Ham.packB, hl, hbig]
    have Hr := Lib.hid hr
    clear hr
    go_enter Try.func52, Try.ntmps52
    go_wp2_with fail
    go_ret2
    refine ⟨_, by rw [Hr.out.1]; rfl, ?_, Below.refl _ _⟩
    rw [Hr.out.2]
    exact World.ownsRow_nil _ _ _ _
  · go_enter Try.func52, Try.ntmps52
    go_wp2_with (at_make; refine wpList_mk0 sl_u8 rfl _ _ rfl w.heap.size _ _ _ (2 * n) rfl rfl (by omega) (by omega) (by simp only [maxLen]; omega) (Nat.le_refl _) ?_; intro w1 hown1 hb1)
    go_loopw [4, 6, 7, 17] (fun out _ _ p wr => ∃ k : Nat, k ≤ n ∧ p = .int .i64 k ∧ (l.take k).all Ham.okV = true ∧ wr.ownsRow w.heap.size 5 1 out (Ham.encB (l.take k)).length ((Ham.encB (l.take k)).map (Value.int .u8)) ∧ Below w.heap.size w wr) (fun _ _ _ p _ => n - (intOf p).toNat)
    case atStart => exact ⟨0, by omega, rfl, by simp, hown1, hb1⟩
    case round =>
      obtain ⟨k, hk, rfl, hall, hown, hbr⟩ := hrel
      by_cases hlt : k < n
      · have hlk : k < l.length := by omega
        have hsn := Lib.hid (take_snoc_getD l k hlk)
        have hat := Lib.hid (all_take l k hlk hall)
        have han := Lib.hid (all_not l k hlk)
        have Hall := Lib.hid hall
        obtain ⟨ad, rfl, hba, hca⟩ := h.at_ hlt
        have hca' := IR.cell hca hba hbr
        clear hca hall
        generalize l.getD k 0 = x at hsn hat han hca'
        by_cases hx0 : x < 0
        · have hf : Ham.okV x = false := by simp [Ham.okV]; omega
          have hr : Ham.packE l = 2 ∧ Ham.packB l = [] := by simp [Ham.packE, Ham.packB, hl, hbig, han.out hf]
          have Hr := Lib.hid hr
          clear hr hf
          go_wp2_with fail
          go_ret2
          refine ⟨_, by rw [Hr.out.1]; rfl, ?_, hbr⟩
          rw [Hr.out.2]
          exact World.ownsRow_nil _ _ _ _
        · by_cases hx1 : 2047 < x
          · have hf : Ham.okV x = false := by simp [Ham.okV]; omega
            have hr : Ham.packE l = 2 ∧ Ham.packB l = [] := by simp [Ham.packE, Ham.packB, hl, hbig, han.out hf]
            have Hr := Lib.hid hr
            clear hr hf
            go_wp2_with fail
            go_ret2
            refine ⟨_, by rw [Hr.out.1]; rfl, ?_, hbr⟩
            rw [Hr.out.2]
            exact World.ownsRow_nil _ _ _ _
          · have hf : Ham.okV x = true := by simp [Ham.okV]; omega
            have hat' := Lib.hid (hat.out hf)
            have hel := Lib.hid (Ham.encB_len (l.take k))
            have htl : (l.take k).length ≤ k := List.length_take_le _ _
            clear hat han hf
            obtain ⟨m, rfl⟩ := Int.eq_ofNat_of_zero_le (show 0 ≤ x by omega)
            have hwl := Ham.word_lt m
            go_wp2_with fail
            refine (word_c m (by omega) _).mono ?_
            rintro e w2 ⟨rfl, hb2⟩
            have hown2 := own_below hown hb2
            have hbr2 := below_step hbr hb2
            clear hown hb2 hbr hown1 hb1
            have hel' := hel.out
            go_wp2_with (at_builtin; refine wpList_push sl_u8 rfl (.tmp 29) (.tmp 35) rfl w.heap.size _ _ _ rfl hown2 2 2 rfl rfl rfl (by simp only [maxLen]; omega) (by omega) hbr2.size ?_; intro v1 w3 hown3 hgr3)
            have hb3 := hbr2.trans (hgr3.below (own_ge hown2) hbr2.size)
            clear hown2 hgr3 hbr2 hel'
            go_wp2_with fail
            go_roundw
            case rel =>
              refine ⟨k + 1, by omega, by go_num, hat'.out, ?_, hb3⟩
              rw [hsn.out, Ham.encB_snoc]
              simpa using hown3
            case measure => simp [intOf]; omega
      · obtain rfl : k = n := by omega
        have ht : l.take k = l := List.take_of_length_le (by omega)
        rw [ht] at hall hown
        have hr : Ham.packE l = 0 ∧ Ham.packB l = Ham.encB l := by
          constructor
          · rw [Ham.packE, if_neg (by omega), if_pos hall]
          · rw [Ham.packB, if_neg (by omega), if_pos hall]
        have Hr := Lib.hid hr
        clear hr ht hall
        go_wp2_with fail
        go_ret2
        refine ⟨_, by rw [Hr.out.1]; rfl, ?_, hbr⟩
        rw [Hr.out.2]
        exact hown
end Go.Proofs.Ytjlfdkkaljlmjaa
