/- The walk of plant's sound. -/
import Derived.Test.YtkkpkekkaoccbaaDoorPlW2
namespace Go.Proofs.YtkkpkekkaoccbaaDoor
open Go.RowKit
theorem sound_noends {x : PE} (h : Pl.ends x = []) : Pl.sound x = false := by simp [Pl.sound, h]
theorem sound_noname {x : PE} (h : Pl.nameOk x.nm = false) : Pl.sound x = false := by simp [Pl.sound, h]
theorem sound_nonodes {x : PE} (h : Pl.nodes (Pl.ends x) [] = false) : Pl.sound x = false := by simp [Pl.sound, h]
theorem sound_rest {x : PE} (h1 : Pl.ends x ≠ []) (h2 : Pl.nameOk x.nm = true) (h3 : Pl.nodes (Pl.ends x) [] = true) : Pl.sound x = Pl.rest x := by
  simp [Pl.sound, h1, h2, h3]
theorem nodes_step {l : List Int} {k : Nat} {n : Int} (h : l[k]? = some n) : Pl.nodes (l.drop k) (l.take k) = (decide (0 ≤ n) && decide (n < 64) && !(l.take k).contains n && Pl.nodes (l.drop (k + 1)) (l.take (k + 1))) := by
  obtain ⟨hk, he⟩ := List.getElem?_eq_some_iff.1 h
  rw [List.drop_eq_getElem_cons hk, he, Pl.nodes, List.take_add_one, h]
  rfl
def SoundR (x : PE) (w : World) (e : Ending) (w' : World) : Prop := e = .returned (.bool (Pl.sound x)) ∧ Below w.heap.size w w'
theorem rest_one {x : PE} (h : x.k = 1) : Pl.rest x = (decide (x.c = 0) && decide (1 ≤ x.len) && decide (x.len ≤ 100000)) := by unfold Pl.rest; rw [if_pos h]
theorem rest_other {x : PE} (h : x.k ≠ 1) : Pl.rest x = (decide (x.len = 0) && (decide (x.k = 2) || decide (x.c = 0))) := by unfold Pl.rest; rw [if_neg h]
theorem sound_fields {x : PE} {k a b c len : Int} {nm : ByteArray} (hx : x = ⟨k, nm, a, b, c, len⟩) (h : Pl.sound x = Pl.rest x) :
    (k = 1 → Pl.sound x = (decide (c = 0) && decide (1 ≤ len) && decide (len ≤ 100000))) ∧ (k ≠ 1 → Pl.sound x = (decide (len = 0) && (decide (k = 2) || decide (c = 0)))) := by
  subst hx
  exact ⟨fun e => h.trans (rest_one e), fun e => h.trans (rest_other e)⟩
set_option maxRecDepth 100000 in
set_option maxHeartbeats 4000000 in
theorem sound_c (k a b c len : Int) (nm : ByteArray) (w : World) (hs : nm.size ≤ maxLen) :
    Calls Tryd.prog 34 #[.agg #[.int .i64 k, .string nm, .int .i64 a, .int .i64 b, .int .i64 c, .int .i64 len]] w (SoundR ⟨k, nm, a, b, c, len⟩ w) := by
  obtain ⟨x, hx⟩ : ∃ x : PE, x = ⟨k, nm, a, b, c, len⟩ := ⟨_, rfl⟩
  have Hx := Lib.hid hx
  rw [← hx]
  have he := fun w => ends_c k a b c len nm w
  rw [← hx] at he
  have HE := Lib.hid he
  have hl3 := Pl.ends_len x
  clear hx he
  obtain ⟨l, hl⟩ : ∃ l, Pl.ends x = l := ⟨_, rfl⟩
  obtain ⟨n, hn⟩ : ∃ n, l.length = n := ⟨_, rfl⟩
  have Hl := Lib.hid hl
  have Hn := Lib.hid hn
  rw [hl, hn] at hl3
  clear hl hn
  go_enter Tryd.func34, Tryd.ntmps34
  go_wp2_with fail
  refine (HE.out _).mono ?_
  rintro e w1 ⟨v, rfl, own, hnil, hb⟩
  rw [Hl.out, Hn.out] at own
  rw [Hl.out] at hnil
  have hbw : Below w.heap.size w w1 := ((Below.refl _ _).alloc (Nat.le_refl _) _).trans (hb.mono (by simp))
  have hBk : Blk w1 w.heap.size 40 #[.int .i64 k, .string nm, .int .i64 a, .int .i64 b, .int .i64 c, .int .i64 len] := (Blk.new w _ _).below hb (by simp)
  have b0 : w1.cell? ⟨w.heap.size, 0, none⟩ = some (.int .i64 k) := hBk.cell 0
  have b1 : w1.cell? ⟨w.heap.size, 1, none⟩ = some (.string nm) := hBk.cell 1
  have b4 : w1.cell? ⟨w.heap.size, 4, none⟩ = some (.int .i64 c) := hBk.cell 4
  have b5 : w1.cell? ⟨w.heap.size, 5, none⟩ = some (.int .i64 len) := hBk.cell 5
  clear hBk hb
  by_cases h0 : n = 0
  · have hle : l = [] := List.eq_nil_of_length_eq_zero (by rw [Hn.out]; exact h0)
    have hv := hnil hle
    subst hv
    have Hs := Lib.hid (sound_noends (x := x) (by rw [Hl.out]; exact hle))
    clear hle hnil own h0
    have hq := fun W : World => Lib.run_eql_slice_nil (P := Tryd.prog) W 22 3 none 0 0 0 0 Tryd.underlying22
    go_wp2_with fail
    go_ret
    exact ⟨retb Hs.out.symm, hbw⟩
  · obtain ⟨g, cap, rfl, hg1, hg2⟩ := own.form (by omega)
    have hcap : n ≤ cap ∧ cap ≤ maxLen := by
      obtain ⟨A, c', he, h1, h2⟩ := own_form own
      injection he with _ _ he
      subst he
      exact ⟨h1, h2⟩
    clear hnil
    have hq := fun W : World => Lib.run_eql_slice_nil (P := Tryd.prog) W 22 3 (some ⟨g, 0, none⟩) n cap 0 0 Tryd.underlying22
    by_cases hnm : Pl.nameOk nm = true
    · go_wp2_with (go_at_call 47; refine (name_c nm w1 hs).mono ?_; rintro e w' ⟨rfl, rfl⟩)
      go_loop [20] (fun i => ∃ t : Nat, t ≤ n ∧ i = .int .i64 t ∧ Hid (Pl.nodes l [] = Pl.nodes (l.drop t) (l.take t))) (fun i => n - (intOf i).toNat)
      case atStart => exact ⟨0, by omega, rfl, Lib.hid rfl⟩
      case round =>
        obtain ⟨t, ht, rfl, hnd⟩ := hrel
        by_cases hlt : t < n
        · have hc0 := own_cell own hlt
          obtain ⟨y, hy⟩ : ∃ y, l[t]? = some y := ⟨_, List.getElem?_eq_getElem (by rw [Hn.out]; exact hlt)⟩
          rw [List.getD_eq_getElem?_getD, hy, Option.getD_some] at hc0
          have Hst := Lib.hid (hnd.out.trans (nodes_step hy))
          clear hnd
          have Hfalse : Hid ((decide (0 ≤ y) && decide (y < 64) && !(l.take t).contains y) = false → Pl.sound x = false) := Lib.hid (fun h => sound_nonodes (by rw [Hl.out, Hst.out, h]; rfl))
          have Hy := Lib.hid hy
          clear hy
          by_cases y0 : y < 0
          · have d0 : decide (y < 0) = true := by simpa using y0
            have Hs := Lib.hid (Hfalse.out (by simp; omega))
            go_wp2_with fail
            go_ret
            exact ⟨retb Hs.out.symm, hbw⟩
          · have d0 : decide (y < 0) = false := by simpa using y0
            by_cases y1 : 64 ≤ y
            · have d1 : decide (64 ≤ y) = true := by simpa using y1
              have Hs := Lib.hid (Hfalse.out (by simp; omega))
              go_wp2_with fail
              go_ret
              exact ⟨retb Hs.out.symm, hbw⟩
            · have d1 : decide (64 ≤ y) = false := by simpa using y1
              have ht1 : (t : Int) ≤ (cap : Int) := by omega
              have ht2 : t ≤ cap := by omega
              go_wp2_with fail
              go_loop [35] (fun i => ∃ j : Nat, j ≤ t ∧ i = .int .i64 j ∧ Hid ((l.take j).contains y = false)) (fun i => t - (intOf i).toNat)
              case atStart => exact ⟨0, by omega, rfl, Lib.hid rfl⟩
              case round =>
                obtain ⟨j, hj, rfl, hct⟩ := hrel
                by_cases hjt : j < t
                · have hc1 := own_cell own (show j < n by omega)
                  obtain ⟨z, hz⟩ : ∃ z, l[j]? = some z := ⟨_, List.getElem?_eq_getElem (by rw [Hn.out]; omega)⟩
                  rw [List.getD_eq_getElem?_getD, hz, Option.getD_some] at hc1
                  have Hz := Lib.hid hz
                  clear hz
                  by_cases hyz : y = z
                  · have dz : (y == z) = true := by simpa using hyz
                    have Hs := Lib.hid (Hfalse.out (by
                      have hm : y ∈ l.take t := by rw [hyz]; exact List.mem_of_getElem? (by rw [List.getElem?_take_of_lt hjt]; exact Hz.out)
                      simp [hm]))
                    clear hyz
                    go_wp2_with fail
                    go_ret
                    exact ⟨retb Hs.out.symm, hbw⟩
                  · have dz : (y == z) = false := by simpa using hyz
                    have Hct : Hid ((l.take (j + 1)).contains y = false) := Lib.hid (by
                      rw [List.take_add_one, Hz.out]
                      simpa [hyz] using hct.out)
                    go_wp2_with fail
                    go_round
                    case rel => exact ⟨j + 1, by omega, by go_num, Hct⟩
                    case measure => simp [intOf]; omega
                · obtain rfl : j = t := by omega
                  go_wp2_with fail
                  go_round
                  case rel => exact ⟨j + 1, by omega, by go_num, Lib.hid (by rw [Hst.out, hct.out]; simp; omega)⟩
                  case measure => simp [intOf]; omega
        · obtain rfl : t = n := by omega
          have hnod : Pl.nodes (Pl.ends x) [] = true := by
            rw [Hl.out, hnd.out, List.drop_of_length_le (by rw [Hn.out]; exact Nat.le_refl _)]
            rfl
          have hne : Pl.ends x ≠ [] := by
            rw [Hl.out]
            intro h
            have := Hn.out
            rw [h] at this
            exact h0 this.symm
          have hxn : x.nm = nm := by rw [Hx.out]
          have hR := sound_rest hne (by rw [hxn]; exact hnm) hnod
          obtain ⟨hR1, hR2⟩ := sound_fields Hx.out hR
          have HR1 := Lib.hid hR1
          have HR2 := Lib.hid hR2
          clear hR hR1 hR2 hnod hne hnd hxn
          by_cases k1 : k = 1
          · have HR := Lib.hid (HR1.out k1)
            have e1 : (k == 1) = true := by simpa using k1
            clear k1
            by_cases c0 : c = 0
            · have e2 : (c == 0) = true := by simpa using c0
              by_cases l1 : 1 ≤ len
              · have e3 : decide (1 ≤ len) = true := by simpa using l1
                have HR' : Hid (Pl.sound x = decide (len ≤ 100000)) := Lib.hid (by rw [HR.out]; simp [c0, l1])
                clear c0
                go_wp2_with fail
                go_ret
                exact ⟨retb HR'.out.symm, hbw⟩
              · have e3 : decide (1 ≤ len) = false := by simpa using l1
                have HR' : Hid (Pl.sound x = false) := Lib.hid (by rw [HR.out]; simp [c0]; omega)
                clear c0
                go_wp2_with fail
                go_ret
                exact ⟨retb HR'.out.symm, hbw⟩
            · have e2 : (c == 0) = false := by simpa using c0
              have HR' : Hid (Pl.sound x = false) := Lib.hid (by rw [HR.out]; simp [c0])
              clear c0
              go_wp2_with fail
              go_ret
              exact ⟨retb HR'.out.symm, hbw⟩
          · have HR := Lib.hid (HR2.out k1)
            have e1 : (k == 1) = false := by simpa using k1
            clear k1
            by_cases l0 : len = 0
            · have e2 : (len == 0) = true := by simpa using l0
              by_cases k2 : k = 2
              · have e3 : (k == 2) = true := by simpa using k2
                have HR' : Hid (Pl.sound x = true) := Lib.hid (by rw [HR.out]; simp [l0, k2])
                clear l0 k2
                go_wp2_with fail
                go_ret
                exact ⟨retb HR'.out.symm, hbw⟩
              · have e3 : (k == 2) = false := by simpa using k2
                have HR' : Hid (Pl.sound x = (c == 0)) := Lib.hid (by rw [HR.out]; simp [l0, k2]; rfl)
                clear l0 k2
                go_wp2_with fail
                go_ret
                exact ⟨retb HR'.out.symm, hbw⟩
            · have e2 : (len == 0) = false := by simpa using l0
              have HR' : Hid (Pl.sound x = false) := Lib.hid (by rw [HR.out]; simp [l0])
              clear l0
              go_wp2_with fail
              go_ret
              exact ⟨retb HR'.out.symm, hbw⟩
    · have hnf : Pl.nameOk nm = false := by simpa using hnm
      have hxn : x.nm = nm := by rw [Hx.out]
      have Hs := Lib.hid (sound_noname (x := x) (by rw [hxn]; exact hnf))
      clear hxn hnm
      go_wp2_with (go_at_call 47; refine (name_c nm w1 hs).mono ?_; rintro e w' ⟨rfl, rfl⟩)
      go_ret
      exact ⟨retb Hs.out.symm, hbw⟩
end Go.Proofs.YtkkpkekkaoccbaaDoor
