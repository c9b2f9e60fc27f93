/- slices.SortFunc at the items of a job. -/
import Derived.Test.YtlljanbhbnempaaTlSort2
namespace Go.Proofs.Ytlljanbhbnempaa
open Go.RowKit
def encF (n : Nat) (x : Fin n) : Value := .int .i64 (x.val : Int)
def cfF (l : List IT) (n : Nat) (x y : Fin n) : Int := ((Tl.it l x.val).bl : Int) - (Tl.it l y.val).bl
theorem swoF (l : List IT) (n : Nat) : Go.Sort.SWO (Go.Proofs.ltOf (cfF l n)) := by
  constructor
  · intro x
    unfold Go.Proofs.ltOf cfF
    simp
  · intro x y z h1 h2
    unfold Go.Proofs.ltOf cfF at h1 h2 ⊢
    rw [decide_eq_true_eq] at h1 h2 ⊢
    omega
  · intro x y z h1 h2
    unfold Go.Proofs.ltOf cfF at h1 h2 ⊢
    rw [decide_eq_false_iff_not] at h1 h2 ⊢
    omega
theorem sw_other {α : Type} [Inhabited α] (enc : α → Value) (W : World) (g n : Nat) (dk : Array α) (os : Array Obj) (a : Addr) (h1 : a.block ≠ g) (h2 : a.block < W.heap.size) : (Go.Proofs.sortWorld enc W g 0 n dk os).cell? a = W.cell? a := by
  unfold Go.Proofs.sortWorld
  rw [Go.Sort.cell?_grow _ _ _ (by rw [Go.Sort.size_putRow]; exact h2), Go.Sort.cell?_putRow_other enc _ g 0 dk a (Or.inl h1)]
  rfl
theorem cmpF (jb g : Nat) (A : Option Addr) (n c : Nat) [Inhabited (Fin n)] (l : List IT) (w : World) (hb : ∀ x ∈ l, x.bl ≤ 31) (hjc : w.cell? ⟨jb, 0, none⟩ = some (.slice A n c)) (hjg : jb ≠ g) (hjs : jb < w.heap.size) (h : IR4 w A n l)
    (hA : ∀ ad, A = some ad → ad.block ≠ g) (size : Nat) :
    Go.Proofs.CmpReads Try.prog 23 #[.pointer (some ⟨jb, 0, none⟩)] (encF n) (cfF l n) g 0 size w := by
  intro m os dk hs x y
  refine (solve1_c jb A n c l _ hb ?_ ?_ x.val y.val x.isLt y.isLt)
  · rw [sw_other _ _ _ _ _ _ _ hjg hjs]; exact hjc
  · refine ⟨h.1, fun hn => ?_⟩
    obtain ⟨ad, e, hb2, hc⟩ := h.2 hn
    refine ⟨ad, e, ?_, fun j u hu => ?_⟩
    · have : w.heap.size ≤ (Go.Proofs.sortWorld (encF n) w g 0 m dk os).heap.size := by
        unfold Go.Proofs.sortWorld
        simp [Go.Sort.size_grow]
      omega
    · rw [sw_other _ _ _ _ _ _ _ (by rw [block_of_add]; exact hA ad e) (by rw [block_of_add]; exact hb2)]
      exact hc j u hu
theorem finRange_enc (n : Nat) : (List.finRange n).map (encF n) = ints64 (List.range n) := by
  refine List.ext_getElem (by simp [ints64]) fun i h1 h2 => ?_
  simp [ints64, encF]
theorem sort_c (jb g : Nat) (A : Option Addr) (n c B : Nat) (l : List IT) (w : World) (hn0 : 0 < n) (hn : n ≤ 12) (hb : ∀ x ∈ l, x.bl ≤ 31) (hjc : w.cell? ⟨jb, 0, none⟩ = some (.slice A n c)) (hjg : jb ≠ g) (hjs : jb < w.heap.size)
    (h : IR4 w A n l) (hA : ∀ ad, A = some ad → ad.block ≠ g) (own : w.ownsRow B 3 1 (.slice (some ⟨g, 0, none⟩) n n) n (ints64 (List.range n))) :
    Calls Try.prog 22 #[.slice (some ⟨g, 0, none⟩) n n, .func (.func 23) #[] #[.pointer (some ⟨jb, 0, none⟩)]] w fun e w' => e = .returned (.tuple #[]) ∧
      ∃ o : List Nat, Tl.Ord l o ∧ w'.ownsRow B 3 1 (.slice (some ⟨g, 0, none⟩) n n) n (ints64 o) ∧ w.grownBy w' (some g) := by
  haveI : Inhabited (Fin n) := ⟨⟨0, hn0⟩⟩
  have hH : Go.Sort.Holds (encF n) w g 0 (List.finRange n).toArray := by
    intro j hj
    have hj' : j < n := by simpa using hj
    refine ⟨?_, by rw [Nat.zero_add]; exact own.frozenAt j⟩
    rw [Nat.zero_add, own.cellAt j (by omega), ← finRange_enc]
    simp [hj']
  have eg : ∀ args w, (callFunc 23 args).run Try.prog w = .ok (.enter 23 args) w := enters_of Try.func23 (by kernel_rfl) rfl
  have hc := Go.Proofs.Any.slices_SortFunc_small_sorted Try.sortInt (encF n) (fun _ => rfl) (cfF l n) (swoF l n) 23 #[.pointer (some ⟨jb, 0, none⟩)] g 0 n (List.finRange n).toArray w eg
    (cmpF jb g A n c l w hb hjc hjg hjs h hA _) hH (by simpa using hn) sort_hlen
  simp only [List.size_toArray, List.length_finRange] at hc
  refine hc.mono ?_
  rintro e w' ⟨rfl, d', q, hp, hs, rfl⟩
  refine ⟨rfl, d'.toList.map Fin.val, ?_, ?_, grownBy_sortedE d'⟩
  · have hl := h.len
    have hsz : d'.size = n := by simpa using hp.1
    constructor
    · have hpp := hp.2.2
      have e1 : d'.extract 0 n = d' := by
        have := Array.extract_size (xs := d')
        rwa [hsz] at this
      rw [e1] at hpp
      have e2 : ((List.finRange n).toArray.extract 0 n) = (List.finRange n).toArray := by
        have := Array.extract_size (xs := (List.finRange n).toArray)
        rwa [List.size_toArray, List.length_finRange] at this
      rw [e2] at hpp
      have := hpp.map Fin.val
      have e3 : (List.finRange n).map Fin.val = List.range n := List.ext_getElem (by simp) fun i h1 h2 => by simp
      rw [show (List.finRange n).toArray.toList = List.finRange n from rfl, e3] at this
      rw [hl]
      exact this
    · rw [List.pairwise_map, List.pairwise_iff_getElem]
      intro i j hi hj hij
      have hj' : j < n := by rw [← hsz]; simpa using hj
      have h1 := hs i j (Nat.zero_le _) hij hj'
      unfold Go.Proofs.ltOf cfF at h1
      rw [decide_eq_false_iff_not, getElem!_pos d' j (by omega), getElem!_pos d' i (by omega)] at h1
      simp only [Array.getElem_toList]
      omega
  · have hsz : d'.size = n := by simpa using hp.1
    have := own_sortedE (enc := encF n) (n := q) own d' hsz
    have e : ints64 (d'.toList.map Fin.val) = d'.toList.map (encF n) := by simp [ints64, encF]
    rw [e]
    exact this
end Go.Proofs.Ytlljanbhbnempaa
