/- A queue: a slice of a row of the call's own, cut at its front and appended to. -/
import Derived.Test.YtmjdjcpmkdninaaDoorDel
import Derived.ArgAppend
namespace Go.Proofs.YtmjdjcpmkdninaaDoor
open Go.RowKit
/-- The slice (block g, from off on, n elements, room for cap) holds xs. -/
structure QR (w : World) (B e size g off n cap : Nat) (xs : List Value) : Prop where
  ge : B ≤ g
  ty : ∃ cur, w.heap[g]? = some (.cells cur e (0, 0)) ∧ off + cap * size ≤ cur.size
  at_ : ∀ j u, xs[j]? = some u → w.cell? ⟨g, off + j, none⟩ = some u
  len : xs.length = n * size
  le : n ≤ cap
  cm : cap ≤ maxLen
section
variable {w w' : World} {B e size g off n cap : Nat} {xs : List Value}
theorem QR.lt (h : QR w B e size g off n cap xs) : g < w.heap.size := by
  obtain ⟨cur, hb, _⟩ := h.ty
  rcases Nat.lt_or_ge g w.heap.size with hlt | hge
  · exact hlt
  · rw [Array.getElem?_eq_none hge] at hb; cases hb
theorem QR.kept (h : QR w B e size g off n cap xs) {row : Option Nat} (hg : w.grownBy w' row) (hne : some g ≠ row) : QR w' B e size g off n cap xs := by
  have hlt := h.lt
  obtain ⟨cur, hb, hs⟩ := h.ty
  have hbk := hg.block g hlt hne
  exact ⟨h.ge, ⟨cur, hbk.trans hb, hs⟩, fun j u hu => (World.cell?_of_block (a := ⟨g, off + j, none⟩) hbk).trans (h.at_ j u hu), h.len, h.le, h.cm⟩
theorem QR.below (h : QR w B e size g off n cap xs) (hb : Below w.heap.size w w') : QR w' B e size g off n cap xs := h.kept (row := none) ⟨hb.os, hb.tape, hb.output, hb.size, fun i hi _ => hb.block i hi⟩ (by simp)
theorem QR.alloc (h : QR w B e size g off n cap xs) (o : Obj) : QR (w.alloc o) B e size g off n cap xs := h.below ((Below.refl _ _).alloc (Nat.le_refl _) o)
theorem QR.new {cs : Array Value} {t : TypeId} (w : World) (hB : B ≤ w.heap.size) (n : Nat) (hs : cs.size = n * size) (hm : n ≤ maxLen) : QR (w.alloc (.cells cs t)) B t size w.heap.size 0 n n cs.toList := by
  have hb := Blk.new w t cs
  refine ⟨hB, ⟨cs, hb, by omega⟩, fun j u hu => ?_, by simpa using hs, Nat.le_refl _, hm⟩
  rw [Nat.zero_add, hb.cell]
  simpa using hu
theorem QR.of_own {v : Value} (h : w.ownsRow B e size v n xs) (hn : 0 < n) : ∃ g cap, v = .slice (some ⟨g, 0, none⟩) n cap ∧ QR w B e size g 0 n cap xs := by
  have hc := fun (g : Nat) (hg : v.ownBlock = some g) => h.cells hg
  rcases h.2 with ⟨_, h0⟩ | ⟨g, cap, cur, rfl, hB, hb, h1, h2, h3, h4⟩
  · omega
  · refine ⟨g, cap, rfl, hB, ⟨cur, hb, by omega⟩, fun j u hu => ?_, h.1, h1, h2⟩
    have := hc g rfl j u hu
    rw [Nat.zero_add]
    unfold Addr.add at this
    by_cases hj : j = 0
    · subst hj; simpa using this
    · rw [if_neg hj] at this; simpa using this
/-- The front is cut off. -/
theorem QR.tail {a r : List Value} (h : QR w B e size g off (n + 1) cap (a ++ r)) (ha : a.length = size) : QR w B e size g (if cap = 1 then off else off + size) n (cap - 1) r := by
  have hl := h.len
  have hle := h.le
  have hcm := h.cm
  obtain ⟨cur, hb, hs⟩ := h.ty
  have hrl : r.length = n * size := by rw [List.length_append, ha, Nat.add_mul, Nat.one_mul] at hl; omega
  by_cases hc : cap = 1
  · rw [if_pos hc]
    have hn : n = 0 := by omega
    subst hn; subst hc
    have : r = [] := List.eq_nil_of_length_eq_zero (by simpa using hrl)
    subst this
    exact ⟨h.ge, ⟨cur, hb, by simp at hs ⊢; omega⟩, fun j u hu => by simp at hu, by simp, by omega, by unfold maxLen; omega⟩
  · rw [if_neg hc]
    refine ⟨h.ge, ⟨cur, hb, ?_⟩, fun j u hu => ?_, hrl, by omega, by omega⟩
    · have : off + size + (cap - 1) * size = off + cap * size := by
        obtain ⟨k, rfl⟩ : ∃ k, cap = k + 1 := ⟨cap - 1, by omega⟩
        rw [Nat.add_sub_cancel, Nat.add_mul, Nat.one_mul]; omega
      omega
    · have := h.at_ (size + j) u (by rw [List.getElem?_append_right (by omega), ha, Nat.add_sub_cancel_left]; exact hu)
      rw [Nat.add_assoc]; exact this
end
section
variable {P : Program}
theorem run_append_q {w : World} {t ty e : TypeId} {size bytes : Nat} (S : SlT P t e size bytes) {B g off n cap : Nat} {xs : List Value} (h : QR w B e size g off n cap xs)
    (a : Addr) (m c : Nat) (news : List Value) (hl : news.length = m * size) (hnews : ∀ j u, news[j]? = some u → w.cell? (a.add j) = some u) (h1 : ∀ u ∈ news, u.oneCell' = true)
    (h63 : n + m ≤ maxLen) (hbytes : (n + m) * bytes ≤ 140737488355328) (hbase : B ≤ w.heap.size) (hm0 : 0 < n + m) :
    ∃ g' off' cap' w', (Builtin.append_ #[t, t] ty #[.slice (some ⟨g, off, none⟩) n cap, .slice (some a) m c]).run P w = .ok (.slice (some ⟨g', off', none⟩) (n + m) cap') w' ∧ QR w' B e size g' off' (n + m) cap' (xs ++ news) ∧ w.grownBy w' (some g) ∧ (g' = g ∨ w.heap.size ≤ g') := by
  obtain ⟨i, z, hi, hz, hsize, hby, hzs⟩ := S.info
  obtain ⟨cur, hb, hs⟩ := h.ty
  subst hsize
  have hlen : (xs ++ news).length = (n + m) * i.size := by rw [List.length_append, h.len, hl, Nat.add_mul]
  by_cases hroom : n + m ≤ cap
  · have hfit : off + n * i.size + news.length ≤ cur.size := by
      have : (n + m) * i.size ≤ cap * i.size := Nat.mul_le_mul_right _ hroom
      rw [Nat.add_mul] at this
      omega
    have hcell : ∀ j, j < cur.size → (w.cell? ⟨g, j, none⟩).isSome = true := by
      intro j hj
      rw [cell_of_row w g j cur e (0, 0) hb, Array.getElem?_eq_getElem hj]; rfl
    have hfz : ∀ j, w.frozen? ⟨g, j, none⟩ = false := fun j => Blk.frozen (t := e) (cs := cur) hb j
    have hr := run_append_room_cells (P := P) w t ty e i S.under hi g off n cap a m c news hl hnews h1 hroom (fun j hj => hcell _ (by omega)) (fun j _ => hfz _)
    obtain ⟨cur', hs', hb'⟩ := setCells_block news w g (off + n * i.size) cur e (0, 0) hb
    refine ⟨g, off, cap, _, hr, ⟨h.ge, ⟨cur', hb', by omega⟩, fun j u hu => ?_, hlen, hroom, h.cm⟩, setCells_grown news w g _, .inl rfl⟩
    have hxl := h.len
    by_cases hj : j < xs.length
    · rw [List.getElem?_append_left hj] at hu
      rw [World.cell?_setCells_out _ _ _ _ _ (fun _ _ => .inl (by simp only; omega))]
      exact h.at_ j u hu
    · rw [List.getElem?_append_right (by omega)] at hu
      have hjl := (List.getElem?_eq_some_iff.1 hu).1
      have := World.cell?_setCells_in g news (off + n * i.size) w (fun q hq => hcell _ (by omega)) (j - xs.length) hjl
      rw [show off + n * i.size + (j - xs.length) = off + j by omega] at this
      rw [this, (List.getElem?_eq_some_iff.1 hu).2]
  · obtain ⟨v', w', hrun, hown, hgr⟩ := run_append_arg_grows (P := P) w t ty e i z i.size bytes S.under hi hz rfl hby hzs S.pos ⟨g, off, none⟩ n cap xs h.len (fun j u hu => by
      have := h.at_ j u hu
      unfold Addr.add
      by_cases hj : j = 0
      · subst hj; simpa using this
      · rw [if_neg hj]; exact this) a m c news hl hnews (by omega) h63 hbytes
    obtain ⟨g', cap', rfl, hq⟩ := QR.of_own hown hm0
    have hge := hq.ge
    have hgr' : w.grownBy w' (some g) := ⟨hgr.os, hgr.tape, hgr.output, hgr.size, fun k hk _ => hgr.block k hk (by simp)⟩
    exact ⟨g', 0, cap', w', hrun, ⟨by omega, hq.ty, hq.at_, hq.len, hq.le, hq.cm⟩, hgr', .inr hge⟩
end
end Go.Proofs.YtmjdjcpmkdninaaDoor
