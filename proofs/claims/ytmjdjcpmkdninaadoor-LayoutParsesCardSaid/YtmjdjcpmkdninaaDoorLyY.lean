/- What the laws about layouts share: a made layout, the text of a valid layout, remainders. -/
import Derived.Test.YtmjdjcpmkdninaaDoorMem
import Derived.Deep.RegionLaw
import Derived.ArgAppend
import Derived.Test.YtmjdjcpmkdninaaDoorLyP4
import Derived.Test.YtmjdjcpmkdninaaDoorLyF2
import Derived.Test.YtmjdjcpmkdninaaDoorLyG2
import Derived.Test.YtmjdjcpmkdninaaDoorLyMake
import Derived.Deep.DeepCutAuto
import Derived.Deep.CutBlock
import Derived.Test.YtmjdjcpmkdninaaDoorLyLine
namespace Go.Proofs.YtmjdjcpmkdninaaDoor
open Go.RowKit
theorem own_of_cells {w : World} {B e g n cap : Nat} {cur : Array Value} {xs : List Value} (hB : B ≤ g) (hb : w.heap[g]? = some (.cells cur e (0, 0))) (hs : cur.size = cap) (hn : n ≤ cap) (hm : cap ≤ maxLen) (hl : xs.length = n) (hc : ∀ j, j < n → w.cell? ⟨g, j, none⟩ = xs[j]?) :
    w.ownsRow B e 1 (.slice (some ⟨g, 0, none⟩) n cap) n xs := by
  refine ⟨by omega, .inr ⟨g, cap, cur, rfl, hB, hb, hn, hm, by omega, ?_⟩⟩
  refine List.ext_getElem? fun j => ?_
  rw [List.getElem?_take]
  by_cases hj : j < n * 1
  · rw [if_pos hj]
    have h1 := hc j (by omega)
    rw [cell_of_row w g j cur e (0, 0) hb] at h1
    rw [← h1]
    simp
  · rw [if_neg hj, List.getElem?_eq_none (by omega)]
theorem setCells_block : ∀ (vs : List Value) (w : World) (g o : Nat) (cur : Array Value) (e : TypeId) (fz : Nat × Nat), w.heap[g]? = some (.cells cur e fz) → ∃ cur', cur'.size = cur.size ∧ (w.setCells g o vs).heap[g]? = some (.cells cur' e fz) := by
  intro vs
  induction vs with
  | nil => intro w g o cur e fz h; exact ⟨cur, rfl, h⟩
  | cons v r ih =>
    intro w g o cur e fz h
    have h2 : (w.setCell ⟨g, o, none⟩ v).heap[g]? = some (.cells (cur.setIfInBounds o v) e fz) := by simp [World.setCell, Array.getElem?_modify, h]
    obtain ⟨cur', h3, h4⟩ := ih _ g (o + 1) _ e fz h2
    exact ⟨cur', by rw [h3]; simp, h4⟩
theorem setCells_grown : ∀ (vs : List Value) (w : World) (g o : Nat), w.grownBy (w.setCells g o vs) (some g) := by
  intro vs
  induction vs with
  | nil => intro w g o; exact World.grownBy.refl w _
  | cons v r ih =>
    intro w g o
    refine World.grownBy.trans ?_ (ih (w.setCell ⟨g, o, none⟩ v) g (o + 1))
    exact ⟨rfl, rfl, rfl, by simp [World.setCell], fun j _ hne => Below.heap_setCell w ⟨g, o, none⟩ v j (fun e => hne (by rw [e]))⟩
theorem own_del {w : World} {B e g n cap i : Nat} {L : List Int} (h : w.ownsRow B e 1 (.slice (some ⟨g, 0, none⟩) n cap) n (L.map (Value.int .i64))) (hi : i < n) :
    (w.setCells g i ((L.drop (i + 1)).map (Value.int .i64))).ownsRow B e 1 (.slice (some ⟨g, 0, none⟩) (i + (n - (i + 1))) cap) (i + (n - (i + 1))) ((L.take i ++ L.drop (i + 1)).map (Value.int .i64)) := by
  have hl := own_len h
  obtain ⟨g', cap', cur, hv, hB, hb, hn, hm, hs, ht⟩ : ∃ g' cap' cur, (Value.slice (some ⟨g, 0, none⟩) n cap) = .slice (some ⟨g', 0, none⟩) n cap' ∧ B ≤ g' ∧ w.heap[g']? = some (.cells cur e (0, 0)) ∧ n ≤ cap' ∧ cap' ≤ maxLen ∧ cur.size = cap' * 1 ∧ cur.toList.take (n * 1) = L.map (Value.int .i64) := by
    rcases h.2 with ⟨h0, _⟩ | h0
    · cases h0
    · exact h0
  injection hv with h1 _ h2
  injection h1 with h1
  injection h1 with h1 _ _
  subst h1; subst h2
  obtain ⟨cur', hs', hb'⟩ := setCells_block ((L.drop (i + 1)).map (Value.int .i64)) w g i cur e (0, 0) hb
  refine own_of_cells hB hb' (by omega) (by omega) hm (by simp; omega) (fun j hj => ?_)
  have hti : (L.take i).length = i := by rw [List.length_take]; omega
  by_cases hji : j < i
  · rw [World.cell?_setCells_out _ _ _ _ _ (fun _ _ => .inl hji), own_cell h (by omega), List.getElem?_map, List.getElem?_append_left (by omega), List.getElem?_take, if_pos hji, List.getElem?_eq_getElem (by omega), List.getD_eq_getElem?_getD, List.getElem?_eq_getElem (by omega)]
    rfl
  · obtain ⟨t, rfl⟩ : ∃ t, j = i + t := ⟨j - i, by omega⟩
    rw [World.cell?_setCells_in g _ i w (fun q hq => ?_) t (by simp; omega), List.getElem?_map, List.getElem?_append_right (by omega), hti, show i + t - i = t by omega, List.getElem?_eq_getElem (by simp; omega)]
    · simp
    · simp only [List.length_map, List.length_drop] at hq
      rw [own_cell h (by omega)]; rfl
/-- A row's head. -/
theorem own_init {w : World} {B e size n cap : Nat} {A : Option Addr} {xs ys : List Value} (h : w.ownsRow B e size (.slice A (n + 1) cap) (n + 1) (xs ++ ys)) (hx : xs.length = n * size) : w.ownsRow B e size (.slice A n cap) n xs := by
  refine ⟨hx, .inr ?_⟩
  rcases h.2 with ⟨h0, _⟩ | ⟨g, cap', cur, hv, hB, hb, hn, hm, hs, ht⟩
  · cases h0
  · injection hv with h1 _ h2
    subst h1; subst h2
    refine ⟨g, cap, cur, rfl, hB, hb, by omega, hm, hs, ?_⟩
    have := congrArg (List.take (n * size)) ht
    rw [List.take_take, Nat.min_eq_left (Nat.mul_le_mul_right _ (by omega)), List.take_left' hx] at this
    exact this
end Go.Proofs.YtmjdjcpmkdninaaDoor
namespace Go.Proofs.YtmjdjcpmkdninaaDoor
open Go.RowKit
/-- The slice (block g, from off on, n elements, room for cap) holds xs. -/
structure QR (w : World) (B e size g off n cap : Nat) (xs : List Value) : Prop where
  ge : B ≤ g
  ty : ∃ cur, w.heap[g]? = some (.cells cur e (0, 0)) ∧ off + cap * size ≤ cur.size
  at_ : ∀ j u, xs[j]? = some u → w.cell? ⟨g, off + j, none⟩ = some u
  len : xs.length = n * size
  le : n ≤ cap
  cm : cap ≤ maxLen
section
variable {w w' : World} {B e size g off n cap : Nat} {xs : List Value}
theorem QR.lt (h : QR w B e size g off n cap xs) : g < w.heap.size := by
  obtain ⟨cur, hb, _⟩ := h.ty
  rcases Nat.lt_or_ge g w.heap.size with hlt | hge
  · exact hlt
  · rw [Array.getElem?_eq_none hge] at hb; cases hb
theorem QR.kept (h : QR w B e size g off n cap xs) {row : Option Nat} (hg : w.grownBy w' row) (hne : some g ≠ row) : QR w' B e size g off n cap xs := by
  have hlt := h.lt
  obtain ⟨cur, hb, hs⟩ := h.ty
  have hbk := hg.block g hlt hne
  exact ⟨h.ge, ⟨cur, hbk.trans hb, hs⟩, fun j u hu => (World.cell?_of_block (a := ⟨g, off + j, none⟩) hbk).trans (h.at_ j u hu), h.len, h.le, h.cm⟩
theorem QR.below (h : QR w B e size g off n cap xs) (hb : Below w.heap.size w w') : QR w' B e size g off n cap xs := h.kept (row := none) ⟨hb.os, hb.tape, hb.output, hb.size, fun i hi _ => hb.block i hi⟩ (by simp)
theorem QR.alloc (h : QR w B e size g off n cap xs) (o : Obj) : QR (w.alloc o) B e size g off n cap xs := h.below ((Below.refl _ _).alloc (Nat.le_refl _) o)
theorem QR.new {cs : Array Value} {t : TypeId} (w : World) (hB : B ≤ w.heap.size) (n : Nat) (hs : cs.size = n * size) (hm : n ≤ maxLen) : QR (w.alloc (.cells cs t)) B t size w.heap.size 0 n n cs.toList := by
  have hb := Blk.new w t cs
  refine ⟨hB, ⟨cs, hb, by omega⟩, fun j u hu => ?_, by simpa using hs, Nat.le_refl _, hm⟩
  rw [Nat.zero_add, hb.cell]
  simpa using hu
theorem QR.of_own {v : Value} (h : w.ownsRow B e size v n xs) (hn : 0 < n) : ∃ g cap, v = .slice (some ⟨g, 0, none⟩) n cap ∧ QR w B e size g 0 n cap xs := by
  have hc := fun (g : Nat) (hg : v.ownBlock = some g) => h.cells hg
  rcases h.2 with ⟨_, h0⟩ | ⟨g, cap, cur, rfl, hB, hb, h1, h2, h3, h4⟩
  · omega
  · refine ⟨g, cap, rfl, hB, ⟨cur, hb, by omega⟩, fun j u hu => ?_, h.1, h1, h2⟩
    have := hc g rfl j u hu
    rw [Nat.zero_add]
    unfold Addr.add at this
    by_cases hj : j = 0
    · subst hj; simpa using this
    · rw [if_neg hj] at this; simpa using this
/-- The front is cut off. -/
theorem QR.tail {a r : List Value} (h : QR w B e size g off (n + 1) cap (a ++ r)) (ha : a.length = size) : QR w B e size g (if cap = 1 then off else off + size) n (cap - 1) r := by
  have hl := h.len
  have hle := h.le
  have hcm := h.cm
  obtain ⟨cur, hb, hs⟩ := h.ty
  have hrl : r.length = n * size := by rw [List.length_append, ha, Nat.add_mul, Nat.one_mul] at hl; omega
  by_cases hc : cap = 1
  · rw [if_pos hc]
    have hn : n = 0 := by omega
    subst hn; subst hc
    have : r = [] := List.eq_nil_of_length_eq_zero (by simpa using hrl)
    subst this
    exact ⟨h.ge, ⟨cur, hb, by simp at hs ⊢; omega⟩, fun j u hu => by simp at hu, by simp, by omega, by unfold maxLen; omega⟩
  · rw [if_neg hc]
    refine ⟨h.ge, ⟨cur, hb, ?_⟩, fun j u hu => ?_, hrl, by omega, by omega⟩
    · have : off + size + (cap - 1) * size = off + cap * size := by
        obtain ⟨k, rfl⟩ : ∃ k, cap = k + 1 := ⟨cap - 1, by omega⟩
        rw [Nat.add_sub_cancel, Nat.add_mul, Nat.one_mul]; omega
      omega
    · have := h.at_ (size + j) u (by rw [List.getElem?_append_right (by omega), ha, Nat.add_sub_cancel_left]; exact hu)
      rw [Nat.add_assoc]; exact this
end
section
variable {P : Program}
theorem run_append_q {w : World} {t ty e : TypeId} {size bytes : Nat} (S : SlT P t e size bytes) {B g off n cap : Nat} {xs : List Value} (h : QR w B e size g off n cap xs)
    (a : Addr) (m c : Nat) (news : List Value) (hl : news.length = m * size) (hnews : ∀ j u, news[j]? = some u → w.cell? (a.add j) = some u) (h1 : ∀ u ∈ news, u.oneCell' = true)
    (h63 : n + m ≤ maxLen) (hbytes : (n + m) * bytes ≤ 140737488355328) (hbase : B ≤ w.heap.size) (hm0 : 0 < n + m) :
    ∃ g' off' cap' w', (Builtin.append_ #[t, t] ty #[.slice (some ⟨g, off, none⟩) n cap, .slice (some a) m c]).run P w = .ok (.slice (some ⟨g', off', none⟩) (n + m) cap') w' ∧ QR w' B e size g' off' (n + m) cap' (xs ++ news) ∧ w.grownBy w' (some g) ∧ (g' = g ∨ w.heap.size ≤ g') := by
  obtain ⟨i, z, hi, hz, hsize, hby, hzs⟩ := S.info
  obtain ⟨cur, hb, hs⟩ := h.ty
  subst hsize
  have hlen : (xs ++ news).length = (n + m) * i.size := by rw [List.length_append, h.len, hl, Nat.add_mul]
  by_cases hroom : n + m ≤ cap
  · have hfit : off + n * i.size + news.length ≤ cur.size := by
      have : (n + m) * i.size ≤ cap * i.size := Nat.mul_le_mul_right _ hroom
      rw [Nat.add_mul] at this
      omega
    have hcell : ∀ j, j < cur.size → (w.cell? ⟨g, j, none⟩).isSome = true := by
      intro j hj
      rw [cell_of_row w g j cur e (0, 0) hb, Array.getElem?_eq_getElem hj]; rfl
    have hfz : ∀ j, w.frozen? ⟨g, j, none⟩ = false := fun j => Blk.frozen (t := e) (cs := cur) hb j
    have hr := run_append_room_cells (P := P) w t ty e i S.under hi g off n cap a m c news hl hnews h1 hroom (fun j hj => hcell _ (by omega)) (fun j _ => hfz _)
    obtain ⟨cur', hs', hb'⟩ := setCells_block news w g (off + n * i.size) cur e (0, 0) hb
    refine ⟨g, off, cap, _, hr, ⟨h.ge, ⟨cur', hb', by omega⟩, fun j u hu => ?_, hlen, hroom, h.cm⟩, setCells_grown news w g _, .inl rfl⟩
    have hxl := h.len
    by_cases hj : j < xs.length
    · rw [List.getElem?_append_left hj] at hu
      rw [World.cell?_setCells_out _ _ _ _ _ (fun _ _ => .inl (by simp only; omega))]
      exact h.at_ j u hu
    · rw [List.getElem?_append_right (by omega)] at hu
      have hjl := (List.getElem?_eq_some_iff.1 hu).1
      have := World.cell?_setCells_in g news (off + n * i.size) w (fun q hq => hcell _ (by omega)) (j - xs.length) hjl
      rw [show off + n * i.size + (j - xs.length) = off + j by omega] at this
      rw [this, (List.getElem?_eq_some_iff.1 hu).2]
  · obtain ⟨v', w', hrun, hown, hgr⟩ := run_append_arg_grows (P := P) w t ty e i z i.size bytes S.under hi hz rfl hby hzs S.pos ⟨g, off, none⟩ n cap xs h.len (fun j u hu => by
      have := h.at_ j u hu
      unfold Addr.add
      by_cases hj : j = 0
      · subst hj; simpa using this
      · rw [if_neg hj]; exact this) a m c news hl hnews (by omega) h63 hbytes
    obtain ⟨g', cap', rfl, hq⟩ := QR.of_own hown hm0
    have hge := hq.ge
    have hgr' : w.grownBy w' (some g) := ⟨hgr.os, hgr.tape, hgr.output, hgr.size, fun k hk _ => hgr.block k hk (by simp)⟩
    exact ⟨g', 0, cap', w', hrun, ⟨by omega, hq.ty, hq.at_, hq.len, hq.le, hq.cm⟩, hgr', .inr hge⟩
end
end Go.Proofs.YtmjdjcpmkdninaaDoor
namespace Go.Proofs.YtmjdjcpmkdninaaDoor
open Go.RowKit
namespace Ly
def tx1 : ByteArray := ⟨#[99, 114, 101, 115, 116, 32, 99, 10, 115, 119, 105, 116, 99, 104, 32, 119, 32, 99, 32, 57, 48, 48, 48, 32, 49, 48, 48, 48, 32, 53, 48, 10, 116, 114, 97, 99, 107, 32, 116, 49, 32, 119, 58, 108, 101, 102, 116, 32, 53, 48, 48, 48, 48, 48, 32, 45, 49, 48, 48, 32, 48, 10]⟩
def tx2 : ByteArray := ⟨#[99, 114, 101, 115, 116, 32, 99, 10, 115, 101, 103, 109, 101, 110, 116, 32, 115, 32, 99, 32, 49, 48, 32, 48, 10]⟩
def tx3 : ByteArray := ⟨#[35, 32, 97, 32, 104, 117, 109, 112, 10, 32, 99, 114, 101, 115, 116, 32, 99, 10, 116, 114, 97, 99, 107, 32, 32, 116, 32, 99, 32, 53, 48, 48, 32, 45, 50, 48, 32, 48]⟩
def ly3 : List LE := [⟨0, ⟨#[99]⟩, -1, 0, 0, 0, 0, 0⟩, ⟨4, ⟨#[116]⟩, 0, 0, 500, -20, 0, 0⟩]
theorem parse_tx1 : parse tx1 = ([], 0, 13) := by kernel_rfl
theorem parse_tx2 : parse tx2 = ([], 2, 6) := by kernel_rfl
theorem parse_tx3 : parse tx3 = (ly3, 0, 0) := by kernel_rfl
theorem fmt_ly3 : fmt ly3 = ([99, 114, 101, 115, 116, 32, 99, 10, 116, 114, 97, 99, 107, 32, 116, 32, 99, 32, 53, 48, 48, 32, 45, 50, 48, 32, 48, 10], 0) := by kernel_rfl
end Ly
theorem lp1_c (m : Int) (w : World) (hm : w.cell? ⟨1, 0, none⟩ = some (.int .i64 m)) :
    Calls Tryd.prog 14 #[.string ⟨#[99, 114, 101, 115, 116, 32, 99, 10, 115, 119, 105, 116, 99, 104, 32, 119, 32, 99, 32, 57, 48, 48, 48, 32, 49, 48, 48, 48, 32, 53, 48, 10, 116, 114, 97, 99, 107, 32, 116, 49, 32, 119, 58, 108, 101, 102, 116, 32, 53, 48, 48, 48, 48, 48, 32, 45, 49, 48, 48, 32, 48, 10]⟩] w fun e w' => (∃ A n c, e = .returned (.tuple #[.slice A n c, .int .i64 0, .int .i64 13])) ∧ Below w.heap.size w w' := by
  refine (lparse_c Ly.tx1 m w (of_decide_eq_true (by kernel_rfl)) hm).mono ?_
  rintro e w' ⟨A, n, c, rfl, _, _, _, hb⟩
  rw [Ly.parse_tx1]
  exact ⟨⟨A, n, c, rfl⟩, hb⟩
theorem lp2_c (m : Int) (w : World) (hm : w.cell? ⟨1, 0, none⟩ = some (.int .i64 m)) :
    Calls Tryd.prog 14 #[.string ⟨#[99, 114, 101, 115, 116, 32, 99, 10, 115, 101, 103, 109, 101, 110, 116, 32, 115, 32, 99, 32, 49, 48, 32, 48, 10]⟩] w fun e w' => (∃ A n c, e = .returned (.tuple #[.slice A n c, .int .i64 2, .int .i64 6])) ∧ Below w.heap.size w w' := by
  refine (lparse_c Ly.tx2 m w (of_decide_eq_true (by kernel_rfl)) hm).mono ?_
  rintro e w' ⟨A, n, c, rfl, _, _, _, hb⟩
  rw [Ly.parse_tx2]
  exact ⟨⟨A, n, c, rfl⟩, hb⟩
theorem lp3_c (m : Int) (w : World) (hm : w.cell? ⟨1, 0, none⟩ = some (.int .i64 m)) :
    Calls Tryd.prog 14 #[.string ⟨#[35, 32, 97, 32, 104, 117, 109, 112, 10, 32, 99, 114, 101, 115, 116, 32, 99, 10, 116, 114, 97, 99, 107, 32, 32, 116, 32, 99, 32, 53, 48, 48, 32, 45, 50, 48, 32, 48]⟩] w fun e w' => (∃ A c, e = .returned (.tuple #[.slice A 2 c, .int .i64 0, .int .i64 0]) ∧ LR w' A 2 Ly.ly3) ∧ Below w.heap.size w w' := by
  refine (lparse_c Ly.tx3 m w (of_decide_eq_true (by kernel_rfl)) hm).mono ?_
  rintro e w' ⟨A, n, c, rfl, hR, _, _, hb⟩
  rw [Ly.parse_tx3] at hR ⊢
  obtain rfl : n = 2 := hR.len.symm
  exact ⟨⟨A, c, rfl, hR⟩, hb⟩
theorem lf3_c (A : Option Addr) (c : Nat) (w : World) (h : LR w A 2 Ly.ly3) (ht : Tab10 w) :
    Calls Tryd.prog 12 #[.slice A 2 c] w fun e w' => e = .returned (.tuple #[.string ⟨#[99, 114, 101, 115, 116, 32, 99, 10, 116, 114, 97, 99, 107, 32, 116, 32, 99, 32, 53, 48, 48, 32, 45, 50, 48, 32, 48, 10]⟩, .int .i64 0]) ∧ Below w.heap.size w w' := by
  refine (lformat_c A 2 c Ly.ly3 w (of_decide_eq_true (by kernel_rfl)) h (by intro x hx; simp only [Ly.ly3, List.mem_cons, List.not_mem_nil, or_false] at hx; rcases hx with rfl | rfl <;> exact of_decide_eq_true (by kernel_rfl)) (by intro x hx; simp only [Ly.ly3, List.mem_cons, List.not_mem_nil, or_false] at hx; rcases hx with rfl | rfl <;> exact ⟨wf_small (by simp), wf_small (by simp)⟩) ht).mono ?_
  rintro e w' ⟨rfl, hb⟩
  rw [Ly.fmt_ly3]
  exact ⟨rfl, hb⟩
set_option maxRecDepth 100000 in
set_option maxHeartbeats 4000000 in
theorem lsane_c (m : Int) (w : World) (hm : w.cell? ⟨1, 0, none⟩ = some (.int .i64 m)) (ht : Tab10 w) :
    Calls Tryd.prog 16 #[] w fun e w' => e = .returned (.bool true) ∧ Below w.heap.size w w' := by
  have H1 := Lib.hid (lp1_c m w hm)
  go_enter Tryd.func16, Tryd.ntmps16
  go_wp2_with fail
  refine H1.out.mono ?_
  clear H1
  rintro e w1 ⟨⟨A1, n1, c1, rfl⟩, hb1⟩
  have H2 := Lib.hid (lp2_c m w1 (keep_cell hb1 hm))
  go_wp2_with fail
  refine H2.out.mono ?_
  clear H2
  rintro e w2 ⟨⟨A2, n2, c2, rfl⟩, hb2⟩
  have hb2' := below_step hb1 hb2
  have H3 := Lib.hid (lp3_c m w2 (keep_cell hb2' hm))
  clear hb1 hb2
  go_wp2_with fail
  refine H3.out.mono ?_
  clear H3
  rintro e w3 ⟨⟨A3, c3, rfl, hR⟩, hb3⟩
  have hb3' := below_step hb2' hb3
  have H4 := Lib.hid (lf3_c A3 c3 w3 hR (ht.below hb3'))
  clear hb2' hb3 hR hm
  go_wp2_with fail
  refine H4.out.mono ?_
  clear H4
  rintro e w4 ⟨rfl, hb4⟩
  have hb4' := below_step hb3' hb4
  clear hb3' hb4
  go_wp2_with fail
  go_ret
  exact ⟨rfl, hb4'⟩
end Go.Proofs.YtmjdjcpmkdninaaDoor
namespace Go.Proofs.YtmjdjcpmkdninaaDoor
open Go.RowKit
/-- Places as cells. -/
def flatQ (l : List (Int × Int)) : List Value := l.flatMap fun q => [.int .i64 q.1, .int .i64 q.2]
theorem flatQ_len (l : List (Int × Int)) : (flatQ l).length = l.length * 2 := by
  induction l with
  | nil => rfl
  | cons p r ih =>
    have e : flatQ (p :: r) = [.int .i64 p.1, .int .i64 p.2] ++ flatQ r := rfl
    rw [e, List.length_append, ih, List.length_cons]; simp; omega
theorem flatQ_app (l m : List (Int × Int)) : flatQ (l ++ m) = flatQ l ++ flatQ m := by simp [flatQ]
theorem sl2q : SlT Tryd.prog 76 75 2 16 := slT_of (z := .agg #[.int .i64 0, .int .i64 0]) Tryd.underlying76 (by kernel_rfl) (by rfl) (by omega)
/-- The maker, the list, the open places. -/
structure YS (B : Nat) (w : World) (g : Nat) (lv : Value) (l : List LE) (q off cap : Nat) (O : List (Int × Int)) (c : Nat) (wr : World) : Prop where
  mkr : Mk B wr g c
  lo : wr.ownsRow w.heap.size 48 8 lv l.length (flat8 l)
  qr : QR wr w.heap.size 75 2 q off O.length cap (flatQ O)
  gr : w.grownBy wr (some g)
section
variable {B g c q off cap : Nat} {w wr w' : World} {lv lv' : Value} {l l' : List LE} {O O' : List (Int × Int)}
theorem QR.ne_mk (h : QR wr w.heap.size 75 2 q off O.length cap (flatQ O)) (m : Mk B wr g c) : q ≠ g := by
  obtain ⟨cur, hb, _⟩ := h.ty
  obtain ⟨A, n, cp, L, hk, _, _⟩ := m.blk
  rintro rfl
  exact Blk.ne_ (t := 75) hb hk (by decide) rfl
theorem own_ne_q (h : wr.ownsRow w.heap.size 48 8 lv l.length (flat8 l)) (k : QR wr w.heap.size 75 2 q off O.length cap (flatQ O)) : lv.ownBlock ≠ some q := by
  obtain ⟨cur, hb, _⟩ := k.ty
  exact own_blk_ne (t := 75) (cs := cur) h hb (by decide)
theorem YS.next (h : YS B w g lv l q off cap O c wr) {c' : Nat} (m : Mk B w' g c') (hg : wr.grownBy w' (some g)) : YS B w g lv l q off cap O c' w' :=
  ⟨m, h.lo.kept hg (.inr (h.mkr.ne h.lo (by decide))), h.qr.kept hg (fun e => h.qr.ne_mk h.mkr (Option.some.inj e)), h.gr.trans hg⟩
theorem grown_belowY {a w w' : World} {g : Nat} (h : a.grownBy w (some g)) (hb : Below w.heap.size w w') : a.grownBy w' (some g) :=
  grown_then h (row := none) ⟨hb.os, hb.tape, hb.output, hb.size, fun i hi _ => hb.block i hi⟩ (fun b e => by cases e)
theorem YS.below (h : YS B w g lv l q off cap O c wr) (hb : Below wr.heap.size wr w') : YS B w g lv l q off cap O c w' :=
  ⟨h.mkr.below hb, own_below h.lo hb, h.qr.below hb, grown_belowY h.gr hb⟩
theorem YS.alloc (h : YS B w g lv l q off cap O c wr) (o : Obj) : YS B w g lv l q off cap O c (wr.alloc o) := h.below ((Below.refl _ _).alloc (Nat.le_refl _) o)
theorem YS.pushL (h : YS B w g lv l q off cap O c wr) (hB : B ≤ w.heap.size) (hl : w'.ownsRow w.heap.size 48 8 lv' l'.length (flat8 l')) (hgr : Grew wr lv lv' w') : YS B w g lv' l' q off cap O c w' :=
  ⟨h.mkr.grown hgr.grown (h.mkr.ne h.lo (by decide)) (fun b e => by have := own_ge h.lo b e; omega), hl, h.qr.kept hgr.grown (fun e => own_ne_q h.lo h.qr e.symm), grown_then h.gr hgr.grown (fun b e => .inr (own_ge h.lo b e))⟩
theorem YS.setX (h : YS B w g lv l q off cap O c wr) (hgw : g < w.heap.size) (hB : B ≤ w.heap.size) {xb : Nat} {cs : Array Value} (hx : w.heap.size ≤ xb) (hb : Blk wr xb 75 cs) (hq : q ≠ xb) (j : Nat) (u : Value) : YS B w g lv l q off cap O c (wr.setCell ⟨xb, j, none⟩ u) := by
  have hg : wr.grownBy (wr.setCell ⟨xb, j, none⟩ u) (some xb) := ⟨rfl, rfl, rfl, by simp [World.setCell], fun j' _ hne => Below.heap_setCell wr ⟨xb, j, none⟩ u j' (fun e => hne (by rw [e]))⟩
  exact ⟨h.mkr.grown hg (fun e => by have := Option.some.inj e; omega) (fun b e => by have := Option.some.inj e; omega), own_set_other h.lo (own_blk_ne h.lo hb (by decide)) u, h.qr.kept hg (fun e => hq (Option.some.inj e)), grown_then h.gr hg (fun b e => .inr (by have := Option.some.inj e; omega))⟩
theorem YS.tail {a : Int × Int} (h : YS B w g lv l q off cap (a :: O) c wr) : YS B w g lv l q (if cap = 1 then off else off + 2) (cap - 1) O c wr :=
  ⟨h.mkr, h.lo, QR.tail (a := [.int .i64 a.1, .int .i64 a.2]) h.qr rfl, h.gr⟩
theorem YS.head {a : Int × Int} (h : YS B w g lv l q off cap (a :: O) c wr) : wr.cell? ⟨q, off, none⟩ = some (.int .i64 a.1) ∧ wr.cell? ⟨q, off + 1, none⟩ = some (.int .i64 a.2) :=
  ⟨by have := h.qr.at_ 0 (.int .i64 a.1) rfl; rw [Nat.add_zero] at this; exact this, h.qr.at_ 1 (.int .i64 a.2) rfl⟩
end
/-- Two places more, onto the queue. -/
theorem wpList_pushq {w : World} {cs : Array Value} {ops : Array Oper} {rest : List Oper} {o : Oper} {a : Act} {Q : Exit → Act → World → Prop} (hgd : o.guard = none) (s x : Operand) (ho : o.op = .call { callee := .builtin .append, args := #[s, x], argTypes := #[76, 76] })
    {B g off n cap : Nat} {xs : List Value} (hs : a.eval s = .slice (some ⟨g, off, none⟩) n cap) (h : QR w B 75 2 g off n cap xs)
    (m c bk : Nat) (hbk : bk = w.heap.size) (hx : a.eval x = .slice (some ⟨bk, 0, none⟩) m c) (hl : cs.size = m * 2) (h1 : cs.toList.all (·.oneCell') = true)
    (h63 : n + m ≤ maxLen) (hbytes : (n + m) * 16 ≤ 140737488355328) (hbase : B ≤ w.heap.size) (hm0 : 0 < n + m)
    (hK : ∀ g' off' cap' w', QR w' B 75 2 g' off' (n + m) cap' (xs ++ cs.toList) → w.grownBy w' (some g) → (g' = g ∨ w.heap.size ≤ g') → wpList Tryd.prog ops Q rest (a.put o.dst (.slice (some ⟨g', off', none⟩) (n + m) cap')) w') :
    wpList Tryd.prog ops Q (o :: rest) a (w.alloc (.cells cs 75)) := by
  subst hbk
  refine wpList_plain hgd fun K hK' => ?_
  obtain ⟨g', off', cap', w', hrun, h2, h3, h4⟩ := run_append_q (P := Tryd.prog) (ty := o.type) (w := w.alloc (.cells cs 75)) sl2q (h.alloc _) ⟨w.heap.size, 0, none⟩ m c cs.toList (by simpa using hl) (cell_new_row w cs _) (fun u hu => List.all_eq_true.1 h1 u hu) h63 hbytes (by simp; omega) hm0
  unfold Oper.wp execOp
  simp only [ho, resolve, invoke, builtin, Sem.run_bind, Sem.run_pure, Result.andThen_ok, List.map_toArray, List.map_cons, List.map_nil, hs, hx, hrun]
  exact hK' _ _ (hK g' off' cap' w' h2 ((World.grownBy_alloc w _ (some g)).trans h3) (by simp at h4; omega))
end Go.Proofs.YtmjdjcpmkdninaaDoor
namespace Go.Proofs.YtmjdjcpmkdninaaDoor
open Go.RowKit
namespace Ly
theorem tracks_app (l : List LE) (x : LE) : tracks (l ++ [x]) = tracks l + if x.k = 4 then 1 else 0 := by
  unfold tracks
  rw [List.countP_append, List.countP_cons, List.countP_nil]
  by_cases h : x.k = 4 <;> simp [h]
theorem vErr_leok {l : List LE} (h : vErr l = 0) : ∀ x ∈ l, LeOk x := by
  obtain ⟨h1, _, h3, _⟩ := vErr_zero h
  intro x hx
  obtain ⟨i, hi⟩ := mem_at hx
  have hs := h3.snd hi
  have hb := sound_bd hs
  refine ⟨sound_nm hs, ?_, ?_⟩
  · by_cases h0 : x.k = 0
    · have := hb.2.1 h0
      rw [this]; simp
    · have hi1 : 1 ≤ i := by
        rcases Nat.eq_zero_or_pos i with e | e
        · exact absurd ((h3.first hi).2 e) h0
        · exact e
      obtain ⟨y, hy, h5, h6, _⟩ := h3.behind hi1 hi
      have := (List.getElem?_eq_some_iff.1 hi).1
      omega
  · by_cases h0 : x.k = 0
    · have := hb.2.1 h0
      rw [this]; simp
    · exact (hb.2.2 h0).2.2.2.1
end Ly
def LayoutR (B : Nat) (w : World) (g c n : Nat) (e : Ending) (w' : World) : Prop := ∃ v l c', e = .returned v ∧ w'.ownsRow w.heap.size 48 8 v (l : List LE).length (flat8 l) ∧ Ly.vErr l = 0 ∧ l.length ≤ 6 * n + 4 ∧ c' ≤ c + 40 * n + 20 ∧ Mk B w' g c' ∧ w.grownBy w' (some g)
/-- The outer loop. -/
def YI (B : Nat) (w : World) (g c n : Nat) (lv ov sv : Value) (wr : World) : Prop := ∃ (l : List LE) (O : List (Int × Int)) (s c' q off cap : Nat), ov = .slice (some ⟨q, off, none⟩) O.length cap ∧ sv = .int .i64 (s : Int) ∧ Ly.LInv l O ∧ Ly.tracks l + O.length + s ≤ n + 1 ∧ s ≤ n ∧ l.length + 3 * (2 * s + O.length) ≤ 6 * n + 4 ∧ c' + 18 * (2 * s + O.length) ≤ c + 36 * n + 19 ∧ YS B w g lv l q off cap O c' wr
/-- The inner loop. -/
def YJ (B : Nat) (w : World) (g xb q off cap : Nat) (O : List (Int × Int)) (T N C : Nat) (lv rv : Value) (wr : World) : Prop := ∃ (l : List LE) (t c' : Nat) (p0 p1 : Int), rv = .int .i64 (t : Int) ∧ t ≤ 2 ∧ Ly.LInv l ((p0, p1) :: O) ∧ Ly.tracks l = T ∧ l.length + t ≤ N ∧ c' + 6 * t ≤ C ∧ Blk wr xb 75 #[.int .i64 p0, .int .i64 p1] ∧ YS B w g lv l q off cap O c' wr
def numOf : Value → Nat
  | .int _ n => n.toNat
  | _ => 0
def lenOf : Value → Nat
  | .slice _ n _ => n
  | _ => 0
theorem YS.pushQ {B g c q off cap q7 off7 cap7 : Nat} {w wr w' : World} {lv : Value} {l : List LE} {O O2 : List (Int × Int)} (h : YS B w g lv l q off cap O c wr) (hB : B ≤ w.heap.size) (hq7 : QR w' w.heap.size 75 2 q7 off7 O2.length cap7 (flatQ O2)) (hgr : wr.grownBy w' (some q)) : YS B w g lv l q7 off7 cap7 O2 c w' := by
  have hge := h.qr.ge
  refine ⟨h.mkr.grown hgr (fun e => h.qr.ne_mk h.mkr (Option.some.inj e)) (fun b e => by have := Option.some.inj e; omega), h.lo.kept hgr ?_, hq7, grown_then h.gr hgr (fun b e => .inr (by have := Option.some.inj e; omega))⟩
  exact .inr (own_ne_q h.lo h.qr)
set_option maxRecDepth 100000 in
set_option maxHeartbeats 8000000 in
theorem llayout_c (B g c n : Nat) (w : World) (h : Mk B w g c) (hc : c ≤ 1152921504606846976) (hn : n ≤ 12) (hB : B ≤ w.heap.size) :
    Calls Tryd.prog 18 #[.pointer (some ⟨g, 0, none⟩), .int .i64 (n : Int)] w (LayoutR B w g c n) := by
  have hgw := h.lt
  go_enter Tryd.func18, Tryd.ntmps18
  go_wp2_with fail
  refine (ename_c 0 w (by omega)).mono ?_
  rintro e w1 ⟨rfl, hb1⟩
  have hsz1 := hb1.size
  have h1 := h.below hb1
  have hS0 : YS B w g (.slice (some ⟨w1.heap.size, 0, none⟩) 1 1) [⟨0, Ly.ename 0, -1, 0, 0, 0, 0, 0⟩] (w1.heap.size + 1) 0 1 [(0, 0)] c ((w1.alloc (.cells #[.int .i64 0, .string (Ly.ename 0), .int .i64 (-1), .int .i64 0, .int .i64 0, .int .i64 0, .int .i64 0, .int .i64 0] 48)).alloc (.cells #[.int .i64 0, .int .i64 0] 75)) := by
    refine ⟨(h1.alloc _).alloc _, ?_, ?_, ?_⟩
    · exact (World.ownsRow_lit w1 _ 1 hsz1 (by simp [maxLen]) rfl).alloc _
    · have := QR.new (B := w.heap.size) (size := 2) (t := 75) (cs := #[.int .i64 0, .int .i64 0]) (w1.alloc (.cells #[.int .i64 0, .string (Ly.ename 0), .int .i64 (-1), .int .i64 0, .int .i64 0, .int .i64 0, .int .i64 0, .int .i64 0] 48)) (by simp; omega) 1 rfl (by simp [maxLen])
      simpa [flatQ] using this
    · have h2 : Below w.heap.size w ((w1.alloc (.cells #[.int .i64 0, .string (Ly.ename 0), .int .i64 (-1), .int .i64 0, .int .i64 0, .int .i64 0, .int .i64 0, .int .i64 0] 48)).alloc (.cells #[.int .i64 0, .int .i64 0] 75)) := (hb1.alloc hsz1 _).alloc (by simp; omega) _
      exact ⟨h2.os, h2.tape, h2.output, h2.size, fun i hi _ => h2.block i hi⟩
  have HS0 := Lib.hid hS0
  have hm0 := hS0.mkr
  clear hS0 h1
  go_wp2_with fail
  refine (next_c B g c ((n : Int) + 1) _ hm0 (by omega) (by omega) (by omega)).mono ?_
  rintro e w2 ⟨x, hx0, hx1, rfl, hm2, hg2⟩
  obtain ⟨s0, rfl⟩ := Int.eq_ofNat_of_zero_le hx0
  have hS2 := HS0.out.next hm2 hg2
  clear hm2 hg2 hm0 HS0
  have hI0 := Lib.hid Ly.LInv.start
  go_wp2_with fail
  go_loopw [5, 6, 7] (fun lv ov sv wr => YI B w g c n lv ov sv wr) (fun _ ov sv _ => 2 * numOf sv + lenOf ov)
  case atStart => exact (show YI _ _ _ _ _ _ _ _ _ from ⟨_, [(0, 0)], s0, c + 1, _, _, _, rfl, rfl, hI0.out, by simp [Ly.tracks]; omega, by omega, by simp; omega, by simp; omega, hS2⟩)
  case round =>
    obtain ⟨l, O, s, c', q, off, cap, rfl, rfl, hI, hT, hs, hL, hC, hS⟩ := hrel
    clear hS2 hI0
    have HI := Lib.hid hI
    clear hI
    obtain ⟨Al, cl, rfl, hcl1, hcl2⟩ := own_form hS.lo
    have hcap := hS.qr.le
    have hcm := hS.qr.cm
    unfold maxLen at hcm
    cases O with
    | nil =>
      have hlo := hS.lo
      have HV := Lib.hid (Ly.LInv.valid HI.out (by simp at hL; omega) (by simp at hT; omega))
      go_wp2_with fail
      go_ret
      exact (show LayoutR _ _ _ _ _ _ _ from ⟨_, l, c', rfl, hlo, HV.out, by omega, by simp at hC; omega, hS.mkr, hS.gr⟩)
    | cons a O' =>
      obtain ⟨p0, p1⟩ := a
      obtain ⟨hc0, hc1⟩ := hS.head
      simp only at hc0 hc1
      obtain ⟨N, hN⟩ : ∃ N, O'.length = N := ⟨_, rfl⟩
      simp only [List.length_cons, hN] at hT hL hC hcap ⊢
      have HN := Lib.hid hN
      clear hN
      obtain ⟨off2, hoff2⟩ : ∃ o, (if cap = 1 then off else off + 2) = o := ⟨_, rfl⟩
      have hA : (if cap = 1 then (some ⟨q, off, none⟩ : Option Addr) else some ⟨q, off + 2, none⟩) = some ⟨q, off2, none⟩ := by rw [← hoff2]; split <;> rfl
      have hT2 := hS.tail
      rw [hoff2] at hT2
      have hX := Blk.new wr 75 #[.int .i64 p0, .int .i64 p1]
      have hS3 := hT2.alloc (.cells #[.int .i64 p0, .int .i64 p1] 75)
      have hql := hS.qr.lt
      have hszr := hS.gr.size
      clear hoff2 hT2
      have hcap1 : 1 ≤ cap := by omega
      go_wp2_with fail
      refine (next_c B g c' 3 _ hS3.mkr (by omega) (by omega) (by omega)).mono ?_
      rintro e w3 ⟨r0, hr0, hr1, rfl, hm3, hg3⟩
      obtain ⟨rn, rfl⟩ := Int.eq_ofNat_of_zero_le hr0
      have hS4 := hS3.next hm3 hg3
      have hX4 := hX.grown hg3 (fun e => by have := Option.some.inj e; omega)
      obtain ⟨xb, hxb⟩ : ∃ xb, wr.heap.size = xb := ⟨_, rfl⟩
      rw [hxb] at hX4 hql hszr ⊢
      obtain ⟨T, hTT⟩ : ∃ T, Ly.tracks l = T := ⟨_, rfl⟩
      rw [hTT] at hT
      have HTT := Lib.hid hTT
      clear hm3 hg3 hS3 hX hS hc0 hc1 hxb hTT hcl1 hcl2
      go_wp2_with fail
      go_loopw [5, 9] (fun lv rv wi => YJ B w g xb q off2 (cap - 1) O' T (l.length + 2) (c' + 13) lv rv wi) (fun _ rv _ => numOf rv)
      case atStart => exact (show YJ _ _ _ _ _ _ _ _ _ _ _ _ _ _ from ⟨l, rn, c' + 1, p0, p1, rfl, by omega, HI.out, HTT.out, by omega, by omega, hX4, hS4⟩)
      case round =>
        obtain ⟨lj, t, cj, y0, y1, rfl, ht2, hIj, hTj, hNj, hCj, hXj, hSj⟩ := hrel
        clear hS4 hX4
        have HIj := Lib.hid hIj
        have HTj := Lib.hid hTj
        clear hIj hTj
        obtain ⟨Aj, clj, rfl, hclj1, hclj2⟩ := own_form hSj.lo
        have hXl := hXj.lt
        have hgl := hSj.mkr.lt
        have hy := HIj.out.free (y0, y1) (by simp)
        have hy1 : 0 ≤ y1 ∧ y1 ≤ 2 := ⟨hy.2.2.1, hy.2.2.2.1⟩
        have hqx : q ≠ xb := by omega
        have hlj : lj.length ≤ 100 := by omega
        clear hy
        by_cases ht0 : 0 < t
        · have d1 : decide ((0 : Int) < (t : Int)) = true := decide_eq_true (by omega)
          have d1' : decide (0 < t) = true := decide_eq_true ht0
          obtain ⟨t', rfl⟩ : ∃ t', t = t' + 1 := ⟨t - 1, by omega⟩
          have hSa := hSj.alloc (.cells #[.int .i64 1, .int .i64 1, .int .i64 2] 3)
          have hXa := hXj.alloc (.cells #[.int .i64 1, .int .i64 1, .int .i64 2] 3)
          go_wp2_with fail
          refine (pick_c B g cj wr.heap.size 3 _ [1, 1, 2] _ hSa.mkr (by omega) (by omega) (by omega) (by omega) (IR.new _ 3 rfl rfl (by simp [maxLen]))).mono ?_
          rintro e w4 ⟨kd, hkd, rfl, hm4, hg4⟩
          have hSb := hSa.next hm4 hg4
          have hXb := hXa.grown hg4 (fun e => by have := Option.some.inj e; have := hSj.mkr.lt; have := hSj.mkr.ge; have := hXj.ne_ hSj.mkr.blk.choose_spec.choose_spec.choose_spec.choose_spec.1 (by decide); omega)
          have hkd1 : 1 ≤ kd ∧ kd ≤ 2 := by simp at hkd; omega
          have x0 : w4.cell? ⟨xb, 0, none⟩ = some (.int .i64 y0) := hXb.cell 0
          have x1 : w4.cell? ⟨xb, 1, none⟩ = some (.int .i64 y1) := hXb.cell 1
          clear hm4 hg4 hSa hXa hkd hSj hXj
          go_wp2_with fail
          refine (elem_c B g (cj + 1) lj.length kd y0 y1 w4 hSb.mkr (by omega) (by omega) (by omega) hy1).mono ?_
          rintro e w5 ⟨x, cx, rfl, hxk, hxn, hxp, hxs, hxo, hcx, hm5, hg5⟩
          have hSc := hSb.next hm5 hg5
          have hXc := hXb.grown hg5 (fun e => by have := Option.some.inj e; have := hXb.ne_ hSb.mkr.blk.choose_spec.choose_spec.choose_spec.choose_spec.1 (by decide); omega)
          have hHI := Lib.hid (Ly.LInv.put (x := x) (O := O') (by rw [hxp, hxs]; exact HIj.out) (by omega) hxo (by omega) hxn)
          have Hnews : Hid (Ly.news x.k lj.length = [((lj.length : Int), 0)]) := Lib.hid (by unfold Ly.news; rw [if_neg (by omega), if_neg (by omega)])
          have HTk := Lib.hid ((Ly.tracks_app lj x).trans (by rw [if_neg (by omega), Nat.add_zero, HTj.out]))
          clear hm5 hg5 hSb hXb x0 x1 hxk hxn hxp hxs hxo
          have hlo := hSc.lo
          have hszc := hSc.gr.size
          have hl72 : (lj.length + 1) * 72 ≤ 140737488355328 := by omega
          unfold leV
          go_wp2_with (at_builtin
                       go_must (
                       refine wpList_pushb sl72 rfl (.tmp 37) (.tmp 47) rfl w.heap.size _ _ _ rfl hlo 1 1 w5.heap.size (by simp) rfl rfl rfl (by simp only [maxLen]; omega) hl72 hszc ?_
                       intro v' w6 own6 hgr
                       have hne6 := own_blk_ne hlo hXc (by decide)
                       have hSd := hSc.pushL (l' := lj ++ [x]) hB (by rw [List.length_append, flat8_snoc]; exact own6) hgr
                       have hXd := hXc.grown hgr.grown (fun e => hne6 e.symm)
                       have hne7 := own_blk_ne hSd.lo hXd (by decide)
                       obtain ⟨Ad, cd, rfl, hcd1, hcd2⟩ := own_form own6
                       have x0 : w6.cell? ⟨xb, 0, none⟩ = some (.int .i64 y0) := hXd.cell 0
                       have x1 : w6.cell? ⟨xb, 1, none⟩ = some (.int .i64 y1) := hXd.cell 1
                       have z0 := hXd.frozen 0
                       have z1 := hXd.frozen 1))
          have hSe := (hSd.setX hgw hB (by have := hszr; omega) hXd hqx 0 (.int .i64 (lj.length : Int))).setX hgw hB (by omega) (hXd.set_ 0 (.int .i64 (lj.length : Int))) hqx 1 (.int .i64 0)
          have hXe := (hXd.set_ 0 (.int .i64 (lj.length : Int))).set_ 1 (.int .i64 0)
          go_roundw
          case rel => exact (show YJ _ _ _ _ _ _ _ _ _ _ _ _ _ _ from ⟨lj ++ [x], t', cx, (lj.length : Int), 0, rfl, by omega, by have := hHI.out; rw [Hnews.out] at this; exact this, HTk.out, by simp; omega, by omega, by simpa using hXe, by simpa using hSe⟩)
          case measure => simp [numOf]
        · obtain rfl : t = 0 := by omega
          have x0 : wr.cell? ⟨xb, 0, none⟩ = some (.int .i64 y0) := hXj.cell 0
          have x1 : wr.cell? ⟨xb, 1, none⟩ = some (.int .i64 y1) := hXj.cell 1
          by_cases hs0 : 0 < s
          · have d2 : decide ((0 : Int) < (s : Int)) = true := decide_eq_true (by omega)
            have d2' : decide (0 < s) = true := decide_eq_true hs0
            obtain ⟨s', rfl⟩ : ∃ s', s = s' + 1 := ⟨s - 1, by omega⟩
            go_wp2_with fail
            refine (elem_c B g cj lj.length 3 y0 y1 wr hSj.mkr (by omega) (by omega) (by omega) hy1).mono ?_
            rintro e w5 ⟨x, cx, rfl, hxk, hxn, hxp, hxs, hxo, hcx, hm5, hg5⟩
            have hSc := hSj.next hm5 hg5
            have hHI := Lib.hid (Ly.LInv.put (x := x) (O := O') (by rw [hxp, hxs]; exact HIj.out) (by omega) hxo (by omega) hxn)
            have Hnews : Hid (Ly.news x.k lj.length = [((lj.length : Int), 1), ((lj.length : Int), 2)]) := Lib.hid (by unfold Ly.news; rw [if_pos hxk])
            have HTk := Lib.hid ((Ly.tracks_app lj x).trans (by rw [if_neg (by omega), Nat.add_zero, HTj.out]))
            clear hm5 hg5 hSj hXj x0 x1 hxk hxn hxp hxs hxo
            have hlo := hSc.lo
            have hszc := hSc.gr.size
            have hl72 : (lj.length + 1) * 72 ≤ 140737488355328 := by omega
            have hN63 : N + 2 ≤ maxLen := by unfold maxLen; omega
            have hN16 : (N + 2) * 16 ≤ 140737488355328 := by omega
            unfold leV
            go_wp2_with (first
              | (at_builtin
                 have hguard := hlo
                 clear hguard
                 go_must (
                 refine wpList_pushb sl72 rfl (.tmp 57) (.tmp 66) rfl w.heap.size _ _ _ rfl hlo 1 1 w5.heap.size (by simp) rfl rfl rfl (by simp only [maxLen]; omega) hl72 hszc ?_
                 intro v' w6 own6 hgr
                 have hSd := hSc.pushL (l' := lj ++ [x]) hB (by rw [List.length_append, flat8_snoc]; exact own6) hgr
                 have hqr := hSd.qr
                 rw [HN.out] at hqr
                 have hszd := hSd.gr.size
                 obtain ⟨Ad, cd, rfl, hcd1, hcd2⟩ := own_form own6
                 clear hlo own6 hgr))
              | (at_builtin
                 have hguard := hqr
                 clear hguard
                 go_must (
                 refine wpList_pushq rfl (.tmp 68) (.tmp 77) rfl rfl hqr 2 2 w6.heap.size rfl rfl rfl rfl hN63 hN16 hszd (by omega) ?_
                 intro q7 off7 cap7 w7 hq7 hgr7 hqq)))
            have hq8 : QR w7 w.heap.size 75 2 q7 off7 (O' ++ [((lj.length : Int), 1), ((lj.length : Int), 2)]).length cap7 (flatQ (O' ++ [((lj.length : Int), 1), ((lj.length : Int), 2)])) := by
              rw [List.length_append, HN.out, flatQ_app]; exact hq7
            have hSe := hSd.pushQ hB hq8 hgr7
            have hIe : Ly.LInv (lj ++ [x]) (O' ++ [((lj.length : Int), 1), ((lj.length : Int), 2)]) := by
              have := hHI.out
              rw [Hnews.out] at this
              exact this.perm List.perm_append_comm
            go_roundw
            case rel => exact (show YI _ _ _ _ _ _ _ _ _ from ⟨lj ++ [x], O' ++ [((lj.length : Int), 1), ((lj.length : Int), 2)], s', cx, q7, off7, cap7, by rw [List.length_append, HN.out]; rfl, rfl, hIe, by rw [HTk.out, List.length_append, HN.out]; simp; omega, by omega, by rw [List.length_append, List.length_append, HN.out]; simp; omega, by rw [List.length_append, HN.out]; simp; omega, hSe⟩)
            case measure => simp [numOf, lenOf]; omega
          · obtain rfl : s = 0 := by omega
            go_wp2_with fail
            refine (elem_c B g cj lj.length 4 y0 y1 wr hSj.mkr (by omega) (by omega) (by omega) hy1).mono ?_
            rintro e w5 ⟨x, cx, rfl, hxk, hxn, hxp, hxs, hxo, hcx, hm5, hg5⟩
            have hSc := hSj.next hm5 hg5
            have hHI := Lib.hid (Ly.LInv.put (x := x) (O := O') (by rw [hxp, hxs]; exact HIj.out) (by omega) hxo (by omega) hxn)
            have Hnews : Hid (Ly.news x.k lj.length = []) := Lib.hid (by unfold Ly.news; rw [if_neg (by omega), if_pos hxk])
            have HTk := Lib.hid ((Ly.tracks_app lj x).trans (by rw [if_pos hxk, HTj.out]))
            clear hm5 hg5 hSj hXj x0 x1 hxk hxn hxp hxs hxo
            have hlo := hSc.lo
            have hszc := hSc.gr.size
            have hl72 : (lj.length + 1) * 72 ≤ 140737488355328 := by omega
            unfold leV
            go_wp2_with (at_builtin
                         go_must (
                         refine wpList_pushb sl72 rfl (.tmp 79) (.tmp 88) rfl w.heap.size _ _ _ rfl hlo 1 1 w5.heap.size (by simp) rfl rfl rfl (by simp only [maxLen]; omega) hl72 hszc ?_
                         intro v' w6 own6 hgr
                         have hSd := hSc.pushL (l' := lj ++ [x]) hB (by rw [List.length_append, flat8_snoc]; exact own6) hgr))
            go_roundw
            case rel => exact (show YI _ _ _ _ _ _ _ _ _ from ⟨lj ++ [x], O', 0, cx, q, off2, cap - 1, by rw [HN.out], rfl, by have := hHI.out; rw [Hnews.out] at this; exact this, by rw [HTk.out, HN.out]; omega, by omega, by rw [List.length_append, HN.out]; simp; omega, by rw [HN.out]; omega, hSd⟩)
            case measure => simp [numOf, lenOf]
end Go.Proofs.YtmjdjcpmkdninaaDoor
namespace Go.Proofs.YtmjdjcpmkdninaaDoor
open Go.RowKit
theorem inMod (a m : Int) (hm : 0 < m) : ∃ r : Nat, (a.tmod m + m).tmod m = (r : Int) ∧ (r : Int) < m := by
  have h0 := tmod_bd a m hm
  obtain ⟨x, hx⟩ := Int.eq_ofNat_of_zero_le (show (0 : Int) ≤ a.tmod m + m by omega)
  obtain ⟨k, rfl⟩ := Int.eq_ofNat_of_zero_le (show (0 : Int) ≤ m by omega)
  rw [hx]
  refine ⟨x % k, ?_, ?_⟩
  · rw [Int.tmod_eq_emod_of_nonneg (by omega)]
    exact (Int.natCast_emod x k).symm
  · have := Nat.mod_lt x (show 0 < k by omega)
    omega
def LMadeR (B : Nat) (w : World) (g c N : Nat) (e : Ending) (w' : World) : Prop := ∃ A n cp l c', e = .returned (.slice A n cp) ∧ w'.ownsRow w.heap.size 48 8 (.slice A n cp) n (flat8 l) ∧ LR w' A n l ∧ n ≤ 6 * N + 4 ∧ n ≤ cp ∧ cp ≤ maxLen ∧ Hid (Ly.vErr l = 0) ∧ Hid (∀ x ∈ l, Ly.LeOk x) ∧ c' ≤ c + 40 * N + 20 ∧ Mk B w' g c' ∧ w.grownBy w' (some g)
theorem lmade_c (B g c n : Nat) (w : World) (h : Mk B w g c) (hc : c ≤ 1152921504606846976) (hn : n ≤ 12) (hB : B ≤ w.heap.size) :
    Calls Tryd.prog 18 #[.pointer (some ⟨g, 0, none⟩), .int .i64 (n : Int)] w (LMadeR B w g c n) := by
  refine (llayout_c B g c n w h hc hn hB).mono ?_
  rintro e w' ⟨v, l, c', rfl, own, hV, h1, hc', hm, hg⟩
  obtain ⟨A, cp, rfl, h3, h4⟩ := own_form own
  exact ⟨A, l.length, cp, l, c', rfl, own, own_LR own, h1, h3, h4, Lib.hid hV, Lib.hid (Ly.vErr_leok hV), hc', hm, hg⟩
theorem leOk_size {l : List LE} (h : ∀ x ∈ l, Ly.LeOk x) : ∀ x ∈ l, x.nm.size ≤ maxLen := fun x hx => by have := (h x hx).size; unfold maxLen; omega
theorem leOk_wf {l : List LE} (h : ∀ x ∈ l, Ly.LeOk x) : ∀ x ∈ l, (Lit.int .i64 x.p).wf = true ∧ (Lit.int .i64 x.sd).wf = true := fun x hx => by
  have h1 := (h x hx).2.1
  have h2 := (h x hx).2.2
  exact ⟨wf_small (by omega), wf_small (by omega)⟩
theorem lfmtOk_c (A : Option Addr) (n c : Nat) (l : List LE) (w : World) (hn : n ≤ maxLen) (h : LR w A n l) (hs : ∀ x ∈ l, Ly.LeOk x) (ht : Tab10 w) (hv : Ly.vErr l = 0) :
    Calls Tryd.prog 12 #[.slice A n c] w fun e w' => e = .returned (.tuple #[.string (baOf (Ly.fmtL l)), .int .i64 0]) ∧ Below w.heap.size w w' := by
  refine (lformat_c A n c l w hn h (leOk_size hs) (leOk_wf hs) ht).mono ?_
  rintro e w' ⟨he, hb⟩
  rw [Ly.fmt_ok hv] at he
  exact ⟨he, hb⟩
end Go.Proofs.YtmjdjcpmkdninaaDoor
