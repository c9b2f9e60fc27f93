/- What the walks share: endings, 'Below' step by step, slices that read as lists, blocks known whole, appends onto a row of the call's own, bounds. (Sections 1, 2, 3 of the guide's extra-words, turned to this claim, and more.) -/
import Derived.Test.YtocohkgdkebmdaaGreatRows
import Derived.WalkKit
import Derived.WalkSpells
import Derived.WalkLawsBesides
import Derived.Lib.Hide
import Derived.Laws.OwnMore
import Derived.Deep.AppendLies
import Derived.Deep.Draws
import Derived.Maps.AppendAt
import Derived.Deep.LoopGhost
import Derived.Deep.QuietTactic
import Derived.BigQuiet
namespace Go.Proofs.YtocohkgdkebmdaaGreat
open Go.RowKit

theorem vint {k : IntKind} {a b : Int} (h : a = b) : Value.int k a = Value.int k b := by rw [h]
theorem retv {k : IntKind} {a b : Int} (h : a = b) : Ending.returned (.int k a) = .returned (.int k b) := by rw [h]
theorem retb {a b : Bool} (h : a = b) : Ending.returned (.bool a) = .returned (.bool b) := by rw [h]
theorem ret2v {k k' : IntKind} {a b a' b' : Int} (h : a = a') (h' : b = b') : Ending.returned (.tuple #[.int k a, .int k' b]) = .returned (.tuple #[.int k a', .int k' b']) := by rw [h, h']
theorem ret3v {k k' k'' : IntKind} {a b c a' b' c' : Int} (h : a = a') (h' : b = b') (h'' : c = c') : Ending.returned (.tuple #[.int k a, .int k' b, .int k'' c]) = .returned (.tuple #[.int k a', .int k' b', .int k'' c']) := by rw [h, h', h'']
theorem below_step {w w1 w2 : World} (h1 : Below w.heap.size w w1) (h2 : Below w1.heap.size w1 w2) : Below w.heap.size w w2 := h1.trans (h2.mono h1.size)
theorem below_drew' {B : Nat} {w w1 : World} (h : Below B w.drew w1) : Below B w w1 := ⟨h.os, h.tape, h.output, h.size, h.block⟩
theorem below_drewN' {B n : Nat} {w w1 : World} (h : Below B (w.drewN n) w1) : Below B w w1 := ⟨h.os, h.tape, h.output, h.size, h.block⟩
theorem block_of_add (a : Addr) (n : Nat) : (a.add n).block = a.block := by unfold Addr.add; split <;> rfl
theorem add_of_add (a : Addr) (i j : Nat) : (a.add i).add j = a.add (i + j) := by
  unfold Addr.add
  by_cases hi : i = 0 <;> by_cases hj : j = 0 <;> simp [hi, hj, Nat.add_assoc]
def Reads (w : World) (B size : Nat) (A : Option Addr) (n : Nat) (xs : List Value) : Prop :=
  xs.length = n * size ∧ (0 < n → ∃ ad, A = some ad ∧ ad.block < B ∧ ∀ j u, xs[j]? = some u → w.cell? (ad.add j) = some u)
section
variable {w w' : World} {B B' size n : Nat} {A : Option Addr} {xs : List Value}
theorem Reads.at_ {k : Nat} (h : Reads w B 1 A n xs) (hk : k < n) : ∃ ad u, A = some ad ∧ ad.block < B ∧ xs[k]? = some u ∧ w.cell? (ad.add k) = some u := by
  obtain ⟨ad, e, hb, hc⟩ := h.2 (by omega)
  have hl : k < xs.length := by have := h.1; omega
  exact ⟨ad, xs[k], e, hb, List.getElem?_eq_getElem hl, hc k _ (List.getElem?_eq_getElem hl)⟩
theorem Reads.keep (h : Reads w B size A n xs) (hk : ∀ p : Addr, p.block < B → w'.cell? p = w.cell? p) : Reads w' B size A n xs :=
  ⟨h.1, fun hn => by
    obtain ⟨ad, e, hb, hc⟩ := h.2 hn
    exact ⟨ad, e, hb, fun j u hu => (hk _ (by rw [block_of_add]; exact hb)).trans (hc j u hu)⟩⟩
theorem Reads.more (h : Reads w B size A n xs) (hB : B ≤ B') : Reads w B' size A n xs :=
  ⟨h.1, fun hn => by
    obtain ⟨ad, e, hb, hc⟩ := h.2 hn
    exact ⟨ad, e, by omega, hc⟩⟩
theorem Reads.below (h : Reads w B size A n xs) (hb : Below B w w') : Reads w' B size A n xs := h.keep fun _ hp => hb.cell hp
theorem Reads.drew (h : Reads w B size A n xs) : Reads w.drew B size A n xs := h
theorem Reads.drewN (h : Reads w B size A n xs) (k : Nat) : Reads (w.drewN k) B size A n xs := h
theorem Reads.alloc (h : Reads w B size A n xs) (hB : B ≤ w.heap.size) (o : Obj) : Reads (w.alloc o) B size A n xs := h.keep fun p hp => World.cell?_alloc_lt w o p (by omega)
theorem Reads.setCell (h : Reads w B size A n xs) {p : Addr} (hB : B ≤ p.block) (u : Value) : Reads (w.setCell p u) B size A n xs :=
  h.keep fun q hq => World.cell?_setCell_other w p q u (fun e => by subst e; omega)
theorem Reads.grown (h : Reads w B size A n xs) {row : Option Nat} (hg : w.grownBy w' row) (hB : B ≤ w.heap.size) (hr : ∀ g, row = some g → B ≤ g) : Reads w' B size A n xs :=
  h.keep fun p hp => World.cell?_of_block (hg.block p.block (by omega) (fun e => by have := hr _ e.symm; omega))
theorem Reads.cut (h : Reads w B size A n xs) {k cap : Nat} (hk : k ≤ n) (hc : n ≤ cap) :
    Reads w B size (if cap = k then A else A.map (·.add (k * size))) (n - k) (xs.drop (k * size)) := by
  refine ⟨by rw [List.length_drop, h.1, Nat.sub_mul], fun hn => ?_⟩
  obtain ⟨ad, rfl, hb, hcell⟩ := h.2 (by omega)
  rw [if_neg (by omega)]
  refine ⟨ad.add (k * size), rfl, by rw [block_of_add]; exact hb, fun j u hu => ?_⟩
  rw [add_of_add]
  exact hcell _ u (by rw [← hu, List.getElem?_drop])
theorem Reads.of_own {base : Nat} {e : TypeId} {c : Nat} (h : w.ownsRow base e size (.slice A n c) n xs) : Reads w w.heap.size size A n xs := by
  refine ⟨h.1, fun hn => ?_⟩
  obtain ⟨g, cap, hv, _, hlt⟩ := h.form hn
  have hA : A = some ⟨g, 0, none⟩ := by injection hv
  subst hA
  exact ⟨_, rfl, hlt, h.cells (g := g) rfl⟩
end

def Blk (w : World) (g : Nat) (t : TypeId) (cs : Array Value) : Prop := w.heap[g]? = some (.cells cs t (0, 0))
section
variable {w w' : World} {g : Nat} {t : TypeId} {cs : Array Value}
theorem Blk.lt (h : Blk w g t cs) : g < w.heap.size := by
  rcases Nat.lt_or_ge g w.heap.size with hlt | hge
  · exact hlt
  · unfold Blk at h; rw [Array.getElem?_eq_none hge] at h; cases h
theorem Blk.cell (h : Blk w g t cs) (i : Nat) : w.cell? ⟨g, i, none⟩ = cs[i]? := cell_of_row w g i cs t (0, 0) h
theorem Blk.frozen (h : Blk w g t cs) (i : Nat) : w.frozen? ⟨g, i, none⟩ = false := by
  unfold Blk at h
  simp [World.frozen?, h]
theorem Blk.new (w : World) (t : TypeId) (cs : Array Value) : Blk (w.alloc (.cells cs t)) w.heap.size t cs := heap_alloc_new w _
theorem Blk.drew (h : Blk w g t cs) : Blk w.drew g t cs := h
theorem Blk.drewN (h : Blk w g t cs) (n : Nat) : Blk (w.drewN n) g t cs := h
theorem Blk.alloc (h : Blk w g t cs) (o : Obj) : Blk (w.alloc o) g t cs := (Below.heap_alloc w o g h.lt).trans h
theorem Blk.set_ (h : Blk w g t cs) (i : Nat) (u : Value) : Blk (w.setCell ⟨g, i, none⟩ u) g t (cs.setIfInBounds i u) := by
  unfold Blk at h ⊢
  simp [World.setCell, Array.getElem?_modify, h]
theorem Blk.far (h : Blk w g t cs) {p : Addr} (hp : g ≠ p.block) (u : Value) : Blk (w.setCell p u) g t cs := (Below.heap_setCell w p u g hp).trans h
theorem Blk.below {B : Nat} (h : Blk w g t cs) (hb : Below B w w') (hg : g < B) : Blk w' g t cs := (hb.block g hg).trans h
theorem Blk.grown {row : Option Nat} (h : Blk w g t cs) (hb : w.grownBy w' row) (hg : some g ≠ row) : Blk w' g t cs := (hb.block g h.lt hg).trans h
theorem Blk.ne_ {g' : Nat} {t' : TypeId} {cs' : Array Value} (h : Blk w g t cs) (h' : Blk w g' t' cs') (hne : t ≠ t') : g ≠ g' := by
  rintro rfl
  unfold Blk at h h'
  rw [h] at h'
  injection h' with h'
  injection h' with _ ht
  exact hne ht
theorem own_blk_ne {base : Nat} {e : TypeId} {size n : Nat} {v : Value} {xs : List Value} (h : w.ownsRow base e size v n xs) (hg : Blk w g t cs) (hne : e ≠ t) : v.ownBlock ≠ some g := by
  rcases h.2 with ⟨rfl, _⟩ | ⟨g', cap, cur, rfl, _, hh, _⟩
  · simp [Value.ownBlock]
  · intro he
    have : g' = g := by simpa [Value.ownBlock] using he
    subst this
    exact Blk.ne_ (t := e) hh hg hne rfl
end

section
variable {P : Program} (w : World)

theorem run_append_of_nil (base : Nat) (t ty e : TypeId) (i : TypeInfo) (size : Nat) (ht : P.underlying t = some (.slice e)) (hi : P.info? e = some i)
    (v : Value) (n : Nat) (xs : List Value) (hown : w.ownsRow base e size v n xs) (c : Nat) : (Builtin.append_ #[t, t] ty #[v, .slice none 0 c]).run P w = .ok v w := by
  rcases hown.2 with ⟨rfl, rfl⟩ | ⟨g, cap, cur, rfl, _, _, hnc, _⟩
  · simp [Builtin.append_, run_underlying ht, sizeOf, typeInfo, hi, Builtin.lenOf, Builtin.firstCells]
  · simp [Builtin.append_, run_underlying ht, sizeOf, typeInfo, hi, Builtin.lenOf, Builtin.firstCells, hnc, storeCells]
theorem run_append_any (base : Nat) (t ty e : TypeId) (i : TypeInfo) (z : Value) (size bytes : Nat) (ht : P.underlying t = some (.slice e)) (hi : P.info? e = some i) (hz : i.zero = some z)
    (hsize : i.size = size) (hby : i.bytes = bytes) (hzs : z.cells.size = size) (hsz : 0 < size)
    (v : Value) (n : Nat) (xs : List Value) (hown : w.ownsRow base e size v n xs)
    (B : Nat) (A : Option Addr) (m c : Nat) (news : List Value) (hr : Reads w B size A m news) (h1 : ∀ u ∈ news, u.oneCell' = true)
    (h63 : n + m ≤ maxLen) (hbytes : (n + m) * bytes ≤ 140737488355328) (hbase : base ≤ w.heap.size) :
    ∃ v' w', (Builtin.append_ #[t, t] ty #[v, .slice A m c]).run P w = .ok v' w' ∧ w'.ownsRow base e size v' (n + m) (xs ++ news) ∧ w.grownBy w' v.ownBlock ∧
      (v'.ownBlock = v.ownBlock ∨ v'.ownBlock = some w.heap.size) := by
  rcases A with _ | ad
  · have hm : m = 0 := by
      rcases Nat.eq_zero_or_pos m with h0 | h0
      · exact h0
      · obtain ⟨ad, h, _⟩ := hr.2 h0
        cases h
    subst hm
    have hn : news = [] := List.eq_nil_of_length_eq_zero (by simpa using hr.1)
    subst hn
    exact ⟨v, w, run_append_of_nil w base t ty e i size ht hi v n xs hown c, by simpa using hown, World.grownBy.refl w _, .inl rfl⟩
  · have hcells : ∀ j u, news[j]? = some u → w.cell? (ad.add j) = some u := by
      intro j u hu
      rcases Nat.eq_zero_or_pos m with h0 | h0
      · subst h0
        have hn : news = [] := List.eq_nil_of_length_eq_zero (by simpa using hr.1)
        subst hn
        simp at hu
      · obtain ⟨ad', h, _, hc⟩ := hr.2 h0
        injection h with h
        subst h
        exact hc j u hu
    obtain ⟨v', w', hrun, h2, h3, _, h5⟩ := run_append_own_at (P := P) w base t ty e i z size bytes ht hi hz hsize hby hzs hsz v n xs hown ad m c news hr.1 hcells h1 h63 hbytes hbase
    exact ⟨v', w', hrun, h2, h3, h5⟩
theorem wp_append_any {o : Oper} {a : Act} {K : Act → World → Prop} {Q : Exit → Act → World → Prop} (s x : Operand) (t : TypeId)
    (ho : o.op = .call { callee := .builtin .append, args := #[s, x], argTypes := #[t, t] })
    (base : Nat) (e : TypeId) (i : TypeInfo) (z : Value) (size bytes : Nat) (ht : P.underlying t = some (.slice e)) (hi : P.info? e = some i) (hz : i.zero = some z)
    (hsize : i.size = size) (hby : i.bytes = bytes) (hzs : z.cells.size = size) (hsz : 0 < size)
    (v : Value) (n : Nat) (xs : List Value) (hs : a.eval s = v) (hown : w.ownsRow base e size v n xs)
    (B : Nat) (A : Option Addr) (m c : Nat) (news : List Value) (hx : a.eval x = .slice A m c) (hr : Reads w B size A m news) (h1 : ∀ u ∈ news, u.oneCell' = true)
    (h63 : n + m ≤ maxLen) (hbytes : (n + m) * bytes ≤ 140737488355328) (hbase : base ≤ w.heap.size)
    (h : ∀ v' w', w'.ownsRow base e size v' (n + m) (xs ++ news) → w.grownBy w' v.ownBlock → (v'.ownBlock = v.ownBlock ∨ v'.ownBlock = some w.heap.size) → K (a.put o.dst v') w') : o.wp P a w K Q := by
  obtain ⟨v', w', hrun, h2, h3, h4⟩ := run_append_any (P := P) w base t o.type e i z size bytes ht hi hz hsize hby hzs hsz v n xs hown B A m c news hr h1 h63 hbytes hbase
  unfold Oper.wp execOp
  simp only [ho, resolve, invoke, builtin, Sem.run_bind, Sem.run_pure, Result.andThen_ok, List.map_toArray, List.map_cons, List.map_nil, hs, hx, hrun]
  exact h v' w' h2 h3 h4
theorem wpList_append_any {ops : Array Oper} {rest : List Oper} {o : Oper} {a : Act} {Q : Exit → Act → World → Prop} (hgd : o.guard = none) (s x : Operand) (t : TypeId)
    (ho : o.op = .call { callee := .builtin .append, args := #[s, x], argTypes := #[t, t] })
    (base : Nat) (e : TypeId) (i : TypeInfo) (z : Value) (size bytes : Nat) (ht : P.underlying t = some (.slice e)) (hi : P.info? e = some i) (hz : i.zero = some z)
    (hsize : i.size = size) (hby : i.bytes = bytes) (hzs : z.cells.size = size) (hsz : 0 < size)
    (v : Value) (n : Nat) (xs : List Value) (hs : a.eval s = v) (hown : w.ownsRow base e size v n xs)
    (B : Nat) (A : Option Addr) (m c : Nat) (news : List Value) (hx : a.eval x = .slice A m c) (hr : Reads w B size A m news) (h1 : ∀ u ∈ news, u.oneCell' = true)
    (h63 : n + m ≤ maxLen) (hbytes : (n + m) * bytes ≤ 140737488355328) (hbase : base ≤ w.heap.size)
    (h : ∀ v' w', w'.ownsRow base e size v' (n + m) (xs ++ news) → w.grownBy w' v.ownBlock → (v'.ownBlock = v.ownBlock ∨ v'.ownBlock = some w.heap.size) → wpList P ops Q rest (a.put o.dst v') w') : wpList P ops Q (o :: rest) a w :=
  wpList_plain hgd fun _ hK => wp_append_any w s x t ho base e i z size bytes ht hi hz hsize hby hzs hsz v n xs hs hown B A m c news hx hr h1 h63 hbytes hbase fun v' w' h2 h3 h4 => hK _ _ (h v' w' h2 h3 h4)
end


/- ## Slices of integers that read as lists -/
theorem below_drewN {B : Nat} {a w : World} (h : Below B a w) (n : Nat) : Below B a (w.drewN n) := ⟨h.os, h.tape, h.output, h.size, h.block⟩
/-- The slice (address A, n elements) reads as the integers l. -/
def IR (k : IntKind) (w : World) (A : Option Addr) (n : Nat) (l : List Int) : Prop := Reads w w.heap.size 1 A n (l.map (Value.int k))
section
variable {k : IntKind} {w w' : World} {A : Option Addr} {n : Nat} {l : List Int}
theorem IR.len (h : IR k w A n l) : l.length = n := by have := h.1; simpa using this
theorem IR.at_ (h : IR k w A n l) {i : Nat} (hi : i < n) :
    ∃ ad, A = some ad ∧ ad.block < w.heap.size ∧ w.cell? (ad.add i) = some (.int k (l.getD i 0)) := by
  obtain ⟨ad, u, e, hb, hx, hc⟩ := Reads.at_ h hi
  refine ⟨ad, e, hb, ?_⟩
  rw [hc]
  have hl := h.len
  rw [List.getElem?_map, List.getElem?_eq_getElem (by omega)] at hx
  simp at hx
  rw [← hx, List.getD_eq_getElem?_getD, List.getElem?_eq_getElem (by omega)]
  rfl
theorem IR.at0 (h : IR k w A n l) (hn : 0 < n) : ∃ ad, A = some ad ∧ ad.block < w.heap.size ∧ w.cell? ad = some (.int k (l.getD 0 0)) ∧ ∀ i, 0 < i → i < n → w.cell? ⟨ad.block, ad.off + i, none⟩ = some (.int k (l.getD i 0)) := by
  obtain ⟨ad, e, hb, hc⟩ := h.at_ hn
  refine ⟨ad, e, hb, by simpa [Addr.add] using hc, fun i hi hin => ?_⟩
  obtain ⟨ad', e', _, hc'⟩ := h.at_ hin
  obtain rfl := Option.some.inj (e.symm.trans e')
  have h2 : ad.add i = ⟨ad.block, ad.off + i, none⟩ := by
    unfold Addr.add
    rw [if_neg (by omega)]
  rwa [h2] at hc'
theorem IR.below (h : IR k w A n l) (hb : Below w.heap.size w w') : IR k w' A n l := (Reads.below h hb).more hb.size
theorem IR.atb {b : Nat} (h : IR k w (some ⟨b, 0, none⟩) n l) {i : Nat} (hi : i < n) : w.cell? ⟨b, i, none⟩ = some (.int k (l.getD i 0)) := by
  obtain ⟨ad, e, _, hc⟩ := h.at_ hi
  obtain rfl := Option.some.inj e
  have h2 : ((⟨b, 0, none⟩ : Addr).add i) = ⟨b, i, none⟩ := by
    unfold Addr.add
    by_cases hj : i = 0
    · simp [hj]
    · simp [hj]
  rwa [h2] at hc
theorem IR.nil_ : IR k w A 0 [] := ⟨by simp, fun h => absurd h (by omega)⟩
theorem IR.cell {ad : Addr} {i : Nat} {u : Value} {w0 : World} (h : w0.cell? (ad.add i) = some u) (hb : ad.block < w0.heap.size) (hw : Below w0.heap.size w0 w) : w.cell? (ad.add i) = some u :=
  (hw.cell (p := ad.add i) (by rw [block_of_add]; exact hb)).trans h
end

/- ## Appending onto a row of the call's own -/
structure SlT (P : Program) (t e : TypeId) (size bytes : Nat) : Prop where
  under : P.underlying t = some (.slice e)
  info : ∃ i z, P.info? e = some i ∧ i.zero = some z ∧ i.size = size ∧ i.bytes = bytes ∧ z.cells.size = size
  pos : 0 < size
theorem slT_of {P : Program} {t e : TypeId} {z : Value} {size bytes : Nat} (hu : P.underlying t = some (.slice e)) (hi : (P.info? e).map (fun i => (i.zero, i.size, i.bytes)) = some (some z, size, bytes))
    (hz : z.cells.size = size) (hp : 0 < size) : SlT P t e size bytes := by
  obtain ⟨i, h1, h2, h3, h4⟩ := info_parts hi
  exact ⟨hu, ⟨i, z, h1, h2, h3, h4, hz⟩, hp⟩
/-- No block in common. -/
def apart (u v : Value) : Prop := u.ownBlock = none ∨ u.ownBlock ≠ v.ownBlock
/-- The row v has become v' and w0 has become w': only v's own block may have turned; v' lies there or in new memory. -/
structure Grew (w0 : World) (v v' : Value) (w' : World) : Prop where
  grown : w0.grownBy w' v.ownBlock
  place : v'.ownBlock = v.ownBlock ∨ ∃ g, v'.ownBlock = some g ∧ w0.heap.size ≤ g
section
variable {w0 w' : World} {u v v' : Value} {B e size n : Nat} {xs : List Value}
theorem Grew.below (h : Grew w0 v v' w') (hv : ∀ g, v.ownBlock = some g → B ≤ g) (hB : B ≤ w0.heap.size) : Below B w0 w' := (Below.refl _ _).grown h.grown hB hv
theorem Grew.keep (h : Grew w0 v v' w') (hu : w0.ownsRow B e size u n xs) (ha : apart u v) : w'.ownsRow B e size u n xs := hu.kept h.grown ha
theorem Grew.apart_l (h : Grew w0 v v' w') (hu : w0.ownsRow B e size u n xs) (ha : apart u v) : apart u v' := by
  rcases ha with ha | ha
  · exact .inl ha
  · rcases h.place with hp | ⟨g, hp, hg⟩
    · exact .inr (by rw [hp]; exact ha)
    · refine .inr ?_
      rw [hp]
      intro he
      have := (hu.lt g he).2
      omega
theorem apart.symm (h : apart u v) : apart v u := by
  rcases h with h | h
  · by_cases hv : v.ownBlock = none
    · exact .inl hv
    · exact .inr (by rw [h]; exact hv)
  · exact .inr (fun e => h e.symm)
theorem own_ge (h : w0.ownsRow B e size v n xs) : ∀ g, v.ownBlock = some g → B ≤ g := fun g hg => (h.lt g hg).1
theorem own_form (h : w0.ownsRow B e size v n xs) : ∃ A c, v = .slice A n c ∧ n ≤ c ∧ c ≤ maxLen := by
  rcases h.2 with ⟨rfl, rfl⟩ | ⟨g, cap, cur, rfl, _, _, h1, h2, _⟩
  · exact ⟨none, 0, rfl, by omega, by simp [maxLen]⟩
  · exact ⟨_, cap, rfl, h1, h2⟩
theorem own_below {w1 : World} (h : w0.ownsRow B e size v n xs) (hb : Below w0.heap.size w0 w1) : w1.ownsRow B e size v n xs := by
  refine ⟨h.1, ?_⟩
  rcases h.2 with h0 | ⟨g, cap, cur, hv, hg, hh, h1, h2, h3, h4⟩
  · exact .inl h0
  · have hlt : g < w0.heap.size := by
      rcases Nat.lt_or_ge g w0.heap.size with hlt | hge
      · exact hlt
      · rw [Array.getElem?_eq_none hge] at hh; cases hh
    exact .inr ⟨g, cap, cur, hv, hg, (hb.block g hlt).trans hh, h1, h2, h3, h4⟩
theorem own_more {B' : Nat} (h : w0.ownsRow B e size v n xs) (hB : B' ≤ B) : w0.ownsRow B' e size v n xs := by
  refine ⟨h.1, ?_⟩
  rcases h.2 with h0 | ⟨g, cap, cur, hv, hg, hh⟩
  · exact .inl h0
  · exact .inr ⟨g, cap, cur, hv, Nat.le_trans hB hg, hh⟩
theorem own_IR {k : IntKind} {A : Option Addr} {c : Nat} {l : List Int} (h : w0.ownsRow B e 1 (.slice A n c) n (l.map (Value.int k))) : IR k w0 A n l := Reads.of_own h
theorem own_len {l : List Int} {k : IntKind} (h : w0.ownsRow B e 1 v n (l.map (Value.int k))) : l.length = n := by have := h.1; simpa using this
end

theorem IR.new {k : IntKind} {w : World} {cs : Array Value} {t : TypeId} (l : List Int) (n : Nat) (hl : l.length = n) (h : cs.toList = l.map (Value.int k)) (hm : n ≤ maxLen) : IR k (w.alloc (.cells cs t)) (some ⟨w.heap.size, 0, none⟩) n l := by
  have hs : cs.size = n * 1 := by
    have := congrArg List.length h
    simp at this
    omega
  have h2 := World.ownsRow_lit (base := 0) (e := t) (size := 1) w cs n (Nat.zero_le _) hm hs
  rw [h] at h2
  exact own_IR h2
theorem own_set_other {w0 : World} {B e size n g j : Nat} {v : Value} {xs : List Value} (h : w0.ownsRow B e size v n xs) (hne : v.ownBlock ≠ some g) (u : Value) : (w0.setCell ⟨g, j, none⟩ u).ownsRow B e size v n xs := by
  refine ⟨h.1, ?_⟩
  rcases h.2 with h0 | ⟨g', cap, cur, hv, hg, hh, h1⟩
  · exact .inl h0
  · refine .inr ⟨g', cap, cur, hv, hg, (Below.heap_setCell w0 ⟨g, j, none⟩ u g' ?_).trans hh, h1⟩
    rintro rfl
    exact hne (by rw [hv]; rfl)
theorem own_drew {w0 : World} {B e size n : Nat} {v : Value} {xs : List Value} (h : w0.ownsRow B e size v n xs) : w0.drew.ownsRow B e size v n xs := h
theorem own_set {w0 : World} {B e n g cap j : Nat} {k : IntKind} {l : List Int} (h : w0.ownsRow B e 1 (.slice (some ⟨g, 0, none⟩) n cap) n (l.map (Value.int k))) (x : Int) :
    (w0.setCell ⟨g, j, none⟩ (.int k x)).ownsRow B e 1 (.slice (some ⟨g, 0, none⟩) n cap) n ((l.set j x).map (Value.int k)) := by
  have := (h.stored j (.int k x)).1
  rwa [List.map_set]
theorem own_cell {w0 : World} {B e n g cap j : Nat} {k : IntKind} {l : List Int} (h : w0.ownsRow B e 1 (.slice (some ⟨g, 0, none⟩) n cap) n (l.map (Value.int k))) (hj : j < n) : w0.cell? ⟨g, j, none⟩ = some (.int k (l.getD j 0)) := by
  rw [h.cellAt j (by omega)]
  have hl := own_len h
  rw [List.getElem?_map, List.getElem?_eq_getElem (by omega), List.getD_eq_getElem?_getD, List.getElem?_eq_getElem (by omega)]
  rfl
theorem own_lt {w0 : World} {B e size n : Nat} {v : Value} {xs : List Value} (h : w0.ownsRow B e size v n xs) : ∀ g, v.ownBlock = some g → g < w0.heap.size := fun g hg => (h.lt g hg).2
/-- A row that lay before a call, and one that the call made, are apart. -/
theorem apart_old {w0 w1 : World} {B B' e e' size size' n n' : Nat} {u v : Value} {xs ys : List Value} (h : w0.ownsRow B e size u n xs) (h' : w1.ownsRow B' e' size' v n' ys) (hB : w0.heap.size ≤ B') : apart u v := by
  by_cases hu : u.ownBlock = none
  · exact .inl hu
  · refine .inr fun e => ?_
    obtain ⟨g, hg⟩ := Option.ne_none_iff_exists'.1 hu
    have := own_lt h g hg
    have := own_ge h' g (by rw [← e]; exact hg)
    omega
theorem Grew.cell {w0 w' : World} {v v' u : Value} {a : Addr} (h : Grew w0 v v' w') (hc : w0.cell? a = some u) (hne : v.ownBlock ≠ some a.block) : w'.cell? a = some u := h.grown.cell hc (fun e => hne e.symm)
/-- A cell of a block laid just before an append onto an older row. -/
theorem Grew.cell_new {w : World} {v v' u : Value} {w' : World} {B e size n t : Nat} {xs : List Value} {cs : Array Value} (h : Grew (w.alloc (.cells cs t)) v v' w') (hown : w.ownsRow B e size v n xs) (i : Nat) (hi : cs[i]? = some u) : w'.cell? ⟨w.heap.size, i, none⟩ = some u := by
  refine h.cell ?_ (fun e => ?_)
  · have hb : Blk (w.alloc (.cells cs t)) w.heap.size t cs := Blk.new w t cs
    rw [hb.cell]; exact hi
  · have := own_lt hown _ e
    simp at this
theorem cell_new_row (w : World) (cs : Array Value) (t : TypeId) : ∀ j u, cs.toList[j]? = some u → (w.alloc (.cells cs t)).cell? ((⟨w.heap.size, 0, none⟩ : Addr).add j) = some u := by
  intro j u hu
  have hb : Blk (w.alloc (.cells cs t)) w.heap.size t cs := Blk.new w t cs
  have h : ((⟨w.heap.size, 0, none⟩ : Addr).add j) = ⟨w.heap.size, j, none⟩ := by
    unfold Addr.add
    by_cases hj : j = 0
    · simp [hj]
    · simp [hj]
  rw [h, hb.cell]
  simpa using hu
section
variable {P : Program}
theorem wpList_push {w0 : World} {e' : TypeId} {cs : Array Value} {ops : Array Oper} {rest : List Oper} {o : Oper} {a : Act} {Q : Exit → Act → World → Prop} {t e : TypeId} {size bytes : Nat} (S : SlT P t e size bytes)
    (hgd : o.guard = none) (s x : Operand) (ho : o.op = .call { callee := .builtin .append, args := #[s, x], argTypes := #[t, t] })
    (B : Nat) (v : Value) (n : Nat) (xs : List Value) (hs : a.eval s = v) (hown : w0.ownsRow B e size v n xs)
    (m c : Nat) (hx : a.eval x = .slice (some ⟨w0.heap.size, 0, none⟩) m c) (hl : cs.size = m * size) (h1 : cs.toList.all (·.oneCell') = true)
    (h63 : n + m ≤ maxLen) (hbytes : (n + m) * bytes ≤ 140737488355328) (hbase : B ≤ w0.heap.size)
    (h : ∀ v' w', w'.ownsRow B e size v' (n + m) (xs ++ cs.toList) → Grew w0 v v' w' → wpList P ops Q rest (a.put o.dst v') w') : wpList P ops Q (o :: rest) a (w0.alloc (.cells cs e')) := by
  obtain ⟨i, z, hi, hz, hsize, hby, hzs⟩ := S.info
  refine wpList_plain hgd fun K hK => ?_
  obtain ⟨v', w', hrun, h2, h3, _, h5⟩ := run_append_own_at (P := P) (w0.alloc (.cells cs e')) B t o.type e i z size bytes S.under hi hz hsize hby hzs S.pos v n xs (hown.alloc _) ⟨w0.heap.size, 0, none⟩ m c cs.toList (by simpa using hl)
    (cell_new_row w0 cs e') (fun u hu => List.all_eq_true.1 h1 u hu) h63 hbytes (by simp; omega)
  unfold Oper.wp execOp
  simp only [ho, resolve, invoke, builtin, Sem.run_bind, Sem.run_pure, Result.andThen_ok, List.map_toArray, List.map_cons, List.map_nil, hs, hx, hrun]
  refine hK _ _ (h v' w' h2 ⟨(World.grownBy_alloc w0 _ v.ownBlock).trans h3, ?_⟩)
  rcases h5 with h5 | h5
  · exact .inl h5
  · exact .inr ⟨_, h5, by simp⟩
/-- The same, where the walk spells the new block's number otherwise. -/
theorem wpList_pushb {w0 : World} {e' : TypeId} {cs : Array Value} {ops : Array Oper} {rest : List Oper} {o : Oper} {a : Act} {Q : Exit → Act → World → Prop} {t e : TypeId} {size bytes : Nat} (S : SlT P t e size bytes)
    (hgd : o.guard = none) (s x : Operand) (ho : o.op = .call { callee := .builtin .append, args := #[s, x], argTypes := #[t, t] })
    (B : Nat) (v : Value) (n : Nat) (xs : List Value) (hs : a.eval s = v) (hown : w0.ownsRow B e size v n xs)
    (m c : Nat) (bk : Nat) (hbk : bk = w0.heap.size) (hx : a.eval x = .slice (some ⟨bk, 0, none⟩) m c) (hl : cs.size = m * size) (h1 : cs.toList.all (·.oneCell') = true)
    (h63 : n + m ≤ maxLen) (hbytes : (n + m) * bytes ≤ 140737488355328) (hbase : B ≤ w0.heap.size)
    (h : ∀ v' w', w'.ownsRow B e size v' (n + m) (xs ++ cs.toList) → Grew w0 v v' w' → wpList P ops Q rest (a.put o.dst v') w') : wpList P ops Q (o :: rest) a (w0.alloc (.cells cs e')) := by
  subst hbk
  exact wpList_push S hgd s x ho B v n xs hs hown m c hx hl h1 h63 hbytes hbase h
/-- make([]T, 0, n). -/
theorem wpList_mk0 {w : World} {ops : Array Oper} {rest : List Oper} {o : Oper} {a : Act} {Q : Exit → Act → World → Prop} {t e : TypeId} {size bytes : Nat} (S : SlT P t e size bytes)
    (hg : o.guard = none) (l c : Operand) (hop : o.op = Op.makeSlice t l c) (B : Nat) (kl kc : IntKind) (C : Int) (n : Nat) (hl : a.eval l = .int kl 0) (hc : a.eval c = .int kc C) (hC : C = (n : Int))
    (b2 : bytes * n ≤ 281474976710656) (b3 : n ≤ maxLen) (b4 : B ≤ w.heap.size)
    (hK : ∀ w', w'.ownsRow B e size (.slice (some ⟨w.heap.size, 0, none⟩) 0 n) 0 [] → Below w.heap.size w w' → wpList P ops Q rest (a.put o.dst (.slice (some ⟨w.heap.size, 0, none⟩) 0 n)) w') :
    wpList P ops Q (o :: rest) a w := by
  obtain ⟨i, z, hi, hz, hsize, hby, _⟩ := S.info
  exact wpList_make_own w hg l c t hop B e i z size S.under hi hz hsize kl kc C n hl hc hC (by rw [hby]; exact b2) b3 b4 fun w' h1 h2 => hK w' h1 ((Below.refl _ _).grown h2 (Nat.le_refl _) (by simp))
/-- make([]T, n): n zero values. -/
theorem wpList_mkn {w : World} {ops : Array Oper} {rest : List Oper} {o : Oper} {a : Act} {Q : Exit → Act → World → Prop} {t e : TypeId} {bytes : Nat} {z : Value} (S : P.underlying t = some (.slice e) ∧ ∃ i, P.info? e = some i ∧ i.zero = some z ∧ i.size = 1 ∧ i.bytes = bytes)
    (hz1 : z.cells = #[z]) (hg : o.guard = none) (l c : Operand) (hop : o.op = Op.makeSlice t l c) (B : Nat) (kl kc : IntKind) (L C : Int) (n : Nat) (hl : a.eval l = .int kl L) (hc : a.eval c = .int kc C) (hL : L = (n : Int)) (hC : C = (n : Int))
    (b2 : bytes * n ≤ 281474976710656) (b3 : n ≤ maxLen) (b4 : B ≤ w.heap.size)
    (hK : ∀ w', w'.ownsRow B e 1 (.slice (some ⟨w.heap.size, 0, none⟩) n n) n (List.replicate n z) → Below w.heap.size w w' → wpList P ops Q rest (a.put o.dst (.slice (some ⟨w.heap.size, 0, none⟩) n n)) w') :
    wpList P ops Q (o :: rest) a w := by
  obtain ⟨hu, i, hi, hz, hsize, hby⟩ := S
  refine wpList_make_full w hg l c t hop B e i z 1 hu hi hz hsize kl kc L C n hl hc hL hC (by rw [hby]; exact b2) b3 b4 fun w' h1 h2 => hK w' ?_ ((Below.refl _ _).grown h2 (Nat.le_refl _) (by simp))
  rwa [hz1, Nat.mul_one, toList_madeCells_one] at h1
end

/-- What a law's walk is told of a slice of integers that came in (the guide's shell has the same words, without the block's bound). -/
def IsRow (k : IntKind) (w : World) (a : Option Addr) (len cap : Nat) (zs : List Int) : Prop :=
  (a = none ∧ len = 0 ∧ cap = 0 ∧ zs = []) ∨
  ∃ x, a = some x ∧ len ≤ cap ∧ cap ≤ maxLen ∧ zs.length = cap ∧ (∀ i, i < zs.length → w.cell? (x.add i) = some (.int k (zs.getD i 0))) ∧ ∀ n ∈ zs, (Lit.int k n).wf = true
theorem cell_lt {w : World} {a : Addr} {u : Value} (h : w.cell? a = some u) : a.block < w.heap.size := by
  rcases Nat.lt_or_ge a.block w.heap.size with hlt | hge
  · exact hlt
  · simp [World.cell?, Array.getElem?_eq_none hge] at h
theorem keep_cell {w w1 : World} {a : Addr} {u : Value} (hb : Below w.heap.size w w1) (h : w.cell? a = some u) : w1.cell? a = some u := (hb.cell (cell_lt h)).trans h
theorem cell_alloc {w : World} {a : Addr} {u : Value} (h : w.cell? a = some u) : ∀ o : Obj, (w.alloc o).cell? a = some u := fun o => (World.cell?_alloc_lt w o a (cell_lt h)).trans h
theorem keep_cell_d {w w1 : World} {a : Addr} {u : Value} (hb : Below w.drew.heap.size w.drew w1) (h : w.cell? a = some u) : w1.cell? a = some u := ((below_drew' hb).cell (cell_lt h)).trans h
theorem IsRow.reads {k : IntKind} {w : World} {a : Option Addr} {len cap : Nat} {zs : List Int} (h : IsRow k w a len cap zs) :
    IR k w a len (zs.take len) ∧ len ≤ maxLen ∧ ∀ n ∈ zs.take len, (Lit.int k n).wf = true := by
  rcases h with ⟨rfl, rfl, rfl, rfl⟩ | ⟨x, rfl, hl, hm, hz, hc, hw⟩
  · exact ⟨IR.nil_, by simp [maxLen], by simp⟩
  · refine ⟨⟨by simp; omega, fun hn => ⟨x, rfl, by have := cell_lt (hc 0 (by omega)); rwa [block_of_add] at this, fun j u hu => ?_⟩⟩, by omega, fun n hn => hw n (List.mem_of_mem_take hn)⟩
    rw [List.getElem?_map] at hu
    rcases hj : (zs.take len)[j]? with _ | q
    · rw [hj] at hu; cases hu
    · rw [hj] at hu
      simp at hu
      have hjl : j < len := by
        have := (List.getElem?_eq_some_iff.1 hj).1
        simp at this; omega
      rw [List.getElem?_take_of_lt hjl] at hj
      have hjz := (List.getElem?_eq_some_iff.1 hj).1
      rw [hc j hjz, ← hu, List.getD_eq_getElem?_getD, hj]
      rfl
end Go.Proofs.YtocohkgdkebmdaaGreat
