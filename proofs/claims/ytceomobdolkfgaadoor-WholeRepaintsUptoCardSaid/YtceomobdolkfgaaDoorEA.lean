/- Words for objects in memory: which blocks a call may turn (a footprint), and what stays. Plain lemmas, no program. -/
import Derived.Test.YtceomobdolkfgaaDoorWWords
import Derived.Test.YtceomobdolkfgaaDoorWMore
import Derived.Lib.Hide
import Derived.Maps.AppendAt
import Derived.Deep.AppendLies
import Derived.RegionTactic
import Derived.OwnWalk
import Derived.Lib.MapLaws
import Derived.Test.YtceomobdolkfgaaDoorProg
import Derived.WalkKit
import Derived.KernelRfl
import Derived.Deep.LoopGhost
import Derived.Deep.QuietTactic
import Derived.BigQuiet
import Derived.Test.YtceomobdolkfgaaDoorShelf
import Derived.Handy
import Derived.WalkSpells
import Derived.WalkLawsBesides
import Derived.Deep.RegionHeld3
import Derived.LoopTactic
import Derived.IntWalk
import Derived.Deep.CutRange
set_option linter.unusedVariables false
namespace Go.Proofs.YtceomobdolkfgaaDoor.Sep
open Go.RowKit Go.Proofs.YtceomobdolkfgaaDoorW.PrintWords

/-- w' is w but for the blocks of S and for what is new. -/
structure Upd (S : Nat → Prop) (w w' : World) : Prop where
  os : w'.os = w.os
  tape : w'.tape = w.tape
  output : w'.output = w.output
  size : w.heap.size ≤ w'.heap.size
  block : ∀ k, k < w.heap.size → ¬ S k → w'.heap[k]? = w.heap[k]?

/-- Nothing but new blocks. -/
def No : Nat → Prop := fun _ => False

section
variable {S T : Nat → Prop} {w w1 w2 : World}
theorem Upd.refl (S : Nat → Prop) (w : World) : Upd S w w := ⟨rfl, rfl, rfl, Nat.le_refl _, fun _ _ _ => rfl⟩
theorem Upd.mono (h : Upd S w w1) (hm : ∀ k, S k → T k) : Upd T w w1 := ⟨h.os, h.tape, h.output, h.size, fun k hk hn => h.block k hk (fun hs => hn (hm k hs))⟩
theorem Upd.then_ (h : Upd S w w1) (g : Upd T w1 w2) (hm : ∀ k, T k → S k ∨ w.heap.size ≤ k) : Upd S w w2 :=
  ⟨g.os.trans h.os, g.tape.trans h.tape, g.output.trans h.output, Nat.le_trans h.size g.size, fun k hk hn => (g.block k (Nat.lt_of_lt_of_le hk h.size) (fun ht => (hm k ht).elim hn (fun hx => by omega))).trans (h.block k hk hn)⟩
theorem Upd.trans (h : Upd S w w1) (g : Upd S w1 w2) : Upd S w w2 := h.then_ g (fun _ hk => .inl hk)
theorem Upd.drew (h : Upd S w w1) : Upd S w w1.drew := ⟨h.os, h.tape, h.output, h.size, h.block⟩
theorem Upd.drewN (h : Upd S w w1) (n : Nat) : Upd S w (w1.drewN n) := ⟨h.os, h.tape, h.output, h.size, h.block⟩
theorem Upd.alloc (h : Upd S w w1) (o : Obj) : Upd S w (w1.alloc o) :=
  ⟨h.os, h.tape, h.output, Nat.le_trans h.size (by simp), fun k hk hn => (Below.heap_alloc w1 o k (Nat.lt_of_lt_of_le hk h.size)).trans (h.block k hk hn)⟩
theorem Upd.setCell (h : Upd S w w1) {p : Addr} (hp : S p.block ∨ w.heap.size ≤ p.block) (u : Value) : Upd S w (w1.setCell p u) :=
  ⟨h.os, h.tape, h.output, by simpa [World.setCell] using h.size, fun k hk hn => (Below.heap_setCell w1 p u k (by
    rintro rfl
    rcases hp with hp | hp
    · exact hn hp
    · omega)).trans (h.block k hk hn)⟩
theorem Upd.setCells (h : Upd S w w1) {g : Nat} (hp : S g ∨ w.heap.size ≤ g) (o : Nat) (vs : List Value) : Upd S w (w1.setCells g o vs) := by
  obtain ⟨h1, h2, h3, h4⟩ := setCells_same g vs o w1
  exact ⟨h1.trans h.os, h2.trans h.tape, h3.trans h.output, by rw [h4]; exact h.size, fun k hk hn => (setCells_far vs o k (by
    rintro rfl
    rcases hp with hp | hp
    · exact hn hp
    · omega)).trans (h.block k hk hn)⟩
theorem Upd.below (h : Below w.heap.size w w1) (S : Nat → Prop) : Upd S w w1 := ⟨h.os, h.tape, h.output, h.size, fun k hk _ => h.block k hk⟩
theorem Upd.grown {row : Option Nat} (h : w.grownBy w1 row) (hs : ∀ k, row = some k → S k) : Upd S w w1 := ⟨h.os, h.tape, h.output, h.size, fun k hk hn => h.block k hk (fun e => hn (hs k e.symm))⟩
theorem Upd.toBelow (h : Upd S w w1) {B : Nat} (hB : B ≤ w.heap.size) (hs : ∀ k, S k → B ≤ k) : Below B w w1 := ⟨h.os, h.tape, h.output, h.size, fun k hk => h.block k (by omega) (fun hx => by have := hs k hx; omega)⟩
theorem Upd.no (h : Upd No w w1) : Below w.heap.size w w1 := h.toBelow (Nat.le_refl _) (fun _ hk => hk.elim)
theorem Upd.cell (h : Upd S w w1) {a : Addr} {v : Value} (hc : w.cell? a = some v) (hn : ¬ S a.block) : w1.cell? a = some v :=
  (World.cell?_of_block (h.block a.block (World.block_lt_of_cell? w a hc) hn)).trans hc
end

/-- Block g is just the cells cs of element type t. -/
def Blk (w : World) (g : Nat) (t : TypeId) (cs : Array Value) : Prop := w.heap[g]? = some (.cells cs t (0, 0))
section
variable {w w' : World} {g : Nat} {t : TypeId} {cs : Array Value}
theorem Blk.lt (h : Blk w g t cs) : g < w.heap.size := (Array.getElem?_eq_some_iff.1 h).1
theorem Blk.cell (h : Blk w g t cs) (i : Nat) : w.cell? ⟨g, i, none⟩ = cs[i]? := cell_of_row w g i cs t (0, 0) h
theorem Blk.frozen (h : Blk w g t cs) (i : Nat) : w.frozen? ⟨g, i, none⟩ = false := by
  unfold Blk at h
  simp [World.frozen?, h]
theorem Blk.new (w : World) (t : TypeId) (cs : Array Value) : Blk (w.alloc (.cells cs t)) w.heap.size t cs := heap_alloc_new w _
theorem Blk.drew (h : Blk w g t cs) : Blk w.drew g t cs := h
theorem Blk.drewN (h : Blk w g t cs) (n : Nat) : Blk (w.drewN n) g t cs := h
theorem Blk.alloc (h : Blk w g t cs) (o : Obj) : Blk (w.alloc o) g t cs := (Below.heap_alloc w o g h.lt).trans h
theorem Blk.set_ (h : Blk w g t cs) (i : Nat) (u : Value) : Blk (w.setCell ⟨g, i, none⟩ u) g t (cs.setIfInBounds i u) := by
  unfold Blk at h ⊢
  simp [World.setCell, Array.getElem?_modify, h]
theorem Blk.far (h : Blk w g t cs) {p : Addr} (hp : g ≠ p.block) (u : Value) : Blk (w.setCell p u) g t cs := (Below.heap_setCell w p u g hp).trans h
theorem Blk.upd {S : Nat → Prop} (h : Blk w g t cs) (u : Upd S w w') (hn : ¬ S g) : Blk w' g t cs := (u.block g h.lt hn).trans h
theorem Blk.keep (h : Blk w g t cs) (hk : w'.heap[g]? = w.heap[g]?) : Blk w' g t cs := hk.trans h
theorem Blk.ne_ {g' : Nat} {t' : TypeId} {cs' : Array Value} (h : Blk w g t cs) (h' : Blk w g' t' cs') (hne : t ≠ t') : g ≠ g' := by
  rintro rfl
  unfold Blk at h h'
  rw [h] at h'
  injection h' with h'
  injection h' with _ ht
  exact hne ht
theorem own_blk_ne {base : Nat} {e : TypeId} {size n : Nat} {v : Value} {xs : List Value} (h : w.ownsRow base e size v n xs) (hg : Blk w g t cs) (hne : e ≠ t) : v.ownBlock ≠ some g := by
  rcases h.2 with ⟨rfl, _⟩ | ⟨g', cap, cur, rfl, _, hh, _⟩
  · simp [Value.ownBlock]
  · intro he
    have : g' = g := by simpa [Value.ownBlock] using he
    subst this
    exact Blk.ne_ (t := e) hh hg hne rfl
end

/-- A row of texts, wholly one's own. -/
def Own (w : World) (v : Value) (xs : List ByteArray) : Prop := w.ownsRow 0 9 1 v xs.length (xs.map Value.string)
section
variable {w w' : World} {v : Value} {xs : List ByteArray}
theorem Own.nil (w : World) : Own w (.slice none 0 0) [] := ⟨by simp, .inl ⟨rfl, rfl⟩⟩
theorem Own.lt (h : Own w v xs) : ∀ k, v.ownBlock = some k → k < w.heap.size := fun k hk => (World.ownsRow.lt h k hk).2
theorem Own.keep (h : Own w v xs) (hk : ∀ k, v.ownBlock = some k → w'.heap[k]? = w.heap[k]?) : Own w' v xs := own_move h hk
theorem Own.upd {S : Nat → Prop} (h : Own w v xs) (u : Upd S w w') (hn : ∀ k, v.ownBlock = some k → ¬ S k) : Own w' v xs := h.keep fun k hk => u.block k (h.lt k hk) (hn k hk)
theorem Own.form (h : Own w v xs) : ∃ A c, v = .slice A xs.length c ∧ xs.length ≤ c := by
  rcases h.2 with ⟨rfl, h0⟩ | ⟨g, cap, cur, rfl, _, _, hl, _⟩
  · exact ⟨none, 0, by rw [h0], by omega⟩
  · exact ⟨_, _, rfl, hl⟩
/-- With an element it lies in a block, whose cells are known. -/
theorem Own.some_ (h : Own w v xs) (h0 : 0 < xs.length) : ∃ g c, v = .slice (some ⟨g, 0, none⟩) xs.length c ∧ xs.length ≤ c ∧ (∀ j, j < xs.length → w.cell? ⟨g, j, none⟩ = some (.string (xs.getD j ByteArray.empty))) ∧ ∀ j, w.frozen? ⟨g, j, none⟩ = false := by
  rcases h.2 with ⟨_, hn⟩ | ⟨g, cap, cur, rfl, _, hh, hl, _, _, ht⟩
  · omega
  · refine ⟨g, cap, rfl, hl, fun j hj => ?_, fun j => by simp [World.frozen?, hh]⟩
    rw [cell_of_row w g j cur 9 (0, 0) hh]
    have e : (xs.map Value.string)[j]? = some (.string (xs.getD j ByteArray.empty)) := by
      simp [List.getD, hj]
    rw [← ht, List.getElem?_take, Nat.mul_one, if_pos hj] at e
    simpa using e
theorem Own.take (h : Own w v xs) {A : Option Addr} {n c : Nat} (hv : v = .slice A n c) (m : Nat) (hm : m ≤ xs.length) : Own w (.slice A m c) (xs.take m) := by
  subst hv
  have hlen : (xs.take m).length = m := by rw [List.length_take]; omega
  unfold Own
  rw [hlen]
  refine ⟨by simp [List.length_map, List.length_take]; omega, ?_⟩
  rcases h.2 with ⟨hs, hn⟩ | ⟨g, cap, cur, hs, hb, hh, hl, hmx, hsz, ht⟩
  · injection hs with h1 h2 h3
    subst h1; subst h3
    exact .inl ⟨by congr; omega, by omega⟩
  · injection hs with h1 h2 h3
    subst h1; subst h3
    refine .inr ⟨g, c, cur, rfl, hb, hh, by omega, hmx, hsz, ?_⟩
    rw [List.map_take, ← ht, List.take_take]
    congr 1
    omega
/-- One of its texts is written over. -/
theorem Own.set_ (h : Own w v xs) {g c n : Nat} (hv : v = .slice (some ⟨g, 0, none⟩) n c) (j : Nat) (hj : j < xs.length) (t : ByteArray) : Own (w.setCell ⟨g, j, none⟩ (.string t)) v (xs.set j t) := by
  subst hv
  rcases h.2 with ⟨hs, hn⟩ | ⟨g', cap, cur, hs, hb, hh, hl, hmx, hsz, ht⟩
  · cases hs
  · injection hs with h1 h2 h3
    injection h1 with h1
    injection h1 with h1
    subst h1; subst h3
    refine ⟨by simp, .inr ⟨g, c, cur.setIfInBounds j (.string t), by rw [List.length_set]; congr 1, Nat.zero_le _, ?_, by simpa using hl, hmx, by simpa using hsz, ?_⟩⟩
    · simp [World.setCell, Array.getElem?_modify, hh]
    · rw [Array.toList_setIfInBounds, List.take_set, List.length_set, ht, List.map_set]
end
theorem Own.of_base {w : World} {b : Nat} {v : Value} {xs : List ByteArray} (h : w.ownsRow b 9 1 v xs.length (xs.map Value.string)) : Own w v xs := own_weaken h (Nat.zero_le _)
theorem own_ge {w : World} {b : Nat} {e : TypeId} {s n : Nat} {v : Value} {xs : List Value} (h : w.ownsRow b e s v n xs) : ∀ k, v.ownBlock = some k → b ≤ k := own_base h
/-! words of the guide's extra-words page: a slice that reads as a list; a whole row appended -/
theorem block_of_add (a : Addr) (n : Nat) : (a.add n).block = a.block := by unfold Addr.add; split <;> rfl
theorem add_of_add (a : Addr) (i j : Nat) : (a.add i).add j = a.add (i + j) := by
  unfold Addr.add
  by_cases hi : i = 0 <;> by_cases hj : j = 0 <;> simp [hi, hj, Nat.add_assoc]

def Reads (w : World) (B size : Nat) (A : Option Addr) (n : Nat) (xs : List Value) : Prop :=
  xs.length = n * size ∧ (0 < n → ∃ ad, A = some ad ∧ ad.block < B ∧ ∀ j u, xs[j]? = some u → w.cell? (ad.add j) = some u)

section
variable {w w' : World} {B B' size n : Nat} {A : Option Addr} {xs : List Value}
theorem Reads.none_ : Reads w B size A 0 [] := ⟨by simp, fun h => absurd h (by omega)⟩
theorem Reads.at_ {k : Nat} (h : Reads w B 1 A n xs) (hk : k < n) : ∃ ad u, A = some ad ∧ ad.block < B ∧ xs[k]? = some u ∧ w.cell? (ad.add k) = some u := by
  obtain ⟨ad, e, hb, hc⟩ := h.2 (by omega)
  have hl : k < xs.length := by have := h.1; omega
  exact ⟨ad, xs[k], e, hb, List.getElem?_eq_getElem hl, hc k _ (List.getElem?_eq_getElem hl)⟩
theorem Reads.keep (h : Reads w B size A n xs) (hk : ∀ p : Addr, p.block < B → w'.cell? p = w.cell? p) : Reads w' B size A n xs :=
  ⟨h.1, fun hn => by
    obtain ⟨ad, e, hb, hc⟩ := h.2 hn
    exact ⟨ad, e, hb, fun j u hu => (hk _ (by rw [block_of_add]; exact hb)).trans (hc j u hu)⟩⟩
theorem Reads.more (h : Reads w B size A n xs) (hB : B ≤ B') : Reads w B' size A n xs :=
  ⟨h.1, fun hn => by
    obtain ⟨ad, e, hb, hc⟩ := h.2 hn
    exact ⟨ad, e, by omega, hc⟩⟩
theorem Reads.below (h : Reads w B size A n xs) (hb : Below B w w') : Reads w' B size A n xs := h.keep fun _ hp => hb.cell hp
theorem Reads.drew (h : Reads w B size A n xs) : Reads w.drew B size A n xs := h
theorem Reads.drewN (h : Reads w B size A n xs) (k : Nat) : Reads (w.drewN k) B size A n xs := h
theorem Reads.alloc (h : Reads w B size A n xs) (hB : B ≤ w.heap.size) (o : Obj) : Reads (w.alloc o) B size A n xs := h.keep fun p hp => World.cell?_alloc_lt w o p (by omega)
theorem Reads.setCell (h : Reads w B size A n xs) {p : Addr} (hB : B ≤ p.block) (u : Value) : Reads (w.setCell p u) B size A n xs :=
  h.keep fun q hq => World.cell?_setCell_other w p q u (fun e => by subst e; omega)
theorem Reads.grown (h : Reads w B size A n xs) {row : Option Nat} (hg : w.grownBy w' row) (hB : B ≤ w.heap.size) (hr : ∀ g, row = some g → B ≤ g) : Reads w' B size A n xs :=
  h.keep fun p hp => World.cell?_of_block (hg.block p.block (by omega) (fun e => by have := hr _ e.symm; omega))
theorem Reads.cut (h : Reads w B size A n xs) {k cap : Nat} (hk : k ≤ n) (hc : n ≤ cap) :
    Reads w B size (if cap = k then A else A.map (·.add (k * size))) (n - k) (xs.drop (k * size)) := by
  refine ⟨by rw [List.length_drop, h.1, Nat.sub_mul], fun hn => ?_⟩
  obtain ⟨ad, rfl, hb, hcell⟩ := h.2 (by omega)
  rw [if_neg (by omega)]
  refine ⟨ad.add (k * size), rfl, by rw [block_of_add]; exact hb, fun j u hu => ?_⟩
  rw [add_of_add]
  exact hcell _ u (by rw [← hu, List.getElem?_drop])
theorem Reads.of_own {base : Nat} {e : TypeId} {c : Nat} (h : w.ownsRow base e size (.slice A n c) n xs) : Reads w w.heap.size size A n xs := by
  refine ⟨h.1, fun hn => ?_⟩
  obtain ⟨g, cap, hv, _, hlt⟩ := h.form hn
  have hA : A = some ⟨g, 0, none⟩ := by injection hv
  subst hA
  exact ⟨_, rfl, hlt, h.cells (g := g) rfl⟩
end
section
variable {P : Program} (w : World)

theorem run_append_of_nil (base : Nat) (t ty e : TypeId) (i : TypeInfo) (size : Nat) (ht : P.underlying t = some (.slice e)) (hi : P.info? e = some i)
    (v : Value) (n : Nat) (xs : List Value) (hown : w.ownsRow base e size v n xs) (c : Nat) : (Builtin.append_ #[t, t] ty #[v, .slice none 0 c]).run P w = .ok v w := by
  rcases hown.2 with ⟨rfl, rfl⟩ | ⟨g, cap, cur, rfl, _, _, hnc, _⟩
  · simp [Builtin.append_, run_underlying ht, sizeOf, typeInfo, hi, Builtin.lenOf, Builtin.firstCells]
  · simp [Builtin.append_, run_underlying ht, sizeOf, typeInfo, hi, Builtin.lenOf, Builtin.firstCells, hnc, storeCells]

theorem run_append_any (base : Nat) (t ty e : TypeId) (i : TypeInfo) (z : Value) (size bytes : Nat) (ht : P.underlying t = some (.slice e)) (hi : P.info? e = some i) (hz : i.zero = some z)
    (hsize : i.size = size) (hby : i.bytes = bytes) (hzs : z.cells.size = size) (hsz : 0 < size)
    (v : Value) (n : Nat) (xs : List Value) (hown : w.ownsRow base e size v n xs)
    (B : Nat) (A : Option Addr) (m c : Nat) (news : List Value) (hr : Reads w B size A m news) (h1 : ∀ u ∈ news, u.oneCell' = true)
    (h63 : n + m ≤ maxLen) (hbytes : (n + m) * bytes ≤ 140737488355328) (hbase : base ≤ w.heap.size) :
    ∃ v' w', (Builtin.append_ #[t, t] ty #[v, .slice A m c]).run P w = .ok v' w' ∧ w'.ownsRow base e size v' (n + m) (xs ++ news) ∧ w.grownBy w' v.ownBlock ∧
      (v'.ownBlock = v.ownBlock ∨ v'.ownBlock = some w.heap.size) := by
  rcases A with _ | ad
  · have hm : m = 0 := by
      rcases Nat.eq_zero_or_pos m with h0 | h0
      · exact h0
      · obtain ⟨ad, h, _⟩ := hr.2 h0
        cases h
    subst hm
    have hn : news = [] := List.eq_nil_of_length_eq_zero (by simpa using hr.1)
    subst hn
    exact ⟨v, w, run_append_of_nil w base t ty e i size ht hi v n xs hown c, by simpa using hown, World.grownBy.refl w _, .inl rfl⟩
  · have hcells : ∀ j u, news[j]? = some u → w.cell? (ad.add j) = some u := by
      intro j u hu
      rcases Nat.eq_zero_or_pos m with h0 | h0
      · subst h0
        have hn : news = [] := List.eq_nil_of_length_eq_zero (by simpa using hr.1)
        subst hn
        simp at hu
      · obtain ⟨ad', h, _, hc⟩ := hr.2 h0
        injection h with h
        subst h
        exact hc j u hu
    obtain ⟨v', w', hrun, h2, h3, _, h5⟩ := run_append_own_at (P := P) w base t ty e i z size bytes ht hi hz hsize hby hzs hsz v n xs hown ad m c news hr.1 hcells h1 h63 hbytes hbase
    exact ⟨v', w', hrun, h2, h3, h5⟩

theorem wp_append_any {o : Oper} {a : Act} {K : Act → World → Prop} {Q : Exit → Act → World → Prop} (s x : Operand) (t : TypeId)
    (ho : o.op = .call { callee := .builtin .append, args := #[s, x], argTypes := #[t, t] })
    (base : Nat) (e : TypeId) (i : TypeInfo) (z : Value) (size bytes : Nat) (ht : P.underlying t = some (.slice e)) (hi : P.info? e = some i) (hz : i.zero = some z)
    (hsize : i.size = size) (hby : i.bytes = bytes) (hzs : z.cells.size = size) (hsz : 0 < size)
    (v : Value) (n : Nat) (xs : List Value) (hs : a.eval s = v) (hown : w.ownsRow base e size v n xs)
    (B : Nat) (A : Option Addr) (m c : Nat) (news : List Value) (hx : a.eval x = .slice A m c) (hr : Reads w B size A m news) (h1 : ∀ u ∈ news, u.oneCell' = true)
    (h63 : n + m ≤ maxLen) (hbytes : (n + m) * bytes ≤ 140737488355328) (hbase : base ≤ w.heap.size)
    (h : ∀ v' w', w'.ownsRow base e size v' (n + m) (xs ++ news) → w.grownBy w' v.ownBlock → (v'.ownBlock = v.ownBlock ∨ v'.ownBlock = some w.heap.size) → K (a.put o.dst v') w') : o.wp P a w K Q := by
  obtain ⟨v', w', hrun, h2, h3, h4⟩ := run_append_any (P := P) w base t o.type e i z size bytes ht hi hz hsize hby hzs hsz v n xs hown B A m c news hr h1 h63 hbytes hbase
  unfold Oper.wp execOp
  simp only [ho, resolve, invoke, builtin, Sem.run_bind, Sem.run_pure, Result.andThen_ok, List.map_toArray, List.map_cons, List.map_nil, hs, hx, hrun]
  exact h v' w' h2 h3 h4

theorem wpList_append_any {ops : Array Oper} {rest : List Oper} {o : Oper} {a : Act} {Q : Exit → Act → World → Prop} (hgd : o.guard = none) (s x : Operand) (t : TypeId)
    (ho : o.op = .call { callee := .builtin .append, args := #[s, x], argTypes := #[t, t] })
    (base : Nat) (e : TypeId) (i : TypeInfo) (z : Value) (size bytes : Nat) (ht : P.underlying t = some (.slice e)) (hi : P.info? e = some i) (hz : i.zero = some z)
    (hsize : i.size = size) (hby : i.bytes = bytes) (hzs : z.cells.size = size) (hsz : 0 < size)
    (v : Value) (n : Nat) (xs : List Value) (hs : a.eval s = v) (hown : w.ownsRow base e size v n xs)
    (B : Nat) (A : Option Addr) (m c : Nat) (news : List Value) (hx : a.eval x = .slice A m c) (hr : Reads w B size A m news) (h1 : ∀ u ∈ news, u.oneCell' = true)
    (h63 : n + m ≤ maxLen) (hbytes : (n + m) * bytes ≤ 140737488355328) (hbase : base ≤ w.heap.size)
    (h : ∀ v' w', w'.ownsRow base e size v' (n + m) (xs ++ news) → w.grownBy w' v.ownBlock → (v'.ownBlock = v.ownBlock ∨ v'.ownBlock = some w.heap.size) → wpList P ops Q rest (a.put o.dst v') w') : wpList P ops Q (o :: rest) a w :=
  wpList_plain hgd fun _ hK => wp_append_any w s x t ho base e i z size bytes ht hi hz hsize hby hzs hsz v n xs hs hown B A m c news hx hr h1 h63 hbytes hbase fun v' w' h2 h3 h4 => hK _ _ (h v' w' h2 h3 h4)

theorem step_append_any {ops : Array Oper} {o : Oper} {a : Act} {K : Act → World → Prop} {Q : Exit → Act → World → Prop} {E : Prop} (hgd : o.guard = none) (s x : Operand) (t : TypeId)
    (ho : o.op = .call { callee := .builtin .append, args := #[s, x], argTypes := #[t, t] })
    (base : Nat) (e : TypeId) (i : TypeInfo) (z : Value) (size bytes : Nat) (ht : P.underlying t = some (.slice e)) (hi : P.info? e = some i) (hz : i.zero = some z)
    (hsize : i.size = size) (hby : i.bytes = bytes) (hzs : z.cells.size = size) (hsz : 0 < size)
    (v : Value) (n : Nat) (xs : List Value) (hs : a.eval s = v) (hown : w.ownsRow base e size v n xs)
    (B : Nat) (A : Option Addr) (m c : Nat) (news : List Value) (hx : a.eval x = .slice A m c) (hr : Reads w B size A m news) (h1 : ∀ u ∈ news, u.oneCell' = true)
    (h63 : n + m ≤ maxLen) (hbytes : (n + m) * bytes ≤ 140737488355328) (hbase : base ≤ w.heap.size)
    (h : ∀ v' w', w'.ownsRow base e size v' (n + m) (xs ++ news) → w.grownBy w' v.ownBlock → (v'.ownBlock = v.ownBlock ∨ v'.ownBlock = some w.heap.size) → K (a.put o.dst v') w') :
    if Region.wanted o (yielded ops a.tmps) = true then Oper.wp P o a w K Q else E := by
  have hw : Region.wanted o (yielded ops a.tmps) = true := by simp [Region.wanted, hgd]
  rw [if_pos hw]
  exact wp_append_any w s x t ho base e i z size bytes ht hi hz hsize hby hzs hsz v n xs hs hown B A m c news hx hr h1 h63 hbytes hbase h
end
end Go.Proofs.YtceomobdolkfgaaDoor.Sep
/- Units of a text, told plainly: the first unit, what a prefix tells of it, boundaries and clusters. No program. -/
set_option linter.unusedVariables false
namespace Go.Proofs.YtceomobdolkfgaaDoor.U
open Go.Lib

abbrev Bs := List UInt8

/-- The first unit of a text. -/
def uni (l : Bs) : Int × Nat := if l = [] then (65533, 0) else if decodeL l = (65533, 1) then (-1, 1) else (((decodeL l).1 : Int), (decodeL l).2)
def chr (l : Bs) : Int := (uni l).1
def sz (l : Bs) : Nat := (uni l).2

theorem getD_take (l : Bs) (m i : Nat) (h : i < m) : (l.take m).getD i 0 = l.getD i 0 := by simp [List.getD, List.getElem?_take, h]
theorem getD_append (l r : Bs) (i : Nat) (h : i < l.length) : (l ++ r).getD i 0 = l.getD i 0 := by simp [List.getD, List.getElem?_append, h]

/-- What a text that isn't empty begins with: a unit of size k, with its bytes, or a bad byte. -/
theorem uni_shape (l : Bs) (hl : l ≠ []) :
    ((l.getD 0 0).toNat < 128 ∧ uni l = (((l.getD 0 0).toNat : Int), 1)) ∨
    (194 ≤ (l.getD 0 0).toNat ∧ (l.getD 0 0).toNat < 224 ∧ 1 < l.length ∧ (l.getD 1 0).toNat / 64 = 2 ∧ uni l = ((((l.getD 0 0).toNat % 32 * 64 + (l.getD 1 0).toNat % 64 : Nat) : Int), 2) ∧ 128 ≤ (l.getD 0 0).toNat % 32 * 64 + (l.getD 1 0).toNat % 64) ∨
    ((l.getD 0 0).toNat / 16 = 14 ∧ 2 < l.length ∧ (l.getD 1 0).toNat / 64 = 2 ∧ (l.getD 2 0).toNat / 64 = 2 ∧ uni l = ((((l.getD 0 0).toNat % 16 * 4096 + (l.getD 1 0).toNat % 64 * 64 + (l.getD 2 0).toNat % 64 : Nat) : Int), 3) ∧
      2048 ≤ (l.getD 0 0).toNat % 16 * 4096 + (l.getD 1 0).toNat % 64 * 64 + (l.getD 2 0).toNat % 64 ∧ ((l.getD 0 0).toNat % 16 * 4096 + (l.getD 1 0).toNat % 64 * 64 + (l.getD 2 0).toNat % 64 < 55296 ∨ 57344 ≤ (l.getD 0 0).toNat % 16 * 4096 + (l.getD 1 0).toNat % 64 * 64 + (l.getD 2 0).toNat % 64)) ∨
    ((l.getD 0 0).toNat / 8 = 30 ∧ 3 < l.length ∧ (l.getD 1 0).toNat / 64 = 2 ∧ (l.getD 2 0).toNat / 64 = 2 ∧ (l.getD 3 0).toNat / 64 = 2 ∧ uni l = ((((l.getD 0 0).toNat % 8 * 262144 + (l.getD 1 0).toNat % 64 * 4096 + (l.getD 2 0).toNat % 64 * 64 + (l.getD 3 0).toNat % 64 : Nat) : Int), 4) ∧
      65536 ≤ (l.getD 0 0).toNat % 8 * 262144 + (l.getD 1 0).toNat % 64 * 4096 + (l.getD 2 0).toNat % 64 * 64 + (l.getD 3 0).toNat % 64 ∧ (l.getD 0 0).toNat % 8 * 262144 + (l.getD 1 0).toNat % 64 * 4096 + (l.getD 2 0).toNat % 64 * 64 + (l.getD 3 0).toNat % 64 ≤ 1114111) ∨
    uni l = (-1, 1) := by
  have k0 := (l.getD 0 0).toNat_lt
  have k1 := (l.getD 1 0).toNat_lt
  have k2 := (l.getD 2 0).toNat_lt
  have k3 := (l.getD 3 0).toNat_lt
  unfold uni
  rw [if_neg hl, decodeL_N]
  rcases decodeN_shape l.length (l.getD 0 0).toNat (l.getD 1 0).toNat (l.getD 2 0).toNat (l.getD 3 0).toNat with ⟨c, e⟩ | ⟨c1, c2, c3, cv, e⟩ | ⟨c1, c2, c3, c4, cv, cs, e⟩ | ⟨c1, c2, c3, c4, c5, cv, cw, e⟩ | e
  · refine .inl ⟨c, ?_⟩
    rw [e, if_neg (fun h => by injection h with h h'; omega)]
  · refine .inr (.inl ⟨by omega, by omega, c2, c3, ?_, cv⟩)
    rw [e, if_neg (fun h => by injection h with h h'; omega)]
  · refine .inr (.inr (.inl ⟨c1, c2, c3, c4, ?_, cv, cs⟩))
    rw [e, if_neg (fun h => by injection h with h h'; omega)]
  · refine .inr (.inr (.inr (.inl ⟨c1, c2, c3, c4, c5, ?_, cv, cw⟩)))
    rw [e, if_neg (fun h => by injection h with h h'; omega)]
  · refine .inr (.inr (.inr (.inr ?_)))
    rw [e, if_pos rfl]

/-- The units' sizes are told by their bytes. -/
theorem uni_one (l : Bs) (hl : l ≠ []) (h : (l.getD 0 0).toNat < 128) : uni l = (((l.getD 0 0).toNat : Int), 1) := by
  unfold uni
  rw [if_neg hl, decodeL_N]
  have e : decodeN l.length (l.getD 0 0).toNat (l.getD 1 0).toNat (l.getD 2 0).toNat (l.getD 3 0).toNat = ((l.getD 0 0).toNat, 1) := by unfold decodeN; rw [if_pos h]
  rw [e, if_neg (fun h => by injection h with h h'; omega)]
theorem uni_two (l : Bs) (hl : 1 < l.length) (h : (l.getD 0 0).toNat / 32 = 6) (h1 : (l.getD 1 0).toNat / 64 = 2) (hv : 128 ≤ (l.getD 0 0).toNat % 32 * 64 + (l.getD 1 0).toNat % 64) :
    uni l = ((((l.getD 0 0).toNat % 32 * 64 + (l.getD 1 0).toNat % 64 : Nat) : Int), 2) := by
  have hn : l ≠ [] := by rintro rfl; simp at hl
  unfold uni
  rw [if_neg hn, decodeL_N]
  have e : decodeN l.length (l.getD 0 0).toNat (l.getD 1 0).toNat (l.getD 2 0).toNat (l.getD 3 0).toNat = ((l.getD 0 0).toNat % 32 * 64 + (l.getD 1 0).toNat % 64, 2) := by
    unfold decodeN
    rw [if_neg (by omega), if_pos ⟨h, hl, h1⟩, if_pos hv]
  rw [e, if_neg (fun h => by injection h with h h'; omega)]
theorem uni_three (l : Bs) (hl : 2 < l.length) (h : (l.getD 0 0).toNat / 16 = 14) (h1 : (l.getD 1 0).toNat / 64 = 2) (h2 : (l.getD 2 0).toNat / 64 = 2) (hv : 2048 ≤ (l.getD 0 0).toNat % 16 * 4096 + (l.getD 1 0).toNat % 64 * 64 + (l.getD 2 0).toNat % 64)
    (hs : (l.getD 0 0).toNat % 16 * 4096 + (l.getD 1 0).toNat % 64 * 64 + (l.getD 2 0).toNat % 64 < 55296 ∨ 57344 ≤ (l.getD 0 0).toNat % 16 * 4096 + (l.getD 1 0).toNat % 64 * 64 + (l.getD 2 0).toNat % 64) :
    uni l = ((((l.getD 0 0).toNat % 16 * 4096 + (l.getD 1 0).toNat % 64 * 64 + (l.getD 2 0).toNat % 64 : Nat) : Int), 3) := by
  have hn : l ≠ [] := by rintro rfl; simp at hl
  have k0 := (l.getD 0 0).toNat_lt
  unfold uni
  rw [if_neg hn, decodeL_N]
  have e : decodeN l.length (l.getD 0 0).toNat (l.getD 1 0).toNat (l.getD 2 0).toNat (l.getD 3 0).toNat = ((l.getD 0 0).toNat % 16 * 4096 + (l.getD 1 0).toNat % 64 * 64 + (l.getD 2 0).toNat % 64, 3) := by
    unfold decodeN
    rw [if_neg (by omega), if_neg (by omega), if_pos ⟨h, ⟨by omega, h1⟩, ⟨hl, h2⟩⟩, if_pos ⟨hv, by omega⟩]
  rw [e, if_neg (fun h => by injection h with h h'; omega)]
theorem uni_four (l : Bs) (hl : 3 < l.length) (h : (l.getD 0 0).toNat / 8 = 30) (h1 : (l.getD 1 0).toNat / 64 = 2) (h2 : (l.getD 2 0).toNat / 64 = 2) (h3 : (l.getD 3 0).toNat / 64 = 2)
    (hv : 65536 ≤ (l.getD 0 0).toNat % 8 * 262144 + (l.getD 1 0).toNat % 64 * 4096 + (l.getD 2 0).toNat % 64 * 64 + (l.getD 3 0).toNat % 64) (hs : (l.getD 0 0).toNat % 8 * 262144 + (l.getD 1 0).toNat % 64 * 4096 + (l.getD 2 0).toNat % 64 * 64 + (l.getD 3 0).toNat % 64 ≤ 1114111) :
    uni l = ((((l.getD 0 0).toNat % 8 * 262144 + (l.getD 1 0).toNat % 64 * 4096 + (l.getD 2 0).toNat % 64 * 64 + (l.getD 3 0).toNat % 64 : Nat) : Int), 4) := by
  have hn : l ≠ [] := by rintro rfl; simp at hl
  have k0 := (l.getD 0 0).toNat_lt
  unfold uni
  rw [if_neg hn, decodeL_N]
  have e : decodeN l.length (l.getD 0 0).toNat (l.getD 1 0).toNat (l.getD 2 0).toNat (l.getD 3 0).toNat = ((l.getD 0 0).toNat % 8 * 262144 + (l.getD 1 0).toNat % 64 * 4096 + (l.getD 2 0).toNat % 64 * 64 + (l.getD 3 0).toNat % 64, 4) := by
    unfold decodeN
    rw [if_neg (by omega), if_neg (by omega), if_neg (by omega), if_pos ⟨h, ⟨by omega, h1⟩, ⟨by omega, h2⟩, ⟨hl, h3⟩⟩, if_pos ⟨hv, by omega⟩]
  rw [e, if_neg (fun h => by injection h with h h'; omega)]

theorem sz_pos (l : Bs) (hl : l ≠ []) : 1 ≤ sz l := by
  unfold sz
  rcases uni_shape l hl with ⟨_, e⟩ | ⟨_, _, _, _, e, _⟩ | ⟨_, _, _, _, e, _⟩ | ⟨_, _, _, _, _, e, _⟩ | e <;> rw [e] <;> simp
theorem sz_four (l : Bs) (hl : l ≠ []) : sz l ≤ 4 := by
  unfold sz
  rcases uni_shape l hl with ⟨_, e⟩ | ⟨_, _, _, _, e, _⟩ | ⟨_, _, _, _, e, _⟩ | ⟨_, _, _, _, _, e, _⟩ | e <;> rw [e] <;> simp
theorem sz_le (l : Bs) : sz l ≤ l.length := by
  by_cases hl : l = []
  · subst hl; simp [sz, uni]
  · have := List.length_pos_iff.2 hl
    unfold sz
    rcases uni_shape l hl with ⟨_, e⟩ | ⟨_, _, _, _, e, _⟩ | ⟨_, _, _, _, e, _⟩ | ⟨_, _, _, _, _, e, _⟩ | e <;> rw [e] <;> simp <;> omega
theorem sz_nil : sz [] = 0 := rfl

/-- A byte within a unit. -/
def Cont (b : UInt8) : Prop := b.toNat / 64 = 2
theorem sz_cont (l : Bs) (k : Nat) (h0 : 0 < k) (hk : k < sz l) : Cont (l.getD k 0) := by
  by_cases hl : l = []
  · subst hl; simp [sz_nil] at hk
  · unfold sz at hk
    unfold Cont
    rcases uni_shape l hl with ⟨_, e⟩ | ⟨_, _, _, h1, e, _⟩ | ⟨_, _, h1, h2, e, _⟩ | ⟨_, _, h1, h2, h3, e, _⟩ | e <;> rw [e] at hk <;> simp at hk
    · omega
    · obtain rfl : k = 1 := by omega
      exact h1
    · rcases (by omega : k = 1 ∨ k = 2) with rfl | rfl
      · exact h1
      · exact h2
    · rcases (by omega : k = 1 ∨ k = 2 ∨ k = 3) with rfl | rfl | rfl
      · exact h1
      · exact h2
      · exact h3
    · omega
theorem uni_cont (l : Bs) (hl : l ≠ []) (h : Cont (l.getD 0 0)) : uni l = (-1, 1) := by
  unfold Cont at h
  rcases uni_shape l hl with ⟨c, e⟩ | ⟨c, _, _, _, e, _⟩ | ⟨c, _, _, _, e, _⟩ | ⟨c, _, _, _, _, e, _⟩ | e
  · omega
  · omega
  · omega
  · omega
  · exact e
/-- A size of two and more is a good one's. -/
theorem sz_good (l : Bs) (h : 1 < sz l) : 128 ≤ chr l := by
  by_cases hl : l = []
  · subst hl; simp [sz_nil] at h
  · unfold sz at h
    unfold chr
    rcases uni_shape l hl with ⟨_, e⟩ | ⟨_, _, _, _, e, _⟩ | ⟨_, _, _, _, e, _⟩ | ⟨_, _, _, _, _, e, _⟩ | e <;> rw [e] at h ⊢ <;> dsimp only at h ⊢ <;> omega
theorem sz_lead (l : Bs) (h : 1 < sz l) : 194 ≤ (l.getD 0 0).toNat := by
  by_cases hl : l = []
  · subst hl; simp [sz_nil] at h
  · unfold sz at h
    rcases uni_shape l hl with ⟨_, e⟩ | ⟨_, _, _, _, e, _⟩ | ⟨_, _, _, _, e, _⟩ | ⟨_, _, _, _, _, e, _⟩ | e <;> rw [e] at h <;> simp at h <;> omega
/-- Two texts that agree in a good unit's bytes begin with the same. -/
theorem uni_agree (l r : Bs) (hl : l ≠ []) (hg : uni l ≠ (-1, 1)) (hr : sz l ≤ r.length) (ha : ∀ k, k < sz l → r.getD k 0 = l.getD k 0) : uni r = uni l := by
  have hp := sz_pos l hl
  have hrn : r ≠ [] := by rintro rfl; simp at hr; omega
  have a0 := ha 0 (by omega)
  unfold sz at hr ha
  rcases uni_shape l hl with ⟨c, e⟩ | ⟨c, c', _, c1, e, cv⟩ | ⟨c, _, c1, c2, e, cv, cs⟩ | ⟨c, _, c1, c2, c3, e, cv, cs⟩ | e
  · rw [e, uni_one r hrn (by rw [a0]; exact c), a0]
  · rw [e] at hr ha ⊢
    dsimp only at hr ha
    have a1 := ha 1 (by omega)
    rw [uni_two r (by omega) (by rw [a0]; omega) (by rw [a1]; exact c1) (by rw [a0, a1]; exact cv), a0, a1]
  · rw [e] at hr ha ⊢
    dsimp only at hr ha
    have a1 := ha 1 (by omega)
    have a2 := ha 2 (by omega)
    rw [uni_three r (by omega) (by rw [a0]; exact c) (by rw [a1]; exact c1) (by rw [a2]; exact c2) (by rw [a0, a1, a2]; exact cv) (by rw [a0, a1, a2]; exact cs), a0, a1, a2]
  · rw [e] at hr ha ⊢
    dsimp only at hr ha
    have a1 := ha 1 (by omega)
    have a2 := ha 2 (by omega)
    have a3 := ha 3 (by omega)
    rw [uni_four r (by omega) (by rw [a0]; exact c) (by rw [a1]; exact c1) (by rw [a2]; exact c2) (by rw [a3]; exact c3) (by rw [a0, a1, a2, a3]; exact cv) (by rw [a0, a1, a2, a3]; exact cs), a0, a1, a2, a3]
  · exact absurd e hg
/-- What is cut off behind the first unit does not matter. -/
theorem uni_take (l : Bs) (m : Nat) (hm : sz l ≤ m) : uni (l.take m) = uni l := by
  by_cases hl : l = []
  · subst hl; simp
  · have hp := sz_pos l hl
    have hp' := List.length_pos_iff.2 hl
    have hn : l.take m ≠ [] := by
      intro h
      have := congrArg List.length h
      rw [List.length_take, List.length_nil] at this
      omega
    by_cases hg : uni l = (-1, 1)
    · by_cases hg' : uni (l.take m) = (-1, 1)
      · rw [hg, hg']
      · have hs := sz_le (l.take m)
        rw [List.length_take] at hs
        have := uni_agree (l.take m) l hn hg' (by omega) (fun k hk => (getD_take l m k (by omega)).symm)
        exact this.symm
    · refine uni_agree l (l.take m) hl hg (by rw [List.length_take]; have := sz_le l; omega) (fun k hk => getD_take l m k (by omega))
/-- What comes behind a good first unit does not matter. -/
theorem uni_app (l r : Bs) (hl : l ≠ []) (hg : uni l ≠ (-1, 1)) : uni (l ++ r) = uni l :=
  uni_agree l (l ++ r) hl hg (by rw [List.length_append]; have := sz_le l; omega) (fun k hk => getD_append l r k (by have := sz_le l; omega))
/-- A bad byte stays one. -/
theorem uni_bad_take (l : Bs) (m : Nat) (hm : 1 ≤ m) (h : uni l = (-1, 1)) : uni (l.take m) = (-1, 1) := by
  rw [uni_take l m (by unfold sz; rw [h]; exact hm), h]

/-! ### Boundaries: places that no unit crosses -/
def Bd (s : Bs) (p : Nat) : Prop := p ≤ s.length ∧ ∀ j, j < p → j + sz (s.drop j) ≤ p
theorem bd_zero (s : Bs) : Bd s 0 := ⟨Nat.zero_le _, fun j h => by omega⟩
theorem drop_ne (s : Bs) (p : Nat) (h : p < s.length) : s.drop p ≠ [] := by
  intro e
  have := congrArg List.length e
  simp at this
  omega
theorem getD_drop (s : Bs) (p k : Nat) : (s.drop p).getD k 0 = s.getD (p + k) 0 := by simp [List.getD]
theorem sz_inside (s : Bs) (p j : Nat) (hp : p < j) (hj : j < p + sz (s.drop p)) : sz (s.drop j) = 1 := by
  have hl := sz_le (s.drop p)
  rw [List.length_drop] at hl
  have hc := sz_cont (s.drop p) (j - p) (by omega) (by omega)
  rw [getD_drop] at hc
  have hj' : j < s.length := by omega
  have := uni_cont (s.drop j) (drop_ne s j hj') (by rw [getD_drop]; rwa [show j + 0 = p + (j - p) from by omega])
  unfold sz
  rw [this]
theorem bd_next (s : Bs) (p : Nat) (h : Bd s p) (hp : p < s.length) : Bd s (p + sz (s.drop p)) := by
  have hl := sz_le (s.drop p)
  rw [List.length_drop] at hl
  refine ⟨by omega, fun j hj => ?_⟩
  rcases Nat.lt_trichotomy j p with hlt | rfl | hgt
  · have := h.2 j hlt; omega
  · exact Nat.le_refl _
  · rw [sz_inside s p j hgt hj]; omega
/-- The unit around a place, as it is searched: from j on. -/
def around (s : Bs) (i : Nat) : Nat → Nat → Nat × Nat
  | 0, _ => if i = s.length then (i, i) else (i, i + sz (s.drop i))
  | k + 1, j => if j + sz (s.drop j) > i then (j, j + sz (s.drop j)) else around s i k (j + 1)
def around3 (s : Bs) (i : Nat) : Nat × Nat := around s i (i - (i - 3)) (i - 3)
theorem around_skip (s : Bs) (i : Nat) : ∀ k j, (∀ x, j ≤ x → x < j + k → x + sz (s.drop x) ≤ i) → around s i k j = if i = s.length then (i, i) else (i, i + sz (s.drop i))
  | 0, j, h => rfl
  | k + 1, j, h => by
    unfold around
    rw [if_neg (by have := h j (by omega) (by omega); omega)]
    exact around_skip s i k (j + 1) (fun x hx hx' => h x (by omega) (by omega))
theorem around_hit (s : Bs) (i p : Nat) : ∀ k j, j ≤ p → p < j + k → (∀ x, j ≤ x → x < p → x + sz (s.drop x) ≤ i) → p + sz (s.drop p) > i → around s i k j = (p, p + sz (s.drop p))
  | 0, j, h1, h2, _, _ => by omega
  | k + 1, j, h1, h2, h3, h4 => by
    unfold around
    by_cases e : j = p
    · subst e; rw [if_pos h4]
    · rw [if_neg (by have := h3 j (by omega) (by omega); omega)]
      exact around_hit s i p k (j + 1) (by omega) (by omega) (fun x hx hx' => h3 x (by omega) hx') h4
/-- At a boundary, the unit that begins there. -/
theorem around_bd (s : Bs) (p : Nat) (h : Bd s p) : around3 s p = (p, if p = s.length then p else p + sz (s.drop p)) := by
  unfold around3
  rw [around_skip s p _ _ (fun x _ hx => h.2 x (by omega))]
  split <;> rfl
/-- Right ahead of a unit's end: that unit. -/
theorem around_end (s : Bs) (p : Nat) (h : Bd s p) (hp : p < s.length) : around3 s (p + sz (s.drop p) - 1) = (p, p + sz (s.drop p)) := by
  have h1 := sz_pos _ (drop_ne s p hp)
  have h4 := sz_four _ (drop_ne s p hp)
  have hl := sz_le (s.drop p)
  rw [List.length_drop] at hl
  by_cases e : sz (s.drop p) = 1
  · rw [e, show p + 1 - 1 = p from rfl, around_bd s p h, if_neg (by omega), e]
  · unfold around3
    exact around_hit s _ p _ _ (by omega) (by omega) (fun x _ hx => by have := h.2 x hx; omega) (by omega)

/-! ### Whole units of a text -/
/-- The units, one behind the other. -/
def unitsN : Nat → Bs → List (Int × Nat)
  | 0, _ => []
  | n + 1, l => if l = [] then [] else uni l :: unitsN n (l.drop (sz l))
def units (l : Bs) : List (Int × Nat) := unitsN l.length l
theorem unitsN_more : ∀ n m l, l.length ≤ n → n ≤ m → unitsN m l = unitsN n l
  | 0, 0, l, h, _ => rfl
  | 0, m + 1, l, h, _ => by
    have : l = [] := List.eq_nil_of_length_eq_zero (by omega)
    subst this
    rfl
  | n + 1, 0, _, _, h => by omega
  | n + 1, m + 1, l, h, hm => by
    unfold unitsN
    by_cases hl : l = []
    · rw [if_pos hl, if_pos hl]
    · rw [if_neg hl, if_neg hl]
      have := sz_pos l hl
      rw [unitsN_more n m _ (by rw [List.length_drop]; omega) (by omega)]
theorem units_nil : units [] = [] := rfl
theorem units_step (l : Bs) (hl : l ≠ []) : units l = uni l :: units (l.drop (sz l)) := by
  have hp := sz_pos l hl
  have hlen := List.length_pos_iff.2 hl
  unfold units
  conv => lhs; rw [show l.length = (l.length - 1) + 1 from by omega]; unfold unitsN
  rw [if_neg hl, unitsN_more (l.drop (sz l)).length (l.length - 1) _ (Nat.le_refl _) (by rw [List.length_drop]; omega)]

/-! ### The beginning of an encoding -/
def full (l : Bs) : Bool :=
  if l.length = 0 then false
  else if firstT (l.getD 0 0).toNat % 8 ≤ l.length then true
  else if 1 < l.length ∧ ((l.getD 1 0).toNat < accLo (firstT (l.getD 0 0).toNat / 16) ∨ accHi (firstT (l.getD 0 0).toNat / 16) < (l.getD 1 0).toNat) then true
  else if 2 < l.length ∧ ((l.getD 2 0).toNat < 128 ∨ 191 < (l.getD 2 0).toNat) then true
  else false
def begun (l : Bs) : Bool := if l.length = 0 then false else !full l
theorem firstT_each (b : Nat) : firstT b = 240 ∨ firstT b = 241 ∨ firstT b = 2 ∨ firstT b = 19 ∨ firstT b = 3 ∨ firstT b = 35 ∨ firstT b = 52 ∨ firstT b = 4 ∨ firstT b = 68 := by
  unfold firstT
  repeat' split
  all_goals simp
theorem firstT_a (b : Nat) (h : b < 128) : firstT b % 8 = 0 := by
  unfold firstT; rw [if_pos h]
theorem firstT_b (b : Nat) (h : 194 ≤ b ∧ b < 224) : firstT b % 8 = 2 := by
  unfold firstT
  rw [if_neg (by omega), if_neg (by omega), if_pos h.2]
theorem firstT_c (b : Nat) (h : b / 16 = 14) : firstT b % 8 = 3 := by
  unfold firstT
  rw [if_neg (by omega), if_neg (by omega), if_neg (by omega)]
  repeat' split
  all_goals omega
theorem firstT_d (b : Nat) (h : b / 8 = 30) (h4 : b ≤ 244) : firstT b % 8 = 4 := by
  unfold firstT
  rw [if_neg (by omega), if_neg (by omega), if_neg (by omega), if_neg (by omega), if_neg (by omega), if_neg (by omega), if_neg (by omega)]
  repeat' split
  all_goals omega
theorem firstT_mod (b : Nat) : firstT b % 8 ≤ 4 := by
  unfold firstT
  repeat' split
  all_goals omega
theorem begun_len (l : Bs) (h : begun l = true) : 1 ≤ l.length ∧ l.length ≤ 3 := by
  unfold begun full at h
  have := firstT_mod (l.getD 0 0).toNat
  by_cases h0 : l.length = 0
  · rw [if_pos h0] at h; simp at h
  · rw [if_neg h0, if_neg h0] at h
    by_cases h1 : firstT (l.getD 0 0).toNat % 8 ≤ l.length
    · rw [if_pos h1] at h; simp at h
    · omega
theorem begun_four (l : Bs) (h : 4 ≤ l.length) : begun l = false := by
  cases hb : begun l with
  | false => rfl
  | true => have := begun_len l hb; omega
theorem begun_lead (l : Bs) (h : begun l = true) : 194 ≤ (l.getD 0 0).toNat := by
  have hn := begun_len l h
  unfold begun full at h
  rw [if_neg (by omega), if_neg (by omega)] at h
  by_cases h1 : firstT (l.getD 0 0).toNat % 8 ≤ l.length
  · rw [if_pos h1] at h; simp at h
  · unfold firstT at h1
    (repeat' split at h1) <;> omega
theorem begun_cont (l : Bs) (h : begun l = true) (k : Nat) (hk : 0 < k) (hl : k < l.length) : Cont (l.getD k 0) := by
  have hn := begun_len l h
  have hb := begun_lead l h
  have q0 := (l.getD 0 0).toNat_lt
  unfold Cont
  unfold begun full at h
  rw [if_neg (by omega), if_neg (by omega)] at h
  by_cases h1 : firstT (l.getD 0 0).toNat % 8 ≤ l.length
  · rw [if_pos h1] at h; simp at h
  · rw [if_neg h1] at h
    by_cases h2 : 1 < l.length ∧ ((l.getD 1 0).toNat < accLo (firstT (l.getD 0 0).toNat / 16) ∨ accHi (firstT (l.getD 0 0).toNat / 16) < (l.getD 1 0).toNat)
    · rw [if_pos h2] at h; simp at h
    · rw [if_neg h2] at h
      by_cases h3 : 2 < l.length ∧ ((l.getD 2 0).toNat < 128 ∨ 191 < (l.getD 2 0).toNat)
      · rw [if_pos h3] at h; simp at h
      · rcases (by omega : k = 1 ∨ k = 2) with rfl | rfl
        · have lo : 128 ≤ accLo (firstT (l.getD 0 0).toNat / 16) ∧ accHi (firstT (l.getD 0 0).toNat / 16) ≤ 191 := by
            rcases firstT_each (l.getD 0 0).toNat with e | e | e | e | e | e | e | e | e <;> rw [e] at h1 ⊢ <;> first | omega | decide
          omega
        · omega
theorem begun_good (l : Bs) (hl : l ≠ []) (h : uni l ≠ (-1, 1)) : begun l = false := by
  have hp := List.length_pos_iff.2 hl
  cases hb : begun l with
  | false => rfl
  | true =>
    exfalso
    have hlead := begun_lead l hb
    unfold begun full at hb
    rw [if_neg (by omega), if_neg (by omega)] at hb
    by_cases h1 : firstT (l.getD 0 0).toNat % 8 ≤ l.length
    · rw [if_pos h1] at hb; simp at hb
    · apply h1
      rcases uni_shape l hl with ⟨c, e⟩ | ⟨c, c', _, c1, e, cv⟩ | ⟨c, _, c1, c2, e, cv, cs⟩ | ⟨c, _, c1, c2, c3, e, cv, cs⟩ | e
      · rw [firstT_a _ c]; omega
      · rw [firstT_b _ ⟨c, c'⟩]; omega
      · rw [firstT_c _ c]; omega
      · rw [firstT_d _ c (by omega)]; omega
      · exact absurd e h
theorem begun_low (l : Bs) (h : (l.getD 0 0).toNat < 194) : begun l = false := by
  cases hb : begun l with
  | false => rfl
  | true => have := begun_lead l hb; omega
end Go.Proofs.YtceomobdolkfgaaDoor.U
/- Classes of characters and clusters, told plainly. No program. -/
set_option linter.unusedVariables false
namespace Go.Proofs.YtceomobdolkfgaaDoor.U
open Go.Lib

/-! ### The tables -/
def rd (l : List Int) (i : Int) : Int := l.getD i.toNat 0
def marksL : List Int := [0x300, 0x36F, 0x483, 0x489, 0x591, 0x5BD, 0x5BF, 0x5BF, 0x5C1, 0x5C2, 0x610, 0x61A, 0x64B, 0x65F, 0x670, 0x670,
  0x6D6, 0x6DC, 0x900, 0x902, 0x93C, 0x93C, 0x94D, 0x94D, 0xE31, 0xE31, 0xE34, 0xE3A, 0xE47, 0xE4E, 0x135D, 0x135F,
  0x1AB0, 0x1AFF, 0x1DC0, 0x1DFF, 0x200C, 0x200D, 0x20D0, 0x20FF, 0x302A, 0x302F, 0x3099, 0x309A, 0xFE00, 0xFE0F,
  0xFE20, 0xFE2F, 0x1F3FB, 0x1F3FF, 0xE0100, 0xE01EF]
def widesL : List Int := [0x1100, 0x115F, 0x231A, 0x231B, 0x2329, 0x232A, 0x23E9, 0x23EC, 0x25FD, 0x25FE, 0x2614, 0x2615, 0x2648, 0x2653,
  0x26AA, 0x26AB, 0x2E80, 0x3029, 0x3030, 0x303E, 0x3041, 0x3098, 0x309B, 0x4DBF, 0x4E00, 0xA4CF,
  0xA960, 0xA97F, 0xAC00, 0xD7A3, 0xF900, 0xFAFF, 0xFE30, 0xFE6F, 0xFF01, 0xFF60, 0xFFE0, 0xFFE6,
  0x16FE0, 0x18AFF, 0x1B000, 0x1B2FF, 0x1F300, 0x1F3FA, 0x1F400, 0x1F64F, 0x1F680, 0x1F6FF, 0x1F900, 0x1F9FF,
  0x20000, 0x2FFFD, 0x30000, 0x3FFFD]
/-- The binary search: the least place from i up to j at which p holds, if p is false and then true. -/
def srch (p : Int → Bool) : Nat → Int → Int → Int
  | 0, i, _ => i
  | k + 1, i, j => if i < j then (if p ((i + j) / 2) = true then srch p k i ((i + j) / 2) else srch p k ((i + j) / 2 + 1) j) else i
def pt (l : List Int) (c : Int) (k : Int) : Bool := decide (c ≤ rd l (2 * k + 1))
def place (l : List Int) (c : Int) : Int := srch (pt l c) ((l.length : Int) / 2).toNat 0 ((l.length : Int) / 2)
def within (l : List Int) (c : Int) : Bool := if place l c < (l.length : Int) / 2 then decide (rd l (2 * place l c) ≤ c) else false

/-- A character's class: 0 plain, 1 newline, 2 control, 3 mark, 4 wide, 5 bad. -/
def cls (c : Int) : Int :=
  if c < 0 ∨ 1114111 < c ∨ (55296 ≤ c ∧ c ≤ 57343) then 5
  else if c = 10 then 1
  else if c < 32 ∨ (127 ≤ c ∧ c ≤ 159) then 2
  else if within marksL c = true then 3
  else if within widesL c = true then 4
  else 0
def cells (c : Int) : Int := if cls c = 1 then 0 else if cls c = 4 then 2 else if cls c = 2 ∧ c ≤ 127 then 2 else 1
theorem cls_range (c : Int) : cls c = 0 ∨ cls c = 1 ∨ cls c = 2 ∨ cls c = 3 ∨ cls c = 4 ∨ cls c = 5 := by
  unfold cls
  repeat' split
  all_goals simp

def glue (u v : Int) : Bool := (decide (u = 13) && decide (v = 10)) || (decide (cls v = 3) && !decide (cls u = 1) && !decide (cls u = 2))

/-! ### Clusters -/
/-- How many bytes are glued to a unit of the character u that stands ahead. -/
def tailN : Nat → Int → Bs → Nat
  | 0, _, _ => 0
  | n + 1, u, s => if s = [] then 0 else if glue u (chr s) = true then sz s + tailN n (chr s) (s.drop (sz s)) else 0
def tail (u : Int) (s : Bs) : Nat := tailN s.length u s
theorem tailN_more : ∀ n m u s, s.length ≤ n → n ≤ m → tailN m u s = tailN n u s
  | 0, 0, u, s, h, _ => rfl
  | 0, m + 1, u, s, h, _ => by
    have : s = [] := List.eq_nil_of_length_eq_zero (by omega)
    subst this
    rfl
  | n + 1, 0, _, _, _, h => by omega
  | n + 1, m + 1, u, s, h, hm => by
    unfold tailN
    by_cases hl : s = []
    · rw [if_pos hl, if_pos hl]
    · rw [if_neg hl, if_neg hl]
      have := sz_pos s hl
      rw [tailN_more n m _ _ (by rw [List.length_drop]; omega) (by omega)]
theorem tail_nil (u : Int) : tail u [] = 0 := rfl
theorem tail_step (u : Int) (s : Bs) (hs : s ≠ []) : tail u s = if glue u (chr s) = true then sz s + tail (chr s) (s.drop (sz s)) else 0 := by
  have hp := sz_pos s hs
  have hlen := List.length_pos_iff.2 hs
  unfold tail
  conv => lhs; rw [show s.length = (s.length - 1) + 1 from by omega]; unfold tailN
  rw [if_neg hs, tailN_more (s.drop (sz s)).length (s.length - 1) _ _ (Nat.le_refl _) (by rw [List.length_drop]; omega)]
/-- The first cluster's length. -/
def clen (s : Bs) : Nat := sz s + tail (chr s) (s.drop (sz s))
theorem tail_le : ∀ n u s, s.length ≤ n → tail u s ≤ s.length
  | n, u, s, h => by
    by_cases hs : s = []
    · subst hs; simp [tail_nil]
    · have hp := sz_pos s hs
      have hz := sz_le s
      rw [tail_step u s hs]
      split
      · match n, h with
        | 0, h => have := List.length_pos_iff.2 hs; omega
        | n + 1, h =>
          have := tail_le n (chr s) (s.drop (sz s)) (by rw [List.length_drop]; omega)
          rw [List.length_drop] at this
          omega
      · omega
theorem clen_le (s : Bs) : clen s ≤ s.length := by
  have h1 := sz_le s
  have h2 := tail_le _ (chr s) (s.drop (sz s)) (Nat.le_refl _)
  rw [List.length_drop] at h2
  unfold clen
  omega
theorem clen_pos (s : Bs) (hs : s ≠ []) : 1 ≤ clen s := by have := sz_pos s hs; unfold clen; omega
theorem clen_sz (s : Bs) : sz s ≤ clen s := Nat.le_add_right _ _

/-- What is cut off behind it does not matter to a tail. -/
theorem tail_take : ∀ n u s m, s.length ≤ n → tail u s ≤ m → tail u (s.take m) = tail u s ∨ (m < tail u s)
  | n, u, s, m, h, hm => by
    left
    by_cases hs : s = []
    · subst hs; simp
    · have hp := sz_pos s hs
      have hz := sz_le s
      have ht := tail_step u s hs
      by_cases hg : glue u (chr s) = true
      · rw [if_pos hg] at ht
        have hk : sz s ≤ m := by omega
        have hu := uni_take s m hk
        have hn : s.take m ≠ [] := by
          intro e
          have := congrArg List.length e
          rw [List.length_take, List.length_nil] at this
          omega
        have hc : chr (s.take m) = chr s := by unfold chr; rw [hu]
        have hsz : sz (s.take m) = sz s := by unfold sz; rw [hu]
        rw [tail_step u _ hn, hc, hsz, if_pos hg, ht, List.drop_take]
        match n, h with
        | 0, h => have := List.length_pos_iff.2 hs; omega
        | n + 1, h =>
          rcases tail_take n (chr s) (s.drop (sz s)) (m - sz s) (by rw [List.length_drop]; omega) (by omega) with e | e
          · rw [e]
          · omega
      · rw [if_neg hg] at ht
        rw [ht]
        by_cases hn : s.take m = []
        · rw [hn]; rfl
        · have hm0 : 1 ≤ m := by
            rcases Nat.eq_zero_or_pos m with e | e
            · subst e; simp at hn
            · exact e
          by_cases hk : sz s ≤ m
          · rw [tail_step u _ hn, show chr (s.take m) = chr s from by unfold chr; rw [uni_take s m hk], if_neg hg]
          · -- a unit that is cut through is a bad byte
            have hb : chr (s.take m) = -1 := by
              by_cases hb : uni (s.take m) = (-1, 1)
              · unfold chr; rw [hb]
              · exfalso
                have hs' := sz_le (s.take m)
                have := uni_agree (s.take m) s hn hb (by rw [List.length_take] at hs'; omega) (fun k hk => (getD_take s m k (by rw [List.length_take] at hs'; omega)).symm)
                have e : sz s = sz (s.take m) := by unfold sz; rw [this]
                rw [List.length_take] at hs'
                omega
            have hc5 : cls (-1) = 5 := rfl
            have hgn : glue u (-1) = false := by unfold glue; rw [hc5]; simp
            rw [tail_step u _ hn, hb, hgn]
            rfl
theorem clen_take (s : Bs) (m : Nat) (hm : clen s ≤ m) : clen (s.take m) = clen s := by
  unfold clen at hm ⊢
  have hu := uni_take s m (by omega)
  have hc : chr (s.take m) = chr s := by unfold chr; rw [hu]
  have hsz : sz (s.take m) = sz s := by unfold sz; rw [hu]
  rw [hc, hsz, List.drop_take]
  rcases tail_take _ (chr s) (s.drop (sz s)) (m - sz s) (Nat.le_refl _) (by omega) with e | e
  · rw [e]
  · omega

/-- The first cluster's class and cells. -/
def crlf (s : Bs) : Bool := decide (chr s = 13) && hasPrefix (s.drop 1) [10]
def mcls (s : Bs) : Int := if crlf s = true then 1 else cls (chr s)
def mcells (s : Bs) : Int := if crlf s = true then 0 else cells (chr s)

structure Cl where
  at_ : Nat
  to_ : Nat
  cls : Int
  cells : Int
/-- The clusters of a text that begins at p. -/
def clsN : Nat → Nat → Bs → List Cl
  | 0, _, _ => []
  | n + 1, p, s => if s = [] then [] else ⟨p, p + clen s, mcls s, mcells s⟩ :: clsN n (p + clen s) (s.drop (clen s))
def clus (p : Nat) (s : Bs) : List Cl := clsN s.length p s
theorem clsN_more : ∀ n m p s, s.length ≤ n → n ≤ m → clsN m p s = clsN n p s
  | 0, 0, p, s, h, _ => rfl
  | 0, m + 1, p, s, h, _ => by
    have : s = [] := List.eq_nil_of_length_eq_zero (by omega)
    subst this
    rfl
  | n + 1, 0, _, _, _, h => by omega
  | n + 1, m + 1, p, s, h, hm => by
    unfold clsN
    by_cases hl : s = []
    · rw [if_pos hl, if_pos hl]
    · rw [if_neg hl, if_neg hl]
      have := clen_pos s hl
      rw [clsN_more n m _ _ (by rw [List.length_drop]; omega) (by omega)]
theorem clus_nil (p : Nat) : clus p [] = [] := rfl
theorem clus_step (p : Nat) (s : Bs) (hs : s ≠ []) : clus p s = ⟨p, p + clen s, mcls s, mcells s⟩ :: clus (p + clen s) (s.drop (clen s)) := by
  have hp := clen_pos s hs
  have hlen := List.length_pos_iff.2 hs
  unfold clus
  conv => lhs; rw [show s.length = (s.length - 1) + 1 from by omega]; unfold clsN
  rw [if_neg hs, clsN_more (s.drop (clen s)).length (s.length - 1) _ _ (Nat.le_refl _) (by rw [List.length_drop]; omega)]
theorem bd_tail (t : Bs) : ∀ n p u, t.length - p ≤ n → Bd t p → Bd t (p + tail u (t.drop p))
  | n, p, u, h, hb => by
    by_cases hs : t.drop p = []
    · rw [hs, tail_nil]; exact hb
    · have hp : p < t.length := by
        rcases Nat.lt_or_ge p t.length with e | e
        · exact e
        · exact absurd (List.drop_eq_nil_of_le e) hs
      rw [tail_step u _ hs]
      split
      · match n, h with
        | 0, h => omega
        | n + 1, h =>
          have h1 := sz_pos _ hs
          have := bd_tail t n (p + sz (t.drop p)) (chr (t.drop p)) (by omega) (bd_next t p hb hp)
          rw [List.drop_drop]
          rwa [← Nat.add_assoc]
      · exact hb
theorem bd_clen (t : Bs) (p : Nat) (hb : Bd t p) (hp : p < t.length) : Bd t (p + clen (t.drop p)) := by
  unfold clen
  rw [← Nat.add_assoc, List.drop_drop]
  exact bd_tail t _ _ _ (Nat.le_refl _) (bd_next t p hb hp)

/-! ### How many cells a text takes -/
def allGood (l : Bs) : Prop := ∀ x ∈ units l, 0 ≤ x.1
instance (l : Bs) : Decidable (allGood l) := inferInstanceAs (Decidable (∀ x ∈ units l, 0 ≤ x.1))
def takes (l : Bs) : Int := if l ≠ [] ∧ clen l = l.length ∧ allGood l then (if mcls l = 0 then 1 else if mcls l = 4 then 2 else 0) else 0
/-- Marks and nothing else. -/
def onlyMarks (l : Bs) : Prop := ∀ x ∈ units l, cls x.1 = 3
theorem good_of_cls (c : Int) (h : cls c ≠ 5) : 0 ≤ c := by
  rcases Int.lt_or_le c 0 with e | e
  · exact absurd (by unfold cls; rw [if_pos (.inl e)]) h
  · exact e
theorem uni_bad_cls (l : Bs) : (uni l = (-1, 1)) ∨ (l = []) ∨ 0 ≤ chr l := by
  by_cases hl : l = []
  · exact .inr (.inl hl)
  · unfold chr
    rcases uni_shape l hl with ⟨_, e⟩ | ⟨_, _, _, _, e, _⟩ | ⟨_, _, _, _, e, _⟩ | ⟨_, _, _, _, _, e, _⟩ | e
    · refine .inr (.inr ?_); rw [e]; dsimp only; omega
    · refine .inr (.inr ?_); rw [e]; dsimp only; omega
    · refine .inr (.inr ?_); rw [e]; dsimp only; omega
    · refine .inr (.inr ?_); rw [e]; dsimp only; omega
    · exact .inl e
/-- A unit that isn't bad is of no bad class. -/
theorem cls_good (l : Bs) (hl : l ≠ []) (h : uni l ≠ (-1, 1)) : cls (chr l) ≠ 5 := by
  unfold chr cls
  have k0 := (l.getD 0 0).toNat_lt
  rcases uni_shape l hl with ⟨_, e⟩ | ⟨_, _, _, _, e, _⟩ | ⟨_, _, _, _, e, _, _⟩ | ⟨_, _, _, _, _, e, _, _⟩ | e
  · rw [e, if_neg (by dsimp only; omega)]; (repeat' split) <;> simp
  · rw [e, if_neg (by dsimp only; omega)]; (repeat' split) <;> simp
  · rw [e, if_neg (by dsimp only; omega)]; (repeat' split) <;> simp
  · rw [e, if_neg (by dsimp only; omega)]; (repeat' split) <;> simp
  · exact absurd e h
theorem cls_10 : cls 10 = 1 := rfl
theorem cls_13 : cls 13 = 2 := rfl
theorem glue_mark (u v : Int) (h : cls u = 0 ∨ cls u = 3 ∨ cls u = 4 ∨ cls u = 5) : glue u v = true ↔ cls v = 3 := by
  unfold glue
  have h1 : cls u ≠ 1 := by rcases h with h | h | h | h <;> rw [h] <;> decide
  have h2 : cls u ≠ 2 := by rcases h with h | h | h | h <;> rw [h] <;> decide
  have h13 : u ≠ 13 := by rintro rfl; rw [cls_13] at h2; exact h2 rfl
  simp [h1, h2, h13]
/-- Behind what isn't a control the tail is the marks. -/
theorem tail_marks : ∀ n u s, s.length ≤ n → (cls u = 0 ∨ cls u = 3 ∨ cls u = 4 ∨ cls u = 5) → (tail u s = s.length ↔ onlyMarks s)
  | n, u, s, h, hu => by
    by_cases hs : s = []
    · subst hs
      rw [tail_nil]
      exact ⟨fun _ x hx => (by rw [units_nil] at hx; cases hx), fun _ => rfl⟩
    · have hp := sz_pos s hs
      have hz := sz_le s
      have hlen := List.length_pos_iff.2 hs
      rw [tail_step u s hs]
      unfold onlyMarks
      rw [units_step s hs]
      by_cases hg : glue u (chr s) = true
      · rw [if_pos hg]
        have hv := (glue_mark u (chr s) hu).1 hg
        match n, h with
        | 0, h => omega
        | n + 1, h =>
          have ih := tail_marks n (chr s) (s.drop (sz s)) (by rw [List.length_drop]; omega) (.inr (.inl hv))
          rw [List.length_drop] at ih
          constructor
          · intro e x hx
            rcases List.mem_cons.1 hx with rfl | hx
            · exact hv
            · exact ih.1 (by omega) x hx
          · intro e
            have := ih.2 (fun x hx => e x (List.mem_cons_of_mem _ hx))
            omega
      · rw [if_neg hg]
        constructor
        · intro e; omega
        · intro e
          exact absurd ((glue_mark u (chr s) hu).2 (e _ (List.mem_cons_self ..))) hg
theorem marks_good (l : Bs) (h : onlyMarks l) : allGood l := fun x hx => good_of_cls _ (by rw [h x hx]; decide)
theorem crlf_no (l : Bs) (h : cls (chr l) ≠ 2) : crlf l = false := by
  unfold crlf
  have : chr l ≠ 13 := by intro e; rw [e, cls_13] at h; exact h rfl
  simp [this]
theorem mcls_crlf (l : Bs) : (mcls l = 0 ∨ mcls l = 4 ∨ mcls l = 3 ∨ mcls l = 5) → mcls l = cls (chr l) ∧ (cls (chr l) = 0 ∨ cls (chr l) = 4 ∨ cls (chr l) = 3 ∨ cls (chr l) = 5) := by
  unfold mcls
  intro h
  cases hc : crlf l with
  | true => rw [hc] at h; simp at h
  | false => rw [hc] at h; simpa using h
/-- What a cell's text is: a base, and marks behind it. -/
theorem takes_base (l : Bs) (h : takes l ≠ 0) : l ≠ [] ∧ uni l ≠ (-1, 1) ∧ onlyMarks (l.drop (sz l)) ∧ ((takes l = 1 ∧ cls (chr l) = 0) ∨ (takes l = 2 ∧ cls (chr l) = 4)) := by
  unfold takes at h ⊢
  by_cases hc : l ≠ [] ∧ clen l = l.length ∧ allGood l
  · rw [if_pos hc] at h ⊢
    obtain ⟨h1, h2, h3⟩ := hc
    have hz := sz_le l
    have hg : uni l ≠ (-1, 1) := by
      intro e
      have := h3 (uni l) (by rw [units_step l h1]; exact List.mem_cons_self ..)
      rw [e] at this
      simp at this
    have hm : (mcls l = 0 ∧ (if mcls l = 0 then (1 : Int) else if mcls l = 4 then 2 else 0) = 1) ∨ (mcls l = 4 ∧ (if mcls l = 0 then (1 : Int) else if mcls l = 4 then 2 else 0) = 2) := by
      by_cases e : mcls l = 0
      · exact .inl ⟨e, by rw [if_pos e]⟩
      · rw [if_neg e] at h ⊢
        by_cases e' : mcls l = 4
        · exact .inr ⟨e', by rw [if_pos e']⟩
        · rw [if_neg e'] at h; exact absurd rfl h
    have hcl : (mcls l = cls (chr l)) ∧ (cls (chr l) = 0 ∨ cls (chr l) = 4 ∨ cls (chr l) = 3 ∨ cls (chr l) = 5) := mcls_crlf l (by rcases hm with ⟨e, _⟩ | ⟨e, _⟩ <;> simp [e])
    refine ⟨h1, hg, ?_, ?_⟩
    · refine (tail_marks _ (chr l) _ (Nat.le_refl _) ?_).1 ?_
      · rcases hcl.2 with e | e | e | e <;> simp [e]
      · unfold clen at h2
        rw [List.length_drop]
        omega
    · rcases hm with ⟨e, e'⟩ | ⟨e, e'⟩
      · exact .inl ⟨e', by rw [← hcl.1, e]⟩
      · exact .inr ⟨e', by rw [← hcl.1, e]⟩
  · rw [if_neg hc] at h
    exact absurd rfl h
theorem takes_of (l : Bs) (h1 : l ≠ []) (h2 : uni l ≠ (-1, 1)) (h3 : onlyMarks (l.drop (sz l))) (hc : cls (chr l) = 0 ∨ cls (chr l) = 4) : takes l = if cls (chr l) = 0 then 1 else 2 := by
  have hz := sz_le l
  have hmc : mcls l = cls (chr l) := by
    unfold mcls
    rw [crlf_no l (by rcases hc with e | e <;> rw [e] <;> decide)]
    rfl
  have hl : clen l = l.length := by
    have := (tail_marks _ (chr l) (l.drop (sz l)) (Nat.le_refl _) (by rcases hc with e | e <;> simp [e])).2 h3
    rw [List.length_drop] at this
    unfold clen
    omega
  have hg : allGood l := by
    intro x hx
    rw [units_step l h1] at hx
    rcases List.mem_cons.1 hx with rfl | hx
    · rcases uni_bad_cls l with e | e | e
      · exact absurd e h2
      · exact absurd e h1
      · exact e
    · exact marks_good _ h3 x hx
  unfold takes
  rw [if_pos ⟨h1, hl, hg⟩, hmc]
  rcases hc with e | e <;> rw [e] <;> simp
end Go.Proofs.YtceomobdolkfgaaDoor.U
/- The contract of width.within at runes: it tells whether the binary search finds a range that holds the number. -/
namespace Go.Proofs.YtceomobdolkfgaaDoor.Within
open Go.RowKit Go.Proofs.YtceomobdolkfgaaDoorW.PrintWords

set_option maxHeartbeats 400000 in
theorem clo (k : Int) (A0 : Option Addr) (c0 : Nat) (l0 : List Int) (c : Int) (b2 b3 : Nat) (w : World) (h2 : w.cell? ⟨b2, 0, none⟩ = some (.slice A0 l0.length c0)) (h3 : w.cell? ⟨b3, 0, none⟩ = some (.int .i32 c))
    (hr : Kd.C (Kd.int .i32) w A0 l0.length l0) (h0 : 0 ≤ k) (h1 : 2 * k + 1 < (l0.length : Int)) (hm : l0.length ≤ 1000000) :
    Calls Tryd.prog 74 #[.int .i64 k, .pointer (some ⟨b2, 0, none⟩), .pointer (some ⟨b3, 0, none⟩)] w fun e w' => e = .returned (.bool (decide (c ≤ rd l0 (2 * k + 1)))) ∧ ∃ m, w' = w.drewN m := by
  obtain ⟨ad, rfl, hc⟩ := Kd.at_int hr (2 * k + 1) (by omega) h1
  have e1 : IntKind.i64.wrap (2 * k) = 2 * k := IntWalk.i64_in _ (by omega)
  have e2 : IntKind.i64.wrap (2 * k + 1) = 2 * k + 1 := IntWalk.i64_in _ (by omega)
  have p1 : 0 ≤ 2 * k + 1 := by omega
  clear hm
  go_enter Tryd.func74, Tryd.ntmps74
  go_wp2
  go_quiet (fail)
  go_wp2
  go_ret
  exact ⟨rfl, _, rfl⟩

/-- The binary search: the least place from i up to j at which p holds, if p is false and then true. -/
def srch (p : Int → Bool) : Nat → Int → Int → Int
  | 0, i, _ => i
  | k + 1, i, j => if i < j then (if p ((i + j) / 2) = true then srch p k i ((i + j) / 2) else srch p k ((i + j) / 2 + 1) j) else i

theorem srch_le (p : Int → Bool) : ∀ k i j, i ≤ j → i ≤ srch p k i j ∧ srch p k i j ≤ j
  | 0, i, j, h => ⟨Int.le_refl _, h⟩
  | k + 1, i, j, h => by
    unfold srch
    split
    · split
      · have := srch_le p k i ((i + j) / 2) (by omega); omega
      · have := srch_le p k ((i + j) / 2 + 1) j (by omega); omega
    · exact ⟨Int.le_refl _, h⟩

theorem srch_done (p : Int → Bool) (k : Nat) (i j : Int) (h : ¬ i < j) : srch p k i j = i := by
  cases k with
  | zero => rfl
  | succ k => unfold srch; rw [if_neg h]

theorem srch_more (p : Int → Bool) : ∀ k m i j, (j - i).toNat ≤ k → k ≤ m → srch p m i j = srch p k i j
  | 0, m, i, j, h, _ => by rw [srch_done p m i j (by omega), srch_done p 0 i j (by omega)]
  | k + 1, 0, _, _, _, h => by omega
  | k + 1, m + 1, i, j, h, hm => by
    unfold srch
    split
    · split
      · exact srch_more p k m _ _ (by omega) (by omega)
      · exact srch_more p k m _ _ (by omega) (by omega)
    · rfl

theorem srch_yes (p : Int → Bool) (i j : Int) (h : i < j) (hp : p ((i + j) / 2) = true) : srch p (j - i).toNat i j = srch p ((i + j) / 2 - i).toNat i ((i + j) / 2) := by
  obtain ⟨k, hk⟩ : ∃ k, (j - i).toNat = k + 1 := ⟨(j - i).toNat - 1, by omega⟩
  rw [hk]; conv => lhs; unfold srch
  rw [if_pos h, if_pos hp]
  exact srch_more p ((i + j) / 2 - i).toNat k i ((i + j) / 2) (Nat.le_refl _) (by omega)
theorem srch_no (p : Int → Bool) (i j : Int) (h : i < j) (hp : p ((i + j) / 2) = false) : srch p (j - i).toNat i j = srch p (j - ((i + j) / 2 + 1)).toNat ((i + j) / 2 + 1) j := by
  obtain ⟨k, hk⟩ : ∃ k, (j - i).toNat = k + 1 := ⟨(j - i).toNat - 1, by omega⟩
  rw [hk]; conv => lhs; unfold srch
  rw [if_pos h, if_neg (by simp [hp])]
  exact srch_more p (j - ((i + j) / 2 + 1)).toNat k ((i + j) / 2 + 1) j (Nat.le_refl _) (by omega)

set_option maxHeartbeats 800000 in
theorem search (n : Int) (p : Int → Bool) (b2 b3 : Value) (w : World) (hn0 : 0 ≤ n) (hn : n ≤ 1000000)
    (hf : ∀ (k : Int) (W : World), 0 ≤ k → k < n → Drawn0 w W → Calls Tryd.prog 74 #[.int .i64 k, b2, b3] W fun e w' => e = .returned (.bool (p k)) ∧ ∃ m, w' = W.drewN m) :
    Calls Tryd.prog 73 #[.int .i64 n, .func (.func 74) #[] #[b2, b3]] w fun e w' => e = .returned (.int .i64 (srch p n.toNat 0 n)) ∧ Drawn0 w w' := by
  go_enter Tryd.func73, Tryd.ntmps73
  go_wp2
  go_loopw [5, 6] (fun vi vj W => ∃ i j : Int, vi = .int .i64 i ∧ vj = .int .i64 j ∧ 0 ≤ i ∧ i ≤ j ∧ j ≤ n ∧ Hid (srch p n.toNat 0 n = srch p (j - i).toNat i j) ∧ Drawn0 w W) (fun vi vj _ => (intOf vj - intOf vi).toNat)
  case atStart => exact ⟨0, n, rfl, rfl, by omega, hn0, by omega, by simp [Hid], Drawn0.refl _⟩
  case round =>
    obtain ⟨i, j, rfl, rfl, h0, h1, h2, hh, hd⟩ := hrel
    have HF := Lib.hid hf
    clear hf
    by_cases hlt : i < j
    · have hb1 : 0 ≤ (i + j) / 2 := by omega
      have hb2 : (i + j) / 2 < n := by omega
      have hb3 : (i + j) / 2 < j := by omega
      have hb4 : i ≤ (i + j) / 2 := by omega
      cases hp : p ((i + j) / 2) with
      | true =>
        have HP := Lib.hid (srch_yes p i j hlt hp)
        go_wp2_with (go_at_call 74; refine (HF.out _ _ hb1 hb2 hd).mono ?_; rintro e w' ⟨rfl, m, rfl⟩; simp only [hp])
        go_roundw
        case measure => simp [intOf]; omega
        case rel => exact ⟨i, (i + j) / 2, rfl, rfl, h0, hb4, by omega, hh.out.trans HP.out, hd.step _⟩
      | false =>
        have HP := Lib.hid (srch_no p i j hlt hp)
        go_wp2_with (go_at_call 74; refine (HF.out _ _ hb1 hb2 hd).mono ?_; rintro e w' ⟨rfl, m, rfl⟩; simp only [hp])
        go_roundw
        case measure => simp [intOf]; omega
        case rel => exact ⟨(i + j) / 2 + 1, j, rfl, rfl, by omega, by omega, by omega, hh.out.trans HP.out, hd.step _⟩
    · obtain rfl : i = j := by omega
      have HI : Hid (srch p n.toNat 0 n = i) := hh.out.trans (srch_done p _ i i (by omega))
      go_wp2
      go_ret
      exact ⟨by rw [HI.out]; rfl, hd⟩

def pt (l : List Int) (c : Int) (k : Int) : Bool := decide (c ≤ rd l (2 * k + 1))
def place (l : List Int) (c : Int) : Int := srch (pt l c) ((l.length : Int) / 2).toNat 0 ((l.length : Int) / 2)
def withinF (l : List Int) (c : Int) : Bool := if place l c < (l.length : Int) / 2 then decide (rd l (2 * place l c) ≤ c) else false

theorem withinF_lt (l : List Int) (c i : Int) (hi : place l c = i) (h : i < (l.length : Int) / 2) : withinF l c = decide (rd l (2 * i) ≤ c) := by unfold withinF; rw [hi, if_pos h]
theorem withinF_ge (l : List Int) (c i : Int) (hi : place l c = i) (h : ¬ i < (l.length : Int) / 2) : withinF l c = false := by unfold withinF; rw [hi, if_neg h]

set_option maxHeartbeats 800000 in
theorem within (A0 : Option Addr) (c0 : Nat) (l0 : List Int) (c : Int) (w : World) (hr : Kd.C (Kd.int .i32) w A0 l0.length l0) (hm : l0.length ≤ 1000000) :
    Calls Tryd.prog 58 #[.slice A0 l0.length c0, .int .i32 c] w fun e w' => e = .returned (.bool (withinF l0 c)) ∧ Below w.heap.size w w' := by
  obtain ⟨i, hi⟩ : ∃ i, place l0 c = i := ⟨_, rfl⟩
  have hle : 0 ≤ i ∧ i ≤ (l0.length : Int) / 2 := by rw [← hi]; exact srch_le (pt l0 c) ((l0.length : Int) / 2).toNat 0 ((l0.length : Int) / 2) (by omega)
  obtain ⟨hle0, hle1⟩ := hle
  have hb := ((Below.refl w.heap.size w).alloc (Nat.le_refl _) (.cells #[.slice A0 l0.length c0] 99)).alloc (by simp) (.cells #[.int .i32 c] 21)
  have hr2 : Kd.C (Kd.int .i32) ((w.alloc (.cells #[.slice A0 l0.length c0] 99)).alloc (.cells #[.int .i32 c] 21)) A0 l0.length l0 := Kd.C_below hr hb
  have HC := Lib.hid (search ((l0.length : Int) / 2) (pt l0 c) (.pointer (some ⟨w.heap.size, 0, none⟩)) (.pointer (some ⟨w.heap.size + 1, 0, none⟩)) ((w.alloc (.cells #[.slice A0 l0.length c0] 99)).alloc (.cells #[.int .i32 c] 21)) (by omega) (by omega) (by
    rintro k W h0 h1 ⟨m, rfl⟩
    exact clo k A0 c0 l0 c _ _ _ (by go_simp) (by go_simp) hr2 h0 (by omega) hm))
  have HI := Lib.hid hi
  have HR := Lib.hid hr2
  have HB := Lib.hid hb
  clear hi hr hr2 hb
  by_cases hlt : i < (l0.length : Int) / 2
  · have HW := Lib.hid (withinF_lt l0 c i HI.out hlt)
    obtain ⟨ad, rfl, hc⟩ := Kd.at_int HR.out (2 * i) (by omega) (by omega)
    have e1 : IntKind.i64.wrap (2 * i) = 2 * i := IntWalk.i64_in _ (by omega)
    have p1 : 0 ≤ 2 * i := by omega
    have q1 : 2 * i < (l0.length : Int) := by omega
    go_enter Tryd.func58, Tryd.ntmps58
    go_wp2_with (go_at_call 73; refine HC.out.mono ?_; rintro e w' ⟨rfl, m, rfl⟩; rw [show srch (pt l0 c) ((l0.length : Int) / 2).toNat 0 ((l0.length : Int) / 2) = i from HI.out])
    go_quiet (fail)
    go_wp2
    go_ret
    exact ⟨by rw [HW.out]; rfl, pw_below_drewN (pw_below_drewN HB.out _) _⟩
  · have HW := Lib.hid (withinF_ge l0 c i HI.out hlt)
    have hd : decide (i < (l0.length : Int) / 2) = false := by simpa using hlt
    go_enter Tryd.func58, Tryd.ntmps58
    go_wp2_with (go_at_call 73; refine HC.out.mono ?_; rintro e w' ⟨rfl, m, rfl⟩; rw [show srch (pt l0 c) ((l0.length : Int) / 2).toNat 0 ((l0.length : Int) / 2) = i from HI.out])
    go_quiet (fail)
    go_wp2
    go_ret
    exact ⟨by rw [HW.out]; rfl, pw_below_drewN (pw_below_drewN HB.out _) _⟩
end Go.Proofs.YtceomobdolkfgaaDoor.Within
/- The units of a text: what the program's package answers. -/
set_option linter.unusedVariables false
namespace Go.Proofs.YtceomobdolkfgaaDoor
open Go.RowKit Go.Proofs.YtceomobdolkfgaaDoorW.PrintWords Go.Proofs.YtceomobdolkfgaaDoor.Sep
namespace U
/-- A text's bytes. -/
def L (s : ByteArray) : Bs := s.data.toList
theorem L_len (s : ByteArray) : (L s).length = s.size := by unfold L; rw [Array.length_toList]; rfl
theorem L_drop (s : ByteArray) (i : Nat) : L (s.extract i s.size) = (L s).drop i := by
  unfold L
  rw [ByteArray.data_extract, Array.toList_extract, List.extract_eq_take_drop]
  rw [List.take_of_length_le]
  rw [List.length_drop, Array.length_toList]
  exact Nat.le_refl _
theorem L_take (s : ByteArray) (i j : Nat) : L (s.extract i j) = ((L s).drop i).take (j - i) := by
  unfold L
  rw [ByteArray.data_extract, Array.toList_extract, List.extract_eq_take_drop]
theorem L_nil (s : ByteArray) : L s = [] ↔ s.size = 0 := by rw [← L_len]; exact List.length_eq_zero_iff.symm
abbrev Tabs (w : World) : Prop := Lib.Utf8Tabs 0 1 w
theorem Tabs.two {w : World} (h : Tabs w) : 0 < w.heap.size ∧ 1 < w.heap.size :=
  ⟨World.block_lt_of_cell? w ⟨0, 0, none⟩ (h.1 0 (by decide)), World.block_lt_of_cell? w ⟨1, 0, none⟩ (h.2 0 (by decide)).1⟩
theorem Tabs.keep {w w' : World} (h : Tabs w) (h0 : w'.heap[(0 : Nat)]? = w.heap[(0 : Nat)]?) (h1 : w'.heap[(1 : Nat)]? = w.heap[(1 : Nat)]?) : Tabs w' :=
  ⟨fun c hc => (World.cell?_of_block (a := ⟨0, c, none⟩) h0).trans (h.1 c hc), fun i hi => ⟨(World.cell?_of_block (a := ⟨1, 2 * i, none⟩) h1).trans (h.2 i hi).1, (World.cell?_of_block (a := ⟨1, 2 * i + 1, none⟩) h1).trans (h.2 i hi).2⟩⟩
theorem Tabs.below {w w' : World} (h : Tabs w) (hb : Below w.heap.size w w') : Tabs w' := h.keep (hb.block _ h.two.1) (hb.block _ h.two.2)
theorem Tabs.upd {S : Nat → Prop} {w w' : World} (h : Tabs w) (hu : Upd S w w') (h0 : ¬ S 0) (h1 : ¬ S 1) : Tabs w' := h.keep (hu.block _ h.two.1 h0) (hu.block _ h.two.2 h1)
theorem Tabs.alloc {w : World} (h : Tabs w) (o : Obj) : Tabs (w.alloc o) := h.below ((Below.refl _ _).alloc (Nat.le_refl _) o)
theorem Tabs.drewN {w : World} (h : Tabs w) (n : Nat) : Tabs (w.drewN n) := h

theorem uni_go (s : ByteArray) : uni (L s) = if (Lib.decodeGo s).1 = 65533 ∧ (Lib.decodeGo s).2 = 1 then (-1, 1) else (((Lib.decodeGo s).1 : Int), (Lib.decodeGo s).2) := by
  unfold uni Lib.decodeGo
  by_cases h : s.size = 0
  · rw [if_pos ((L_nil s).2 h), if_pos h]
    rfl
  · rw [if_neg (fun e => h ((L_nil s).1 e)), if_neg h]
    have e : Lib.decodeL (L s) = Utf8.decode s 0 := rfl
    rw [e]
    by_cases h2 : Utf8.decode s 0 = (65533, 1)
    · rw [if_pos h2, if_pos ⟨by rw [h2], by rw [h2]⟩]
    · rw [if_neg h2, if_neg (fun ⟨a, b⟩ => h2 (Prod.ext a b))]

theorem blk_new {w w' : World} {t : TypeId} {cs : Array Value} (h : Below (w.alloc (.cells cs t)).heap.size (w.alloc (.cells cs t)) w') : Blk w' w.heap.size t cs :=
  (Blk.new w t cs).keep (h.block w.heap.size (by simp))
theorem Blk.below {w w' : World} {B : Nat} {t : TypeId} {cs : Array Value} (K : Blk w B t cs) (h : Below w.heap.size w w') : Blk w' B t cs := K.keep (h.block _ K.lt)
theorem Blk.two {w : World} {B : Nat} {t : TypeId} {v0 v1 : Value} (hb : Blk w B t #[v0, v1]) :
    w.cell? ⟨B, 0, none⟩ = some v0 ∧ w.cell? ⟨B, 1, none⟩ = some v1 ∧ w.frozen? ⟨B, 0, none⟩ = false ∧ w.frozen? ⟨B, 1, none⟩ = false ∧
      (∀ v, (w.setCell ⟨B, 0, none⟩ v).cell? ⟨B, 0, none⟩ = some v) ∧ (∀ v u, ((w.setCell ⟨B, 0, none⟩ v).setCell ⟨B, 1, none⟩ u).cell? ⟨B, 1, none⟩ = some u) :=
  ⟨hb.cell 0, hb.cell 1, hb.frozen 0, hb.frozen 1, fun v => (hb.set_ 0 v).cell 0, fun v u => ((hb.set_ 0 v).set_ 1 u).cell 1⟩
theorem below_alloc {w w' : World} {o : Obj} (h : Below (w.alloc o).heap.size (w.alloc o) w') : Below w.heap.size w w' := ((Below.refl _ _).alloc (Nat.le_refl _) o).trans (h.mono (by simp))

theorem below_then {w w1 w2 : World} (h : Below w.heap.size w w1) (g : Below w1.heap.size w1 w2) : Below w.heap.size w w2 := h.trans (g.mono h.size)

theorem below_drew1_ {B : Nat} {w w1 : World} (h : Below B w w1) : Below B w w1.drew := ⟨h.os, h.tape, h.output, h.size, h.block⟩
theorem below_undrew {w w' : World} (h : Below w.drew.heap.size w.drew w') : Below w.heap.size w w' := ⟨h.os, h.tape, h.output, h.size, h.block⟩
theorem below_undrewN {w w' : World} {n : Nat} (h : Below (w.drewN n).heap.size (w.drewN n) w') : Below w.heap.size w w' := ⟨h.os, h.tape, h.output, h.size, h.block⟩
theorem below_one (w : World) (o : Obj) : Below w.heap.size w (w.alloc o) := (Below.refl _ _).alloc (Nat.le_refl _) o
theorem Blk.four {w : World} {B : Nat} {t : TypeId} {v0 v1 v2 v3 : Value} (hb : Blk w B t #[v0, v1, v2, v3]) :
    w.cell? ⟨B, 0, none⟩ = some v0 ∧ w.cell? ⟨B, 1, none⟩ = some v1 ∧ w.cell? ⟨B, 2, none⟩ = some v2 ∧ w.cell? ⟨B, 3, none⟩ = some v3 ∧ w.frozen? ⟨B, 0, none⟩ = false ∧ w.frozen? ⟨B, 1, none⟩ = false ∧ w.frozen? ⟨B, 2, none⟩ = false ∧ w.frozen? ⟨B, 3, none⟩ = false :=
  ⟨hb.cell 0, hb.cell 1, hb.cell 2, hb.cell 3, hb.frozen 0, hb.frozen 1, hb.frozen 2, hb.frozen 3⟩
theorem Blk.eq_ {w : World} {g : Nat} {t : TypeId} {cs cs' : Array Value} (h : Blk w g t cs) (e : cs = cs') : Blk w g t cs' := e ▸ h

set_option maxHeartbeats 1600000
set_option maxRecDepth 100000
theorem first (s : ByteArray) (w : World) (hT : Tabs w) : Calls Tryd.prog 57 #[.string s] w fun e w' => e = .returned (.agg #[.int .i32 (uni (L s)).1, .int .i64 (uni (L s)).2]) ∧ Below w.heap.size w w' := by
  have HD := Lib.hid (fun o : Obj => Tryd.utf8_DecodeRuneInString s (w.alloc o) (hT.alloc o))
  have HU := Lib.hid (uni_go s)
  clear hT
  generalize hd : Lib.decodeGo s = d at HD HU
  clear hd
  obtain ⟨c, n⟩ := d
  by_cases h1 : (c : Int) = 65533
  · by_cases h2 : (n : Int) = 1
    · have hu : uni (L s) = (-1, 1) := by rw [HU.out, if_pos ⟨by omega, by omega⟩]
      rw [hu]
      clear HU hu
      go_enter Tryd.func57, Tryd.ntmps57
      go_wp2_with (go_at_call 31; refine (HD.out _).mono ?_; rintro e w' ⟨rfl, hq⟩; have HQ := Lib.hid hq; have HK := Lib.hid (blk_new hq); obtain ⟨c0, c1, f0, f1, g0, g1⟩ := Blk.two HK.out; clear hq)
      (try simp only [Exit.inBlock, Exit.then])
      refine bodyPost_ret (by simp [results, Tryd.results57, go_sem, g0, g1]; rfl) rfl ?_
      exact ⟨rfl, ((below_alloc HQ.out).setCell (p := ⟨w.heap.size, 0, none⟩) (Nat.le_refl _) _).setCell (p := ⟨w.heap.size, 1, none⟩) (Nat.le_refl _) _⟩
    · have hu : uni (L s) = ((c : Int), n) := by rw [HU.out, if_neg (by rintro ⟨_, h⟩; exact h2 (by omega))]
      rw [hu]
      clear HU hu
      go_enter Tryd.func57, Tryd.ntmps57
      go_wp2_with (go_at_call 31; refine (HD.out _).mono ?_; rintro e w' ⟨rfl, hq⟩; have HQ := Lib.hid hq; have HK := Lib.hid (blk_new hq); obtain ⟨c0, c1, f0, f1, g0, g1⟩ := Blk.two HK.out; clear hq)
      (try simp only [Exit.inBlock, Exit.then])
      refine bodyPost_ret (by simp [results, Tryd.results57, go_sem, g0, g1]; rfl) rfl ?_
      exact ⟨by rw [h1], ((below_alloc HQ.out).setCell (p := ⟨w.heap.size, 0, none⟩) (Nat.le_refl _) _).setCell (p := ⟨w.heap.size, 1, none⟩) (Nat.le_refl _) _⟩
  · have hu : uni (L s) = ((c : Int), n) := by rw [HU.out, if_neg (by rintro ⟨h, _⟩; exact h1 (by omega))]
    rw [hu]
    clear HU hu
    go_enter Tryd.func57, Tryd.ntmps57
    go_wp2_with (go_at_call 31; refine (HD.out _).mono ?_; rintro e w' ⟨rfl, hq⟩; have HQ := Lib.hid hq; have HK := Lib.hid (blk_new hq); obtain ⟨c0, c1, f0, f1, g0, g1⟩ := Blk.two HK.out; clear hq)
    (try simp only [Exit.inBlock, Exit.then])
    refine bodyPost_ret (by simp [results, Tryd.results57, go_sem, g0, g1]; rfl) rfl ?_
    exact ⟨rfl, ((below_alloc HQ.out).setCell (p := ⟨w.heap.size, 0, none⟩) (Nat.le_refl _) _).setCell (p := ⟨w.heap.size, 1, none⟩) (Nat.le_refl _) _⟩
theorem fld (c n : Int) (w : World) : (Instr.field 86 (.agg #[.int .i32 c, .int .i64 n]) 1).run Tryd.prog w = .ok (.int .i64 n) w := by kernel_rfl
theorem around_ (s : ByteArray) (i : Nat) (w : World) (hT : Tabs w) (hs : s.size ≤ 1099511627776) (hi : i ≤ s.size) :
    Calls Tryd.prog 63 #[.string s, .int .i64 i] w fun e w' => e = .returned (.tuple #[.int .i64 (around3 (L s) i).1, .int .i64 (around3 (L s) i).2]) ∧ Below w.heap.size w w' := by
  have HT := Lib.hid hT
  have hl := L_len s
  have hi1 : (i : Int) ≤ (s.size : Int) := by omega
  have hfl := fld
  clear hT
  go_enter Tryd.func63, Tryd.ntmps63
  go_wp2
  go_loopg [6] (i - (i - 3)) (fun k v w' => ∃ j : Nat, v = .int .i64 j ∧ j + k = i ∧ Hid (around3 (L s) i = around (L s) i k j) ∧ Hid (Below w.heap.size w w'))
  case atStart => exact ⟨i - 3, by simp; omega, by omega, Lib.hid rfl, Lib.hid (Below.refl _ _)⟩
  case round =>
    obtain ⟨j, rfl, hj, HA, HB⟩ := hrel
    cases gk with
    | zero =>
      obtain rfl : j = i := by omega
      have hlt : decide ((j : Int) < (j : Int)) = false := decide_eq_false (by omega)
      have hF := Lib.hid (first (s.extract j s.size) wr (HT.out.below HB.out))
      obtain ⟨c, n, hu⟩ : ∃ c n, uni (L (s.extract j s.size)) = (c, n) := ⟨_, _, rfl⟩
      have hn : n ≤ 4 := by
        have : sz (L (s.extract j s.size)) = n := by unfold sz; rw [hu]
        rw [← this]
        by_cases h0 : L (s.extract j s.size) = []
        · rw [h0]; decide
        · exact sz_four _ h0
      rw [hu] at hF
      by_cases he : (j : Int) = (s.size : Int)
      · have hr : around3 (L s) j = (j, j) := by rw [HA.out]; unfold around; rw [if_pos (by omega)]
        have HR := Lib.hid hr
        clear hr hF hu
        have he2 : ((j : Int) == (s.size : Int)) = true := by simpa using he
        go_wp2
        go_ret2
        exact ⟨by rw [HR.out]; rfl, HB.out⟩
      · have hr : around3 (L s) j = (j, j + n) := by
          rw [HA.out]; unfold around; rw [if_neg (by omega), ← L_drop]; unfold sz; rw [hu]
        have HR := Lib.hid hr
        clear hr hu
        have he2 : ((j : Int) == (s.size : Int)) = false := by simpa using he
        go_wp2_with (go_at_call 57; refine hF.out.mono ?_; rintro e w2 ⟨rfl, hb⟩; have HW := Lib.hid hb; clear hb)
        go_ret2
        exact ⟨by rw [HR.out]; rfl, below_then HB.out HW.out⟩
    | succ k =>
      have hlt : decide ((j : Int) < (i : Int)) = true := decide_eq_true (by omega)
      have hF := Lib.hid (first (s.extract j s.size) wr (HT.out.below HB.out))
      obtain ⟨c, n, hu⟩ : ∃ c n, uni (L (s.extract j s.size)) = (c, n) := ⟨_, _, rfl⟩
      have hsz : sz ((L s).drop j) = n := by rw [← L_drop]; unfold sz; rw [hu]
      have hn : n ≤ 4 := by
        rw [← hsz]
        by_cases h0 : (L s).drop j = []
        · rw [h0]; decide
        · exact sz_four _ h0
      have hj1 : (j : Int) ≤ (s.size : Int) := by omega
      rw [hu] at hF
      have HS := Lib.hid hsz
      clear hu hsz
      by_cases hh : (i : Int) < (j : Int) + (n : Int)
      · have hr : around3 (L s) i = (j, j + n) := by rw [HA.out]; unfold around; rw [HS.out, if_pos (by omega)]
        have HR := Lib.hid hr
        clear hr
        have hd : decide ((i : Int) < (j : Int) + (n : Int)) = true := decide_eq_true hh
        go_wp2_with (go_at_call 57; refine hF.out.mono ?_; rintro e w2 ⟨rfl, hb⟩; have HW := Lib.hid hb; clear hb)
        go_quiet (fail)
        go_wp2
        go_ret2
        exact ⟨by rw [HR.out]; rfl, pw_below_drewN ((below_then HB.out HW.out).alloc (Nat.le_trans HB.out.size HW.out.size) _) _⟩
      · have hd : decide ((i : Int) < (j : Int) + (n : Int)) = false := decide_eq_false hh
        have hr : around (L s) i (k + 1) j = around (L s) i k (j + 1) := by
          conv => lhs; unfold around
          rw [HS.out, if_neg (by omega)]
        have HR := Lib.hid (HA.out.trans hr)
        clear hr
        go_wp2_with (go_at_call 57; refine hF.out.mono ?_; rintro e w2 ⟨rfl, hb⟩; have HW := Lib.hid hb; clear hb)
        go_roundg k
        case rel => exact ⟨j + 1, by simp, by omega, HR, Lib.hid ((below_then HB.out HW.out).alloc (Nat.le_trans HB.out.size HW.out.size) _)⟩
        case measure => omega
theorem boundary (s : ByteArray) (p : Nat) (w : World) (hT : Tabs w) (hs : s.size ≤ 1099511627776) (hp : p ≤ s.size) (hb : Bd (L s) p) :
    Calls Tryd.prog 56 #[.string s, .int .i64 p] w fun e w' => e = .returned (.bool true) ∧ Below w.heap.size w w' := by
  have HA := Lib.hid (around_ s p w hT hs hp)
  rw [around_bd _ _ hb] at HA
  obtain ⟨q, hq⟩ : ∃ q, (if p = (L s).length then p else p + sz ((L s).drop p)) = q := ⟨_, rfl⟩
  rw [hq] at HA
  have hp0 : decide ((p : Int) < 0) = false := decide_eq_false (by omega)
  have hp1 : decide ((s.size : Int) < (p : Int)) = false := decide_eq_false (by omega)
  clear hT hb hq
  go_enter Tryd.func56, Tryd.ntmps56
  go_wp2_with (go_at_call 63; refine HA.out.mono ?_; rintro e w2 ⟨rfl, hq⟩; have HW := Lib.hid hq; clear hq)
  go_ret
  exact ⟨rfl, HW.out⟩
theorem at_ (s : ByteArray) (p : Nat) (w : World) (hT : Tabs w) (hs : s.size ≤ 1099511627776) (hp : p < s.size) (hb : Bd (L s) p) :
    Calls Tryd.prog 40 #[.string s, .int .i64 p] w fun e w' => e = .returned (.tuple #[.agg #[.int .i32 (chr ((L s).drop p)), .int .i64 (sz ((L s).drop p))], .bool true]) ∧ Below w.heap.size w w' := by
  have HT := Lib.hid hT
  have HB := Lib.hid (fun w' (h : Below w.heap.size w w') => boundary s p w' (hT.below h) hs (by omega) hb)
  have hp0 : decide ((p : Int) < 0) = false := decide_eq_false (by omega)
  have hp1 : decide ((s.size : Int) ≤ (p : Int)) = false := decide_eq_false (by omega)
  have hp3 : (p : Int) ≤ (s.size : Int) := by omega
  have HU : Hid (uni (L (s.extract p s.size)) = (chr ((L s).drop p), sz ((L s).drop p))) := Lib.hid (by rw [L_drop]; rfl)
  generalize chr ((L s).drop p) = c at HU ⊢
  generalize sz ((L s).drop p) = n at HU ⊢
  have HF := Lib.hid (fun w' (h : Below w.heap.size w w') => first (s.extract p s.size) w' (hT.below h))
  rw [HU.out] at HF
  clear hT hb
  go_enter Tryd.func40, Tryd.ntmps40
  go_wp2_with (first | (go_at_call 56; refine (HB.out _ ((Below.refl _ _).alloc (Nat.le_refl _) _)).mono ?_; rintro e w2 ⟨rfl, hq⟩; have HW := Lib.hid hq; have HK := Lib.hid (blk_new hq); obtain ⟨c0, c1, f0, f1, g0, g1⟩ := Blk.two HK.out; clear hq) | (go_at_call 57; refine (HF.out _ (below_alloc HW.out)).mono ?_; rintro e w3 ⟨rfl, hq⟩; have HV := Lib.hid hq; obtain ⟨c0, c1, f0, f1, g0, g1⟩ := Blk.two (Blk.below HK.out hq); clear hq))
  (try simp only [Exit.inBlock, Exit.then])
  refine bodyPost_ret (by simp [results, Tryd.results40, go_sem, g0, g1]; rfl) rfl ?_
  exact ⟨rfl, ((below_then (below_alloc HW.out) HV.out).setCell (p := ⟨w.heap.size, 0, none⟩) (Nat.le_refl _) _).setCell (p := ⟨w.heap.size, 1, none⟩) (Nat.le_refl _) _⟩
/-- The end of the unit that begins at a boundary. -/
theorem next_ (s : ByteArray) (p : Nat) (w : World) (hT : Tabs w) (hs : s.size ≤ 1099511627776) (hp : p < s.size) (hb : Bd (L s) p) :
    Calls Tryd.prog 45 #[.string s, .int .i64 p] w fun e w' => e = .returned (.int .i64 ((p + sz ((L s).drop p) : Nat) : Int)) ∧ Below w.heap.size w w' := by
  have HA := Lib.hid (around_ s p w hT hs (by omega))
  rw [around_bd _ _ hb, if_neg (by rw [L_len]; omega)] at HA
  generalize p + sz ((L s).drop p) = q at HA ⊢
  have hp0 : decide ((p : Int) < 0) = false := decide_eq_false (by omega)
  have hm : min (p : Int) (s.size : Int) = p := by omega
  clear hT hb
  go_enter Tryd.func45, Tryd.ntmps45
  go_wp2_with (go_at_call 63; refine HA.out.mono ?_; rintro e w2 ⟨rfl, hq⟩; have HW := Lib.hid hq; clear hq)
  go_ret
  exact ⟨rfl, HW.out⟩
theorem down_ (s : ByteArray) (i : Nat) (w : World) (hT : Tabs w) (hs : s.size ≤ 1099511627776) (hi : i ≤ s.size) :
    Calls Tryd.prog 75 #[.string s, .int .i64 i] w fun e w' => e = .returned (.int .i64 ((around3 (L s) i).1 : Int)) ∧ Below w.heap.size w w' := by
  have HA := Lib.hid (around_ s i w hT hs hi)
  generalize around3 (L s) i = q at HA ⊢
  obtain ⟨a, b⟩ := q
  have hm : min (max (i : Int) 0) (s.size : Int) = i := by omega
  have hm' : min (i : Int) (s.size : Int) = i := by omega
  clear hT
  go_enter Tryd.func75, Tryd.ntmps75
  go_wp2_with (go_at_call 63; refine HA.out.mono ?_; rintro e w2 ⟨rfl, hq⟩; have HW := Lib.hid hq; clear hq)
  go_ret
  exact ⟨rfl, HW.out⟩
/-- The beginning of the unit that ends at a place. -/
theorem prev_ (s : ByteArray) (p q : Nat) (w : World) (hT : Tabs w) (hs : s.size ≤ 1099511627776) (hp : p < s.size) (hb : Bd (L s) p) (hq : p + sz ((L s).drop p) = q) :
    Calls Tryd.prog 64 #[.string s, .int .i64 q] w fun e w' => e = .returned (.int .i64 (p : Int)) ∧ Below w.heap.size w w' := by
  have h1 := sz_pos _ (drop_ne (L s) p (by rw [L_len]; exact hp))
  have hl := sz_le ((L s).drop p)
  rw [List.length_drop, L_len] at hl
  have HD := Lib.hid (down_ s (q - 1) w hT hs (by omega))
  rw [← hq, around_end _ _ hb (by rw [L_len]; exact hp), hq] at HD
  have hc : ((q - 1 : Nat) : Int) = (q : Int) - 1 := by omega
  have hq0 : decide ((q : Int) ≤ 0) = false := decide_eq_false (by omega)
  have hm : min ((q : Int) - 1) (s.size : Int) = (q : Int) - 1 := by omega
  rw [hc] at HD
  have hq1 : 1 ≤ q := by omega
  have hq2 : q ≤ s.size := by omega
  clear hT hb hl h1 hc hq
  go_enter Tryd.func64, Tryd.ntmps64
  go_wp2_with (go_at_call 75; refine HD.out.mono ?_; rintro e w2 ⟨rfl, hq⟩; have HW := Lib.hid hq; clear hq)
  go_ret
  exact ⟨rfl, HW.out⟩
end U
end Go.Proofs.YtceomobdolkfgaaDoor
/- width.Class and width.Cells: the classes as ClusP tells them. -/
set_option linter.unusedVariables false
namespace Go.Proofs.YtceomobdolkfgaaDoor
open Go.RowKit Go.Proofs.YtceomobdolkfgaaDoorW.PrintWords Go.Proofs.YtceomobdolkfgaaDoor.Sep
namespace U
set_option maxHeartbeats 1600000
set_option maxRecDepth 100000
theorem within_eq (l : List Int) (c : Int) : Within.withinF l c = within l c := by
  have hs : ∀ p k i j, Within.srch p k i j = srch p k i j := by
    intro p k
    induction k with
    | zero => intro i j; rfl
    | succ k ih => intro i j; unfold Within.srch srch; rw [ih, ih]
  have hp : Within.place l c = place l c := by unfold Within.place place; rw [hs]; rfl
  unfold Within.withinF within
  rw [hp]
  rfl
theorem kd_new (w : World) (e : TypeId) (xs : List Int) (hl : xs.length ≤ 1000) : Kd.C (Kd.int .i32) (w.alloc (.cells (xs.map (Value.int .i32)).toArray e)) (some ⟨w.heap.size, 0, none⟩) xs.length xs := by
  refine Kd.C_of_reads (d := 0) ⟨rfl, by omega, fun _ => ⟨_, rfl, fun j hj => ?_⟩⟩
  have h := (Blk.new w e (xs.map (Value.int .i32)).toArray).cell j
  have ha : (⟨w.heap.size, 0, none⟩ : Addr).add j = ⟨w.heap.size, j, none⟩ := by unfold Addr.add; split <;> simp_all
  rw [ha, h]
  simp [List.getD, List.getElem?_eq_getElem hj, hj]
theorem marks_ (w : World) : Calls Tryd.prog 59 #[] w fun e w' => ∃ A c, e = .returned (.slice A marksL.length c) ∧ Kd.C (Kd.int .i32) w' A marksL.length marksL ∧ Below w.heap.size w w' := by
  have HK := Lib.hid (kd_new w 21 marksL (by decide))
  go_enter Tryd.func59, Tryd.ntmps59
  go_wp2
  go_ret
  exact ⟨_, _, rfl, HK.out, below_one _ _⟩
theorem wides_ (w : World) : Calls Tryd.prog 60 #[] w fun e w' => ∃ A c, e = .returned (.slice A widesL.length c) ∧ Kd.C (Kd.int .i32) w' A widesL.length widesL ∧ Below w.heap.size w w' := by
  have HK := Lib.hid (kd_new w 21 widesL (by decide))
  go_enter Tryd.func60, Tryd.ntmps60
  go_wp2
  go_ret
  exact ⟨_, _, rfl, HK.out, below_one _ _⟩
theorem class_ (c : Int) (w : World) : Calls Tryd.prog 41 #[.int .i32 c] w fun e w' => e = .returned (.int .i64 (cls c)) ∧ Below w.heap.size w w' := by
  obtain ⟨k, hk⟩ : ∃ k, cls c = k := ⟨_, rfl⟩
  rw [hk]
  have HM := Lib.hid marks_
  have HV := Lib.hid wides_
  unfold cls at hk
  by_cases h1 : c < 0 ∨ 1114111 < c ∨ (55296 ≤ c ∧ c ≤ 57343)
  · rw [if_pos h1] at hk
    subst hk
    go_enter Tryd.func41, Tryd.ntmps41
    go_wp2
    all_goals first | (go_ret; exact ⟨rfl, Below.refl _ _⟩) | (exfalso; omega)
  · rw [if_neg h1] at hk
    have n1 : ¬ c < 0 := by omega
    have n2 : ¬ 1114111 < c := by omega
    by_cases h2 : c = 10
    · rw [if_pos h2] at hk
      subst hk
      subst h2
      go_enter Tryd.func41, Tryd.ntmps41
      go_wp2
      go_ret
      exact ⟨rfl, Below.refl _ _⟩
    · rw [if_neg h2] at hk
      by_cases h3 : c < 32 ∨ (127 ≤ c ∧ c ≤ 159)
      · rw [if_pos h3] at hk
        subst hk
        go_enter Tryd.func41, Tryd.ntmps41
        go_wp2
        all_goals first | (go_ret; exact ⟨rfl, Below.refl _ _⟩) | (exfalso; omega)
      · rw [if_neg h3] at hk
        have hd1 : decide (c < 0) = false := decide_eq_false n1
        have hd2 : decide (1114111 < c) = false := decide_eq_false n2
        have hd3 : decide (c < 32) = false := decide_eq_false (by omega)
        have hd4 : (c == 10) = false := by simpa using h2
        cases hm : within marksL c with
        | true =>
          rw [hm] at hk
          have hk' : 3 = k := hk
          subst hk'
          clear hk
          go_enter Tryd.func41, Tryd.ntmps41
          go_wp2_with (first | (go_at_call 59; refine (HM.out _).mono ?_; rintro e w1 ⟨A1, c1, rfl, hr1, hb1⟩; have HR1 := Lib.hid hr1; have HB1 := Lib.hid hb1; clear hr1 hb1) | (go_at_call 58; refine (Within.within A1 c1 marksL c _ HR1.out (by decide)).mono ?_; rw [within_eq, hm]; rintro e w2 ⟨rfl, hb2⟩; have HB2 := Lib.hid hb2; clear hb2 HR1))
          all_goals first | (go_ret; exact ⟨rfl, below_then HB1.out HB2.out⟩) | (exfalso; omega)
        | false =>
          rw [hm] at hk
          cases hv : within widesL c with
          | true =>
            rw [hv] at hk
            have hk' : 4 = k := hk
            subst hk'
            clear hk
            go_enter Tryd.func41, Tryd.ntmps41
            go_wp2_with (first | (go_at_call 59; refine (HM.out _).mono ?_; rintro e w1 ⟨A1, c1, rfl, hr1, hb1⟩; have HR1 := Lib.hid hr1; have HB1 := Lib.hid hb1; clear hr1 hb1) | (go_at_call 60; refine (HV.out _).mono ?_; rintro e w3 ⟨A3, c3, rfl, hr3, hb3⟩; have HR3 := Lib.hid hr3; have HB3 := Lib.hid hb3; clear hr3 hb3) | (go_at_call 58; refine (Within.within A1 c1 marksL c _ HR1.out (by decide)).mono ?_; rw [within_eq, hm]; rintro e w2 ⟨rfl, hb2⟩; have HB2 := Lib.hid hb2; clear hb2 HR1) | (go_at_call 58; refine (Within.within A3 c3 widesL c _ HR3.out (by decide)).mono ?_; rw [within_eq, hv]; rintro e w4 ⟨rfl, hb4⟩; have HB4 := Lib.hid hb4; clear hb4))
            all_goals first | (go_ret; exact ⟨rfl, below_then (below_then (below_then HB1.out HB2.out) HB3.out) HB4.out⟩) | (exfalso; omega)
          | false =>
            rw [hv] at hk
            have hk' : 0 = k := hk
            subst hk'
            clear hk
            go_enter Tryd.func41, Tryd.ntmps41
            go_wp2_with (first | (go_at_call 59; refine (HM.out _).mono ?_; rintro e w1 ⟨A1, c1, rfl, hr1, hb1⟩; have HR1 := Lib.hid hr1; have HB1 := Lib.hid hb1; clear hr1 hb1) | (go_at_call 60; refine (HV.out _).mono ?_; rintro e w3 ⟨A3, c3, rfl, hr3, hb3⟩; have HR3 := Lib.hid hr3; have HB3 := Lib.hid hb3; clear hr3 hb3) | (go_at_call 58; refine (Within.within A1 c1 marksL c _ HR1.out (by decide)).mono ?_; rw [within_eq, hm]; rintro e w2 ⟨rfl, hb2⟩; have HB2 := Lib.hid hb2; clear hb2 HR1) | (go_at_call 58; refine (Within.within A3 c3 widesL c _ HR3.out (by decide)).mono ?_; rw [within_eq, hv]; rintro e w4 ⟨rfl, hb4⟩; have HB4 := Lib.hid hb4; clear hb4))
            all_goals first | (go_ret; exact ⟨rfl, below_then (below_then (below_then HB1.out HB2.out) HB3.out) HB4.out⟩) | (exfalso; omega)
theorem cells_ (c : Int) (w : World) : Calls Tryd.prog 47 #[.int .i32 c] w fun e w' => e = .returned (.int .i64 (cells c)) ∧ Below w.heap.size w w' := by
  have HC := Lib.hid (class_ c w)
  obtain ⟨r, hr⟩ : ∃ r, cells c = r := ⟨_, rfl⟩
  rw [hr]
  unfold cells at hr
  rcases cls_range c with e | e | e | e | e | e <;> rw [e] at HC hr
  · have hr' : 1 = r := hr
    subst hr'; clear hr
    go_enter Tryd.func47, Tryd.ntmps47
    go_wp2_with (go_at_call 41; refine HC.out.mono ?_; rintro e w2 ⟨rfl, hb⟩; have HB := Lib.hid hb; clear hb)
    go_ret
    exact ⟨rfl, HB.out⟩
  · have hr' : 0 = r := hr
    subst hr'; clear hr
    go_enter Tryd.func47, Tryd.ntmps47
    go_wp2_with (go_at_call 41; refine HC.out.mono ?_; rintro e w2 ⟨rfl, hb⟩; have HB := Lib.hid hb; clear hb)
    go_ret
    exact ⟨rfl, HB.out⟩
  · by_cases hc : c ≤ 127
    · have hr' : 2 = r := by rw [← hr]; simp [hc]
      subst hr'; clear hr
      have hd : decide (c ≤ 127) = true := decide_eq_true hc
      go_enter Tryd.func47, Tryd.ntmps47
      go_wp2_with (go_at_call 41; refine HC.out.mono ?_; rintro e w2 ⟨rfl, hb⟩; have HB := Lib.hid hb; clear hb)
      go_ret
      exact ⟨rfl, HB.out⟩
    · have hr' : 1 = r := by rw [← hr]; simp [hc]
      subst hr'; clear hr
      have hd : decide (c ≤ 127) = false := decide_eq_false hc
      go_enter Tryd.func47, Tryd.ntmps47
      go_wp2_with (go_at_call 41; refine HC.out.mono ?_; rintro e w2 ⟨rfl, hb⟩; have HB := Lib.hid hb; clear hb)
      go_ret
      exact ⟨rfl, HB.out⟩
  · have hr' : 1 = r := hr
    subst hr'; clear hr
    go_enter Tryd.func47, Tryd.ntmps47
    go_wp2_with (go_at_call 41; refine HC.out.mono ?_; rintro e w2 ⟨rfl, hb⟩; have HB := Lib.hid hb; clear hb)
    go_ret
    exact ⟨rfl, HB.out⟩
  · have hr' : 2 = r := hr
    subst hr'; clear hr
    go_enter Tryd.func47, Tryd.ntmps47
    go_wp2_with (go_at_call 41; refine HC.out.mono ?_; rintro e w2 ⟨rfl, hb⟩; have HB := Lib.hid hb; clear hb)
    go_ret
    exact ⟨rfl, HB.out⟩
  · have hr' : 1 = r := hr
    subst hr'; clear hr
    go_enter Tryd.func47, Tryd.ntmps47
    go_wp2_with (go_at_call 41; refine HC.out.mono ?_; rintro e w2 ⟨rfl, hb⟩; have HB := Lib.hid hb; clear hb)
    go_ret
    exact ⟨rfl, HB.out⟩
end U
end Go.Proofs.YtceomobdolkfgaaDoor
/- Is a text the beginning of an encoding? utf8.FullRuneInString and unit.Begun. -/
set_option linter.unusedVariables false
namespace Go.Proofs.YtceomobdolkfgaaDoor
open Go.RowKit Go.Proofs.YtceomobdolkfgaaDoorW.PrintWords Go.Proofs.YtceomobdolkfgaaDoor.Sep Go.Lib
namespace U
def fullN (n b1 b2 sz lo hi : Nat) : Bool :=
  if sz ≤ n then true
  else if 1 < n ∧ (b1 < lo ∨ hi < b1) then true
  else if 2 < n ∧ (b2 < 128 ∨ 191 < b2) then true
  else false
theorem full_N (l : Bs) (h : l.length ≠ 0) : full l = fullN l.length (l.getD 1 0).toNat (l.getD 2 0).toNat (firstT (l.getD 0 0).toNat % 8) (accLo (firstT (l.getD 0 0).toNat / 16)) (accHi (firstT (l.getD 0 0).toNat / 16)) := by
  unfold full fullN
  rw [if_neg h]
theorem getL (s : ByteArray) (k : Nat) (h : k < s.size) : (L s).getD k 0 = s[k] := by
  unfold L
  rw [List.getD_eq_getElem?_getD, List.getElem?_eq_getElem (by rw [Array.length_toList]; exact h)]
  rfl
set_option maxHeartbeats 4000000
set_option maxRecDepth 100000
theorem fullrune (s : ByteArray) (w : World) (hT : Tabs w) (h0 : s.size ≠ 0) :
    Calls Tryd.prog 55 #[.string s] w fun e w' => e = .returned (.bool (full (L s))) ∧ Below w.heap.size w w' := by
  have hz0 : (0 : Int) < (s.size : Int) := by omega
  have hz : ((s.size : Int) == 0) = false := by simpa using h0
  rw [full_N _ (by rw [L_len]; exact h0), L_len]
  obtain ⟨x0, hx0⟩ : ∃ x0, (L s).getD 0 0 = x0 := ⟨_, rfl⟩
  obtain ⟨x1, hx1⟩ : ∃ x1, (L s).getD 1 0 = x1 := ⟨_, rfl⟩
  obtain ⟨x2, hx2⟩ : ∃ x2, (L s).getD 2 0 = x2 := ⟨_, rfl⟩
  rw [hx0, hx1, hx2]
  have hs0 : s[0]'(by omega) = x0 := by rw [← hx0]; exact (getL s 0 (by omega)).symm
  have l0 := x0.toNat_lt; have l1 := x1.toNat_lt; have l2 := x2.toNat_lt
  have hc0 := hT.1 x0.toNat (by omega)
  rcases firstT_each x0.toNat with hX | hX | hX | hX | hX | hX | hX | hX | hX
  · rw [hX] at hc0 ⊢
    clear hT
    have hq : fullN s.size x1.toNat x2.toNat (240 % 8) (accLo (240 / 16)) (accHi (240 / 16)) = true := by unfold fullN; rw [if_pos (by omega)]
    rw [hq]
    clear hq
    go_enter Tryd.func55, Tryd.ntmps55
    go_wp2
    go_ret
    exact ⟨rfl, Below.refl _ _⟩
  · rw [hX] at hc0 ⊢
    clear hT
    have hq : fullN s.size x1.toNat x2.toNat (241 % 8) (accLo (241 / 16)) (accHi (241 / 16)) = true := by unfold fullN; rw [if_pos (by omega)]
    rw [hq]
    clear hq
    go_enter Tryd.func55, Tryd.ntmps55
    go_wp2
    go_ret
    exact ⟨rfl, Below.refl _ _⟩
  · rw [hX] at hc0 ⊢
    have ha0 := (hT.2 0 (by omega)).1
    have ha1 := (hT.2 0 (by omega)).2
    have hA : fullN s.size x1.toNat x2.toNat (2 % 8) (accLo (2 / 16)) (accHi (2 / 16)) = fullN s.size x1.toNat x2.toNat 2 128 191 := rfl
    rw [hA]
    clear hA hX
    simp only [accLo, accHi, Nat.reduceMul, Nat.reduceAdd, Nat.reduceEqDiff, if_true, if_false, Nat.reduceMod, Nat.reduceDiv] at ha0 ha1
    clear hT
    by_cases hn : 2 ≤ s.size
    · have hq : fullN s.size x1.toNat x2.toNat 2 128 191 = true := by unfold fullN; rw [if_pos hn]
      rw [hq]
      clear hq
      have hn1 : (2 : Int) ≤ (s.size : Int) := by omega
      go_enter Tryd.func55, Tryd.ntmps55
      go_wp2
      go_ret
      exact ⟨rfl, Below.refl _ _⟩
    · have hn1 : ¬ ((2 : Int) ≤ (s.size : Int)) := by omega
      obtain hN : s.size = 1 := by omega
      have hz1 : decide ((1 : Int) < (s.size : Int)) = false := by simp [hN]
      have hz2 : decide ((2 : Int) < (s.size : Int)) = false := by simp [hN]
      obtain ⟨r, hr⟩ : ∃ r, fullN s.size x1.toNat x2.toNat 2 128 191 = r := ⟨_, rfl⟩
      rw [hr]
      unfold fullN at hr
      rw [if_neg (by omega)] at hr
      rw [if_neg (by omega), if_neg (by omega)] at hr
      subst hr
      go_enter Tryd.func55, Tryd.ntmps55
      go_wp2
      go_quiet (fail)
      go_wp2
      go_ret
      exact ⟨rfl, pw_below_drewN ((Below.refl _ _).alloc (Nat.le_refl _) _) _⟩
  · rw [hX] at hc0 ⊢
    have ha0 := (hT.2 1 (by omega)).1
    have ha1 := (hT.2 1 (by omega)).2
    have hA : fullN s.size x1.toNat x2.toNat (19 % 8) (accLo (19 / 16)) (accHi (19 / 16)) = fullN s.size x1.toNat x2.toNat 3 160 191 := rfl
    rw [hA]
    clear hA hX
    simp only [accLo, accHi, Nat.reduceMul, Nat.reduceAdd, Nat.reduceEqDiff, if_true, if_false, Nat.reduceMod, Nat.reduceDiv] at ha0 ha1
    clear hT
    by_cases hn : 3 ≤ s.size
    · have hq : fullN s.size x1.toNat x2.toNat 3 160 191 = true := by unfold fullN; rw [if_pos hn]
      rw [hq]
      clear hq
      have hn1 : (3 : Int) ≤ (s.size : Int) := by omega
      go_enter Tryd.func55, Tryd.ntmps55
      go_wp2
      go_ret
      exact ⟨rfl, Below.refl _ _⟩
    · have hn1 : ¬ ((3 : Int) ≤ (s.size : Int)) := by omega
      rcases (by omega : s.size = 1 ∨ s.size = 2) with hN | hN
      · have hz1 : decide ((1 : Int) < (s.size : Int)) = false := by simp [hN]
        have hz2 : decide ((2 : Int) < (s.size : Int)) = false := by simp [hN]
        obtain ⟨r, hr⟩ : ∃ r, fullN s.size x1.toNat x2.toNat 3 160 191 = r := ⟨_, rfl⟩
        rw [hr]
        unfold fullN at hr
        rw [if_neg (by omega)] at hr
        rw [if_neg (by omega), if_neg (by omega)] at hr
        subst hr
        go_enter Tryd.func55, Tryd.ntmps55
        go_wp2
        go_quiet (fail)
        go_wp2
        go_ret
        exact ⟨rfl, pw_below_drewN ((Below.refl _ _).alloc (Nat.le_refl _) _) _⟩
      · have hz1 : decide ((1 : Int) < (s.size : Int)) = true := by simp [hN]
        have hz2 : decide ((2 : Int) < (s.size : Int)) = false := by simp [hN]
        have hz1p : (1 : Int) < (s.size : Int) := by omega
        have hs1 : s[1]'(by omega) = x1 := by rw [← hx1]; exact (getL s 1 (by omega)).symm
        obtain ⟨r, hr⟩ : ∃ r, fullN s.size x1.toNat x2.toNat 3 160 191 = r := ⟨_, rfl⟩
        rw [hr]
        unfold fullN at hr
        rw [if_neg (by omega)] at hr
        by_cases q1 : (x1.toNat : Int) < 160
        · have q1d : decide ((x1.toNat : Int) < 160) = true := decide_eq_true q1
          rw [if_pos (by omega)] at hr
          subst hr
          go_enter Tryd.func55, Tryd.ntmps55
          go_wp2
          go_quiet (fail)
          go_wp2
          go_ret
          exact ⟨rfl, pw_below_drewN ((Below.refl _ _).alloc (Nat.le_refl _) _) _⟩
        · have q1d : decide ((x1.toNat : Int) < 160) = false := decide_eq_false q1
          by_cases q2 : (191 : Int) < (x1.toNat : Int)
          · have q2d : decide ((191 : Int) < (x1.toNat : Int)) = true := decide_eq_true q2
            rw [if_pos (by omega)] at hr
            subst hr
            go_enter Tryd.func55, Tryd.ntmps55
            go_wp2
            go_quiet (fail)
            go_wp2
            go_ret
            exact ⟨rfl, pw_below_drewN ((Below.refl _ _).alloc (Nat.le_refl _) _) _⟩
          · have q2d : decide ((191 : Int) < (x1.toNat : Int)) = false := decide_eq_false q2
            rw [if_neg (by omega), if_neg (by omega)] at hr
            subst hr
            go_enter Tryd.func55, Tryd.ntmps55
            go_wp2
            go_quiet (fail)
            go_wp2
            go_ret
            exact ⟨rfl, pw_below_drewN ((Below.refl _ _).alloc (Nat.le_refl _) _) _⟩
  · rw [hX] at hc0 ⊢
    have ha0 := (hT.2 0 (by omega)).1
    have ha1 := (hT.2 0 (by omega)).2
    have hA : fullN s.size x1.toNat x2.toNat (3 % 8) (accLo (3 / 16)) (accHi (3 / 16)) = fullN s.size x1.toNat x2.toNat 3 128 191 := rfl
    rw [hA]
    clear hA hX
    simp only [accLo, accHi, Nat.reduceMul, Nat.reduceAdd, Nat.reduceEqDiff, if_true, if_false, Nat.reduceMod, Nat.reduceDiv] at ha0 ha1
    clear hT
    by_cases hn : 3 ≤ s.size
    · have hq : fullN s.size x1.toNat x2.toNat 3 128 191 = true := by unfold fullN; rw [if_pos hn]
      rw [hq]
      clear hq
      have hn1 : (3 : Int) ≤ (s.size : Int) := by omega
      go_enter Tryd.func55, Tryd.ntmps55
      go_wp2
      go_ret
      exact ⟨rfl, Below.refl _ _⟩
    · have hn1 : ¬ ((3 : Int) ≤ (s.size : Int)) := by omega
      rcases (by omega : s.size = 1 ∨ s.size = 2) with hN | hN
      · have hz1 : decide ((1 : Int) < (s.size : Int)) = false := by simp [hN]
        have hz2 : decide ((2 : Int) < (s.size : Int)) = false := by simp [hN]
        obtain ⟨r, hr⟩ : ∃ r, fullN s.size x1.toNat x2.toNat 3 128 191 = r := ⟨_, rfl⟩
        rw [hr]
        unfold fullN at hr
        rw [if_neg (by omega)] at hr
        rw [if_neg (by omega), if_neg (by omega)] at hr
        subst hr
        go_enter Tryd.func55, Tryd.ntmps55
        go_wp2
        go_quiet (fail)
        go_wp2
        go_ret
        exact ⟨rfl, pw_below_drewN ((Below.refl _ _).alloc (Nat.le_refl _) _) _⟩
      · have hz1 : decide ((1 : Int) < (s.size : Int)) = true := by simp [hN]
        have hz2 : decide ((2 : Int) < (s.size : Int)) = false := by simp [hN]
        have hz1p : (1 : Int) < (s.size : Int) := by omega
        have hs1 : s[1]'(by omega) = x1 := by rw [← hx1]; exact (getL s 1 (by omega)).symm
        obtain ⟨r, hr⟩ : ∃ r, fullN s.size x1.toNat x2.toNat 3 128 191 = r := ⟨_, rfl⟩
        rw [hr]
        unfold fullN at hr
        rw [if_neg (by omega)] at hr
        by_cases q1 : (x1.toNat : Int) < 128
        · have q1d : decide ((x1.toNat : Int) < 128) = true := decide_eq_true q1
          rw [if_pos (by omega)] at hr
          subst hr
          go_enter Tryd.func55, Tryd.ntmps55
          go_wp2
          go_quiet (fail)
          go_wp2
          go_ret
          exact ⟨rfl, pw_below_drewN ((Below.refl _ _).alloc (Nat.le_refl _) _) _⟩
        · have q1d : decide ((x1.toNat : Int) < 128) = false := decide_eq_false q1
          by_cases q2 : (191 : Int) < (x1.toNat : Int)
          · have q2d : decide ((191 : Int) < (x1.toNat : Int)) = true := decide_eq_true q2
            rw [if_pos (by omega)] at hr
            subst hr
            go_enter Tryd.func55, Tryd.ntmps55
            go_wp2
            go_quiet (fail)
            go_wp2
            go_ret
            exact ⟨rfl, pw_below_drewN ((Below.refl _ _).alloc (Nat.le_refl _) _) _⟩
          · have q2d : decide ((191 : Int) < (x1.toNat : Int)) = false := decide_eq_false q2
            rw [if_neg (by omega), if_neg (by omega)] at hr
            subst hr
            go_enter Tryd.func55, Tryd.ntmps55
            go_wp2
            go_quiet (fail)
            go_wp2
            go_ret
            exact ⟨rfl, pw_below_drewN ((Below.refl _ _).alloc (Nat.le_refl _) _) _⟩
  · rw [hX] at hc0 ⊢
    have ha0 := (hT.2 2 (by omega)).1
    have ha1 := (hT.2 2 (by omega)).2
    have hA : fullN s.size x1.toNat x2.toNat (35 % 8) (accLo (35 / 16)) (accHi (35 / 16)) = fullN s.size x1.toNat x2.toNat 3 128 159 := rfl
    rw [hA]
    clear hA hX
    simp only [accLo, accHi, Nat.reduceMul, Nat.reduceAdd, Nat.reduceEqDiff, if_true, if_false, Nat.reduceMod, Nat.reduceDiv] at ha0 ha1
    clear hT
    by_cases hn : 3 ≤ s.size
    · have hq : fullN s.size x1.toNat x2.toNat 3 128 159 = true := by unfold fullN; rw [if_pos hn]
      rw [hq]
      clear hq
      have hn1 : (3 : Int) ≤ (s.size : Int) := by omega
      go_enter Tryd.func55, Tryd.ntmps55
      go_wp2
      go_ret
      exact ⟨rfl, Below.refl _ _⟩
    · have hn1 : ¬ ((3 : Int) ≤ (s.size : Int)) := by omega
      rcases (by omega : s.size = 1 ∨ s.size = 2) with hN | hN
      · have hz1 : decide ((1 : Int) < (s.size : Int)) = false := by simp [hN]
        have hz2 : decide ((2 : Int) < (s.size : Int)) = false := by simp [hN]
        obtain ⟨r, hr⟩ : ∃ r, fullN s.size x1.toNat x2.toNat 3 128 159 = r := ⟨_, rfl⟩
        rw [hr]
        unfold fullN at hr
        rw [if_neg (by omega)] at hr
        rw [if_neg (by omega), if_neg (by omega)] at hr
        subst hr
        go_enter Tryd.func55, Tryd.ntmps55
        go_wp2
        go_quiet (fail)
        go_wp2
        go_ret
        exact ⟨rfl, pw_below_drewN ((Below.refl _ _).alloc (Nat.le_refl _) _) _⟩
      · have hz1 : decide ((1 : Int) < (s.size : Int)) = true := by simp [hN]
        have hz2 : decide ((2 : Int) < (s.size : Int)) = false := by simp [hN]
        have hz1p : (1 : Int) < (s.size : Int) := by omega
        have hs1 : s[1]'(by omega) = x1 := by rw [← hx1]; exact (getL s 1 (by omega)).symm
        obtain ⟨r, hr⟩ : ∃ r, fullN s.size x1.toNat x2.toNat 3 128 159 = r := ⟨_, rfl⟩
        rw [hr]
        unfold fullN at hr
        rw [if_neg (by omega)] at hr
        by_cases q1 : (x1.toNat : Int) < 128
        · have q1d : decide ((x1.toNat : Int) < 128) = true := decide_eq_true q1
          rw [if_pos (by omega)] at hr
          subst hr
          go_enter Tryd.func55, Tryd.ntmps55
          go_wp2
          go_quiet (fail)
          go_wp2
          go_ret
          exact ⟨rfl, pw_below_drewN ((Below.refl _ _).alloc (Nat.le_refl _) _) _⟩
        · have q1d : decide ((x1.toNat : Int) < 128) = false := decide_eq_false q1
          by_cases q2 : (159 : Int) < (x1.toNat : Int)
          · have q2d : decide ((159 : Int) < (x1.toNat : Int)) = true := decide_eq_true q2
            rw [if_pos (by omega)] at hr
            subst hr
            go_enter Tryd.func55, Tryd.ntmps55
            go_wp2
            go_quiet (fail)
            go_wp2
            go_ret
            exact ⟨rfl, pw_below_drewN ((Below.refl _ _).alloc (Nat.le_refl _) _) _⟩
          · have q2d : decide ((159 : Int) < (x1.toNat : Int)) = false := decide_eq_false q2
            rw [if_neg (by omega), if_neg (by omega)] at hr
            subst hr
            go_enter Tryd.func55, Tryd.ntmps55
            go_wp2
            go_quiet (fail)
            go_wp2
            go_ret
            exact ⟨rfl, pw_below_drewN ((Below.refl _ _).alloc (Nat.le_refl _) _) _⟩
  · rw [hX] at hc0 ⊢
    have ha0 := (hT.2 3 (by omega)).1
    have ha1 := (hT.2 3 (by omega)).2
    have hA : fullN s.size x1.toNat x2.toNat (52 % 8) (accLo (52 / 16)) (accHi (52 / 16)) = fullN s.size x1.toNat x2.toNat 4 144 191 := rfl
    rw [hA]
    clear hA hX
    simp only [accLo, accHi, Nat.reduceMul, Nat.reduceAdd, Nat.reduceEqDiff, if_true, if_false, Nat.reduceMod, Nat.reduceDiv] at ha0 ha1
    clear hT
    by_cases hn : 4 ≤ s.size
    · have hq : fullN s.size x1.toNat x2.toNat 4 144 191 = true := by unfold fullN; rw [if_pos hn]
      rw [hq]
      clear hq
      have hn1 : (4 : Int) ≤ (s.size : Int) := by omega
      go_enter Tryd.func55, Tryd.ntmps55
      go_wp2
      go_ret
      exact ⟨rfl, Below.refl _ _⟩
    · have hn1 : ¬ ((4 : Int) ≤ (s.size : Int)) := by omega
      rcases (by omega : s.size = 1 ∨ s.size = 2 ∨ s.size = 3) with hN | hN | hN
      · have hz1 : decide ((1 : Int) < (s.size : Int)) = false := by simp [hN]
        have hz2 : decide ((2 : Int) < (s.size : Int)) = false := by simp [hN]
        obtain ⟨r, hr⟩ : ∃ r, fullN s.size x1.toNat x2.toNat 4 144 191 = r := ⟨_, rfl⟩
        rw [hr]
        unfold fullN at hr
        rw [if_neg (by omega)] at hr
        rw [if_neg (by omega), if_neg (by omega)] at hr
        subst hr
        go_enter Tryd.func55, Tryd.ntmps55
        go_wp2
        go_quiet (fail)
        go_wp2
        go_ret
        exact ⟨rfl, pw_below_drewN ((Below.refl _ _).alloc (Nat.le_refl _) _) _⟩
      · have hz1 : decide ((1 : Int) < (s.size : Int)) = true := by simp [hN]
        have hz2 : decide ((2 : Int) < (s.size : Int)) = false := by simp [hN]
        have hz1p : (1 : Int) < (s.size : Int) := by omega
        have hs1 : s[1]'(by omega) = x1 := by rw [← hx1]; exact (getL s 1 (by omega)).symm
        obtain ⟨r, hr⟩ : ∃ r, fullN s.size x1.toNat x2.toNat 4 144 191 = r := ⟨_, rfl⟩
        rw [hr]
        unfold fullN at hr
        rw [if_neg (by omega)] at hr
        by_cases q1 : (x1.toNat : Int) < 144
        · have q1d : decide ((x1.toNat : Int) < 144) = true := decide_eq_true q1
          rw [if_pos (by omega)] at hr
          subst hr
          go_enter Tryd.func55, Tryd.ntmps55
          go_wp2
          go_quiet (fail)
          go_wp2
          go_ret
          exact ⟨rfl, pw_below_drewN ((Below.refl _ _).alloc (Nat.le_refl _) _) _⟩
        · have q1d : decide ((x1.toNat : Int) < 144) = false := decide_eq_false q1
          by_cases q2 : (191 : Int) < (x1.toNat : Int)
          · have q2d : decide ((191 : Int) < (x1.toNat : Int)) = true := decide_eq_true q2
            rw [if_pos (by omega)] at hr
            subst hr
            go_enter Tryd.func55, Tryd.ntmps55
            go_wp2
            go_quiet (fail)
            go_wp2
            go_ret
            exact ⟨rfl, pw_below_drewN ((Below.refl _ _).alloc (Nat.le_refl _) _) _⟩
          · have q2d : decide ((191 : Int) < (x1.toNat : Int)) = false := decide_eq_false q2
            rw [if_neg (by omega), if_neg (by omega)] at hr
            subst hr
            go_enter Tryd.func55, Tryd.ntmps55
            go_wp2
            go_quiet (fail)
            go_wp2
            go_ret
            exact ⟨rfl, pw_below_drewN ((Below.refl _ _).alloc (Nat.le_refl _) _) _⟩
      · have hz1 : decide ((1 : Int) < (s.size : Int)) = true := by simp [hN]
        have hz2 : decide ((2 : Int) < (s.size : Int)) = true := by simp [hN]
        have hz1p : (1 : Int) < (s.size : Int) := by omega
        have hs1 : s[1]'(by omega) = x1 := by rw [← hx1]; exact (getL s 1 (by omega)).symm
        have hz2p : (2 : Int) < (s.size : Int) := by omega
        have hs2 : s[2]'(by omega) = x2 := by rw [← hx2]; exact (getL s 2 (by omega)).symm
        obtain ⟨r, hr⟩ : ∃ r, fullN s.size x1.toNat x2.toNat 4 144 191 = r := ⟨_, rfl⟩
        rw [hr]
        unfold fullN at hr
        rw [if_neg (by omega)] at hr
        by_cases q1 : (x1.toNat : Int) < 144
        · have q1d : decide ((x1.toNat : Int) < 144) = true := decide_eq_true q1
          rw [if_pos (by omega)] at hr
          subst hr
          go_enter Tryd.func55, Tryd.ntmps55
          go_wp2
          go_quiet (fail)
          go_wp2
          go_ret
          exact ⟨rfl, pw_below_drewN ((Below.refl _ _).alloc (Nat.le_refl _) _) _⟩
        · have q1d : decide ((x1.toNat : Int) < 144) = false := decide_eq_false q1
          by_cases q2 : (191 : Int) < (x1.toNat : Int)
          · have q2d : decide ((191 : Int) < (x1.toNat : Int)) = true := decide_eq_true q2
            rw [if_pos (by omega)] at hr
            subst hr
            go_enter Tryd.func55, Tryd.ntmps55
            go_wp2
            go_quiet (fail)
            go_wp2
            go_ret
            exact ⟨rfl, pw_below_drewN ((Below.refl _ _).alloc (Nat.le_refl _) _) _⟩
          · have q2d : decide ((191 : Int) < (x1.toNat : Int)) = false := decide_eq_false q2
            by_cases q3 : (x2.toNat : Int) < 128
            · have q3d : decide ((x2.toNat : Int) < 128) = true := decide_eq_true q3
              rw [if_neg (by omega), if_pos (by omega)] at hr
              subst hr
              go_enter Tryd.func55, Tryd.ntmps55
              go_wp2
              go_quiet (fail)
              go_wp2
              go_ret
              exact ⟨rfl, pw_below_drewN ((Below.refl _ _).alloc (Nat.le_refl _) _) _⟩
            · have q3d : decide ((x2.toNat : Int) < 128) = false := decide_eq_false q3
              by_cases q4 : (191 : Int) < (x2.toNat : Int)
              · have q4d : decide ((191 : Int) < (x2.toNat : Int)) = true := decide_eq_true q4
                rw [if_neg (by omega), if_pos (by omega)] at hr
                subst hr
                go_enter Tryd.func55, Tryd.ntmps55
                go_wp2
                go_quiet (fail)
                go_wp2
                go_ret
                exact ⟨rfl, pw_below_drewN ((Below.refl _ _).alloc (Nat.le_refl _) _) _⟩
              · have q4d : decide ((191 : Int) < (x2.toNat : Int)) = false := decide_eq_false q4
                rw [if_neg (by omega), if_neg (by omega)] at hr
                subst hr
                go_enter Tryd.func55, Tryd.ntmps55
                go_wp2
                go_quiet (fail)
                go_wp2
                go_ret
                exact ⟨rfl, pw_below_drewN ((Below.refl _ _).alloc (Nat.le_refl _) _) _⟩
  · rw [hX] at hc0 ⊢
    have ha0 := (hT.2 0 (by omega)).1
    have ha1 := (hT.2 0 (by omega)).2
    have hA : fullN s.size x1.toNat x2.toNat (4 % 8) (accLo (4 / 16)) (accHi (4 / 16)) = fullN s.size x1.toNat x2.toNat 4 128 191 := rfl
    rw [hA]
    clear hA hX
    simp only [accLo, accHi, Nat.reduceMul, Nat.reduceAdd, Nat.reduceEqDiff, if_true, if_false, Nat.reduceMod, Nat.reduceDiv] at ha0 ha1
    clear hT
    by_cases hn : 4 ≤ s.size
    · have hq : fullN s.size x1.toNat x2.toNat 4 128 191 = true := by unfold fullN; rw [if_pos hn]
      rw [hq]
      clear hq
      have hn1 : (4 : Int) ≤ (s.size : Int) := by omega
      go_enter Tryd.func55, Tryd.ntmps55
      go_wp2
      go_ret
      exact ⟨rfl, Below.refl _ _⟩
    · have hn1 : ¬ ((4 : Int) ≤ (s.size : Int)) := by omega
      rcases (by omega : s.size = 1 ∨ s.size = 2 ∨ s.size = 3) with hN | hN | hN
      · have hz1 : decide ((1 : Int) < (s.size : Int)) = false := by simp [hN]
        have hz2 : decide ((2 : Int) < (s.size : Int)) = false := by simp [hN]
        obtain ⟨r, hr⟩ : ∃ r, fullN s.size x1.toNat x2.toNat 4 128 191 = r := ⟨_, rfl⟩
        rw [hr]
        unfold fullN at hr
        rw [if_neg (by omega)] at hr
        rw [if_neg (by omega), if_neg (by omega)] at hr
        subst hr
        go_enter Tryd.func55, Tryd.ntmps55
        go_wp2
        go_quiet (fail)
        go_wp2
        go_ret
        exact ⟨rfl, pw_below_drewN ((Below.refl _ _).alloc (Nat.le_refl _) _) _⟩
      · have hz1 : decide ((1 : Int) < (s.size : Int)) = true := by simp [hN]
        have hz2 : decide ((2 : Int) < (s.size : Int)) = false := by simp [hN]
        have hz1p : (1 : Int) < (s.size : Int) := by omega
        have hs1 : s[1]'(by omega) = x1 := by rw [← hx1]; exact (getL s 1 (by omega)).symm
        obtain ⟨r, hr⟩ : ∃ r, fullN s.size x1.toNat x2.toNat 4 128 191 = r := ⟨_, rfl⟩
        rw [hr]
        unfold fullN at hr
        rw [if_neg (by omega)] at hr
        by_cases q1 : (x1.toNat : Int) < 128
        · have q1d : decide ((x1.toNat : Int) < 128) = true := decide_eq_true q1
          rw [if_pos (by omega)] at hr
          subst hr
          go_enter Tryd.func55, Tryd.ntmps55
          go_wp2
          go_quiet (fail)
          go_wp2
          go_ret
          exact ⟨rfl, pw_below_drewN ((Below.refl _ _).alloc (Nat.le_refl _) _) _⟩
        · have q1d : decide ((x1.toNat : Int) < 128) = false := decide_eq_false q1
          by_cases q2 : (191 : Int) < (x1.toNat : Int)
          · have q2d : decide ((191 : Int) < (x1.toNat : Int)) = true := decide_eq_true q2
            rw [if_pos (by omega)] at hr
            subst hr
            go_enter Tryd.func55, Tryd.ntmps55
            go_wp2
            go_quiet (fail)
            go_wp2
            go_ret
            exact ⟨rfl, pw_below_drewN ((Below.refl _ _).alloc (Nat.le_refl _) _) _⟩
          · have q2d : decide ((191 : Int) < (x1.toNat : Int)) = false := decide_eq_false q2
            rw [if_neg (by omega), if_neg (by omega)] at hr
            subst hr
            go_enter Tryd.func55, Tryd.ntmps55
            go_wp2
            go_quiet (fail)
            go_wp2
            go_ret
            exact ⟨rfl, pw_below_drewN ((Below.refl _ _).alloc (Nat.le_refl _) _) _⟩
      · have hz1 : decide ((1 : Int) < (s.size : Int)) = true := by simp [hN]
        have hz2 : decide ((2 : Int) < (s.size : Int)) = true := by simp [hN]
        have hz1p : (1 : Int) < (s.size : Int) := by omega
        have hs1 : s[1]'(by omega) = x1 := by rw [← hx1]; exact (getL s 1 (by omega)).symm
        have hz2p : (2 : Int) < (s.size : Int) := by omega
        have hs2 : s[2]'(by omega) = x2 := by rw [← hx2]; exact (getL s 2 (by omega)).symm
        obtain ⟨r, hr⟩ : ∃ r, fullN s.size x1.toNat x2.toNat 4 128 191 = r := ⟨_, rfl⟩
        rw [hr]
        unfold fullN at hr
        rw [if_neg (by omega)] at hr
        by_cases q1 : (x1.toNat : Int) < 128
        · have q1d : decide ((x1.toNat : Int) < 128) = true := decide_eq_true q1
          rw [if_pos (by omega)] at hr
          subst hr
          go_enter Tryd.func55, Tryd.ntmps55
          go_wp2
          go_quiet (fail)
          go_wp2
          go_ret
          exact ⟨rfl, pw_below_drewN ((Below.refl _ _).alloc (Nat.le_refl _) _) _⟩
        · have q1d : decide ((x1.toNat : Int) < 128) = false := decide_eq_false q1
          by_cases q2 : (191 : Int) < (x1.toNat : Int)
          · have q2d : decide ((191 : Int) < (x1.toNat : Int)) = true := decide_eq_true q2
            rw [if_pos (by omega)] at hr
            subst hr
            go_enter Tryd.func55, Tryd.ntmps55
            go_wp2
            go_quiet (fail)
            go_wp2
            go_ret
            exact ⟨rfl, pw_below_drewN ((Below.refl _ _).alloc (Nat.le_refl _) _) _⟩
          · have q2d : decide ((191 : Int) < (x1.toNat : Int)) = false := decide_eq_false q2
            by_cases q3 : (x2.toNat : Int) < 128
            · have q3d : decide ((x2.toNat : Int) < 128) = true := decide_eq_true q3
              rw [if_neg (by omega), if_pos (by omega)] at hr
              subst hr
              go_enter Tryd.func55, Tryd.ntmps55
              go_wp2
              go_quiet (fail)
              go_wp2
              go_ret
              exact ⟨rfl, pw_below_drewN ((Below.refl _ _).alloc (Nat.le_refl _) _) _⟩
            · have q3d : decide ((x2.toNat : Int) < 128) = false := decide_eq_false q3
              by_cases q4 : (191 : Int) < (x2.toNat : Int)
              · have q4d : decide ((191 : Int) < (x2.toNat : Int)) = true := decide_eq_true q4
                rw [if_neg (by omega), if_pos (by omega)] at hr
                subst hr
                go_enter Tryd.func55, Tryd.ntmps55
                go_wp2
                go_quiet (fail)
                go_wp2
                go_ret
                exact ⟨rfl, pw_below_drewN ((Below.refl _ _).alloc (Nat.le_refl _) _) _⟩
              · have q4d : decide ((191 : Int) < (x2.toNat : Int)) = false := decide_eq_false q4
                rw [if_neg (by omega), if_neg (by omega)] at hr
                subst hr
                go_enter Tryd.func55, Tryd.ntmps55
                go_wp2
                go_quiet (fail)
                go_wp2
                go_ret
                exact ⟨rfl, pw_below_drewN ((Below.refl _ _).alloc (Nat.le_refl _) _) _⟩
  · rw [hX] at hc0 ⊢
    have ha0 := (hT.2 4 (by omega)).1
    have ha1 := (hT.2 4 (by omega)).2
    have hA : fullN s.size x1.toNat x2.toNat (68 % 8) (accLo (68 / 16)) (accHi (68 / 16)) = fullN s.size x1.toNat x2.toNat 4 128 143 := rfl
    rw [hA]
    clear hA hX
    simp only [accLo, accHi, Nat.reduceMul, Nat.reduceAdd, Nat.reduceEqDiff, if_true, if_false, Nat.reduceMod, Nat.reduceDiv] at ha0 ha1
    clear hT
    by_cases hn : 4 ≤ s.size
    · have hq : fullN s.size x1.toNat x2.toNat 4 128 143 = true := by unfold fullN; rw [if_pos hn]
      rw [hq]
      clear hq
      have hn1 : (4 : Int) ≤ (s.size : Int) := by omega
      go_enter Tryd.func55, Tryd.ntmps55
      go_wp2
      go_ret
      exact ⟨rfl, Below.refl _ _⟩
    · have hn1 : ¬ ((4 : Int) ≤ (s.size : Int)) := by omega
      rcases (by omega : s.size = 1 ∨ s.size = 2 ∨ s.size = 3) with hN | hN | hN
      · have hz1 : decide ((1 : Int) < (s.size : Int)) = false := by simp [hN]
        have hz2 : decide ((2 : Int) < (s.size : Int)) = false := by simp [hN]
        obtain ⟨r, hr⟩ : ∃ r, fullN s.size x1.toNat x2.toNat 4 128 143 = r := ⟨_, rfl⟩
        rw [hr]
        unfold fullN at hr
        rw [if_neg (by omega)] at hr
        rw [if_neg (by omega), if_neg (by omega)] at hr
        subst hr
        go_enter Tryd.func55, Tryd.ntmps55
        go_wp2
        go_quiet (fail)
        go_wp2
        go_ret
        exact ⟨rfl, pw_below_drewN ((Below.refl _ _).alloc (Nat.le_refl _) _) _⟩
      · have hz1 : decide ((1 : Int) < (s.size : Int)) = true := by simp [hN]
        have hz2 : decide ((2 : Int) < (s.size : Int)) = false := by simp [hN]
        have hz1p : (1 : Int) < (s.size : Int) := by omega
        have hs1 : s[1]'(by omega) = x1 := by rw [← hx1]; exact (getL s 1 (by omega)).symm
        obtain ⟨r, hr⟩ : ∃ r, fullN s.size x1.toNat x2.toNat 4 128 143 = r := ⟨_, rfl⟩
        rw [hr]
        unfold fullN at hr
        rw [if_neg (by omega)] at hr
        by_cases q1 : (x1.toNat : Int) < 128
        · have q1d : decide ((x1.toNat : Int) < 128) = true := decide_eq_true q1
          rw [if_pos (by omega)] at hr
          subst hr
          go_enter Tryd.func55, Tryd.ntmps55
          go_wp2
          go_quiet (fail)
          go_wp2
          go_ret
          exact ⟨rfl, pw_below_drewN ((Below.refl _ _).alloc (Nat.le_refl _) _) _⟩
        · have q1d : decide ((x1.toNat : Int) < 128) = false := decide_eq_false q1
          by_cases q2 : (143 : Int) < (x1.toNat : Int)
          · have q2d : decide ((143 : Int) < (x1.toNat : Int)) = true := decide_eq_true q2
            rw [if_pos (by omega)] at hr
            subst hr
            go_enter Tryd.func55, Tryd.ntmps55
            go_wp2
            go_quiet (fail)
            go_wp2
            go_ret
            exact ⟨rfl, pw_below_drewN ((Below.refl _ _).alloc (Nat.le_refl _) _) _⟩
          · have q2d : decide ((143 : Int) < (x1.toNat : Int)) = false := decide_eq_false q2
            rw [if_neg (by omega), if_neg (by omega)] at hr
            subst hr
            go_enter Tryd.func55, Tryd.ntmps55
            go_wp2
            go_quiet (fail)
            go_wp2
            go_ret
            exact ⟨rfl, pw_below_drewN ((Below.refl _ _).alloc (Nat.le_refl _) _) _⟩
      · have hz1 : decide ((1 : Int) < (s.size : Int)) = true := by simp [hN]
        have hz2 : decide ((2 : Int) < (s.size : Int)) = true := by simp [hN]
        have hz1p : (1 : Int) < (s.size : Int) := by omega
        have hs1 : s[1]'(by omega) = x1 := by rw [← hx1]; exact (getL s 1 (by omega)).symm
        have hz2p : (2 : Int) < (s.size : Int) := by omega
        have hs2 : s[2]'(by omega) = x2 := by rw [← hx2]; exact (getL s 2 (by omega)).symm
        obtain ⟨r, hr⟩ : ∃ r, fullN s.size x1.toNat x2.toNat 4 128 143 = r := ⟨_, rfl⟩
        rw [hr]
        unfold fullN at hr
        rw [if_neg (by omega)] at hr
        by_cases q1 : (x1.toNat : Int) < 128
        · have q1d : decide ((x1.toNat : Int) < 128) = true := decide_eq_true q1
          rw [if_pos (by omega)] at hr
          subst hr
          go_enter Tryd.func55, Tryd.ntmps55
          go_wp2
          go_quiet (fail)
          go_wp2
          go_ret
          exact ⟨rfl, pw_below_drewN ((Below.refl _ _).alloc (Nat.le_refl _) _) _⟩
        · have q1d : decide ((x1.toNat : Int) < 128) = false := decide_eq_false q1
          by_cases q2 : (143 : Int) < (x1.toNat : Int)
          · have q2d : decide ((143 : Int) < (x1.toNat : Int)) = true := decide_eq_true q2
            rw [if_pos (by omega)] at hr
            subst hr
            go_enter Tryd.func55, Tryd.ntmps55
            go_wp2
            go_quiet (fail)
            go_wp2
            go_ret
            exact ⟨rfl, pw_below_drewN ((Below.refl _ _).alloc (Nat.le_refl _) _) _⟩
          · have q2d : decide ((143 : Int) < (x1.toNat : Int)) = false := decide_eq_false q2
            by_cases q3 : (x2.toNat : Int) < 128
            · have q3d : decide ((x2.toNat : Int) < 128) = true := decide_eq_true q3
              rw [if_neg (by omega), if_pos (by omega)] at hr
              subst hr
              go_enter Tryd.func55, Tryd.ntmps55
              go_wp2
              go_quiet (fail)
              go_wp2
              go_ret
              exact ⟨rfl, pw_below_drewN ((Below.refl _ _).alloc (Nat.le_refl _) _) _⟩
            · have q3d : decide ((x2.toNat : Int) < 128) = false := decide_eq_false q3
              by_cases q4 : (191 : Int) < (x2.toNat : Int)
              · have q4d : decide ((191 : Int) < (x2.toNat : Int)) = true := decide_eq_true q4
                rw [if_neg (by omega), if_pos (by omega)] at hr
                subst hr
                go_enter Tryd.func55, Tryd.ntmps55
                go_wp2
                go_quiet (fail)
                go_wp2
                go_ret
                exact ⟨rfl, pw_below_drewN ((Below.refl _ _).alloc (Nat.le_refl _) _) _⟩
              · have q4d : decide ((191 : Int) < (x2.toNat : Int)) = false := decide_eq_false q4
                rw [if_neg (by omega), if_neg (by omega)] at hr
                subst hr
                go_enter Tryd.func55, Tryd.ntmps55
                go_wp2
                go_quiet (fail)
                go_wp2
                go_ret
                exact ⟨rfl, pw_below_drewN ((Below.refl _ _).alloc (Nat.le_refl _) _) _⟩
end U
end Go.Proofs.YtceomobdolkfgaaDoor
/- unit.Begun. -/
set_option linter.unusedVariables false
namespace Go.Proofs.YtceomobdolkfgaaDoor
open Go.RowKit Go.Proofs.YtceomobdolkfgaaDoorW.PrintWords Go.Proofs.YtceomobdolkfgaaDoor.Sep
namespace U
set_option maxHeartbeats 1600000
set_option maxRecDepth 100000
/-- Is a text the beginning of an encoding, and not all of it? -/
theorem begun_ (s : ByteArray) (w : World) (hT : Tabs w) :
    Calls Tryd.prog 39 #[.string s] w fun e w' => e = .returned (.bool (begun (L s))) ∧ Below w.heap.size w w' := by
  by_cases h0 : s.size = 0
  · have hb : begun (L s) = false := by unfold begun; rw [L_len, if_pos h0]
    rw [hb]
    have hs : s = ⟨#[]⟩ := by
      apply ByteArray.ext
      exact Array.eq_empty_of_size_eq_zero h0
    subst hs
    go_enter Tryd.func39, Tryd.ntmps39
    go_wp2
    go_ret
    exact ⟨rfl, Below.refl _ _⟩
  · have hb : begun (L s) = !full (L s) := by unfold begun; rw [L_len, if_neg h0]
    rw [hb]
    have HF := Lib.hid (fullrune s w hT h0)
    have hne : ¬ s.toList = [] := by
      rw [ByteArray.toList_eq]
      intro e
      exact h0 ((L_nil s).1 e)
    have hne2 : s.toList.isEmpty = false := by simpa using hne
    clear hT hb
    generalize full (L s) = r at HF ⊢
    go_enter Tryd.func39, Tryd.ntmps39
    go_wp2_with (go_at_call 55; refine HF.out.mono ?_; rintro e w2 ⟨rfl, hq⟩; have HW := Lib.hid hq; clear hq)
    go_ret
    exact ⟨rfl, HW.out⟩
end U
end Go.Proofs.YtceomobdolkfgaaDoor
/- Clusters: glued, Boundary, Next, made, as ClusP tells them. -/
set_option linter.unusedVariables false
namespace Go.Proofs.YtceomobdolkfgaaDoor
open Go.RowKit Go.Proofs.YtceomobdolkfgaaDoorW.PrintWords Go.Proofs.YtceomobdolkfgaaDoor.Sep
namespace U
set_option maxHeartbeats 1600000
set_option maxRecDepth 100000
theorem glued_ (u v : Int) (w : World) : Calls Tryd.prog 65 #[.int .i32 u, .int .i32 v] w fun e w' => e = .returned (.bool (glue u v)) ∧ Below w.heap.size w w' := by
  obtain ⟨r, hr⟩ : ∃ r, glue u v = r := ⟨_, rfl⟩
  rw [hr]
  unfold glue at hr
  by_cases h13 : u = 13
  · subst h13
    by_cases h10 : v = 10
    · subst h10
      have hr' : true = r := hr
      subst hr'
      clear hr
      go_enter Tryd.func65, Tryd.ntmps65
      go_wp2
      go_ret
      exact ⟨rfl, Below.refl _ _⟩
    · have hv10 : (v == 10) = false := by simpa using h10
      have HU := Lib.hid (fun w => class_ 13 w)
      have HV := Lib.hid (fun w => class_ v w)
      have hr' : false = r := by rw [← hr]; simp [h10, cls_13]
      subst hr'
      clear hr
      rw [cls_13] at HU
      generalize cls v = kv at HV
      go_enter Tryd.func65, Tryd.ntmps65
      go_wp2_with (first | (go_at_call 41; refine (HU.out _).mono ?_; clear HU; rintro e w1 ⟨rfl, hb⟩; have HB1 := Lib.hid hb; clear hb) | (go_at_call 41; refine (HV.out _).mono ?_; clear HV; rintro e w2 ⟨rfl, hb⟩; have HB2 := Lib.hid hb; clear hb))
      all_goals (go_ret; exact ⟨rfl, below_then HB1.out HB2.out⟩)
  · have hu13 : (u == 13) = false := by simpa using h13
    have HU := Lib.hid (fun w => class_ u w)
    have HV := Lib.hid (fun w => class_ v w)
    have HR : Hid (((cls v == 3) && ((cls u != 1) && (cls u != 2))) = r) := Lib.hid (by
      rw [← hr]
      by_cases a : cls v = 3 <;> by_cases b : cls u = 1 <;> by_cases c : cls u = 2 <;> simp [a, b, c, h13])
    clear hr
    generalize cls u = ku at HU HR
    generalize cls v = kv at HV HR
    go_enter Tryd.func65, Tryd.ntmps65
    go_wp2_with (first | (go_at_call 41; refine (HU.out _).mono ?_; clear HU; rintro e w1 ⟨rfl, hb⟩; have HB1 := Lib.hid hb; clear hb) | (go_at_call 41; refine (HV.out _).mono ?_; clear HV; rintro e w2 ⟨rfl, hb⟩; have HB2 := Lib.hid hb; clear hb))
    all_goals (go_ret; refine ⟨?_, below_then HB1.out HB2.out⟩; rw [← HR.out]; simp [*])
theorem cboundary_end (s : ByteArray) (w : World) (h0 : s.size ≠ 0) : Calls Tryd.prog 46 #[.string s, .int .i64 s.size] w fun e w' => e = .returned (.bool true) ∧ Below w.heap.size w w' := by
  have h1 : decide ((s.size : Int) ≤ 0) = false := decide_eq_false (by omega)
  have h2 : decide ((s.size : Int) ≤ (s.size : Int)) = true := decide_eq_true (Int.le_refl _)
  have h3 : ((s.size : Int) == 0) = false := by simpa using h0
  go_enter Tryd.func46, Tryd.ntmps46
  go_wp2
  go_ret
  exact ⟨rfl, Below.refl _ _⟩
theorem cboundary (s : ByteArray) (p q : Nat) (w : World) (hT : Tabs w) (hs : s.size ≤ 1099511627776) (hp : q < s.size) (hb : Bd (L s) p) (hq : p + sz ((L s).drop p) = q) :
    Calls Tryd.prog 46 #[.string s, .int .i64 q] w fun e w' => e = .returned (.bool (!glue (chr ((L s).drop p)) (chr ((L s).drop q)))) ∧ Below w.heap.size w w' := by
  have hps : p < s.size := by omega
  have h1 := sz_pos _ (drop_ne (L s) p (by rw [L_len]; exact hps))
  have hbq : Bd (L s) q := by rw [← hq]; exact bd_next (L s) p hb (by rw [L_len]; exact hps)
  have HB := Lib.hid (boundary s q w hT hs (by omega) hbq)
  have HP := Lib.hid (fun w' (h : Below w.heap.size w w') => prev_ s p q w' (hT.below h) hs hps hb hq)
  have HA := Lib.hid (fun w' (h : Below w.heap.size w w') => at_ s p w' (hT.below h) hs hps hb)
  have HC := Lib.hid (fun w' (h : Below w.heap.size w w') => at_ s q w' (hT.below h) hs hp hbq)
  have d1 : decide ((q : Int) ≤ 0) = false := decide_eq_false (by omega)
  have d2 : decide ((s.size : Int) ≤ (q : Int)) = false := decide_eq_false (by omega)
  have hq0 : ¬ q = 0 := by omega
  clear hT hb hbq hq h1
  generalize chr ((L s).drop p) = c at HA ⊢
  generalize sz ((L s).drop p) = n at HA
  generalize chr ((L s).drop q) = d at HC ⊢
  generalize sz ((L s).drop q) = m at HC
  have HG := Lib.hid (fun w => glued_ c d w)
  generalize glue c d = r at HG ⊢
  go_enter Tryd.func46, Tryd.ntmps46
  go_wp2_with (first
    | (go_at_call 56; refine HB.out.mono ?_; rintro e w1 ⟨rfl, hb⟩; have HB1 := Lib.hid hb; clear hb)
    | (go_at_call 64; refine (HP.out _ HB1.out).mono ?_; rintro e w2 ⟨rfl, hb⟩; have HB2 := Lib.hid (below_then HB1.out hb); clear hb)
    | (go_at_call 40; refine (HA.out _ HB2.out).mono ?_; clear HA; rintro e w3 ⟨rfl, hb⟩; have HB3 := Lib.hid ((below_then HB2.out hb).alloc (Nat.le_trans HB2.out.size hb.size) (.cells #[.int .i32 c, .int .i64 n] 86)); clear hb)
    | (go_at_call 40; refine (HC.out _ HB3.out).mono ?_; clear HC; rintro e w4 ⟨rfl, hb⟩; have HK := Lib.hid (blk_new hb); have HB4 := Lib.hid (below_then HB3.out hb); have hlt := HK.out.lt; obtain ⟨c0, c1, f0, f1, g0, g1⟩ := Blk.two (HK.out.alloc (.cells #[.int .i32 d, .int .i64 m] 86)); clear hb)
    | (go_at_call 65; refine (HG.out _).mono ?_; rintro e w5 ⟨rfl, hb⟩; have HB5 := Lib.hid hb; clear hb))
  go_ret
  exact ⟨rfl, below_then (HB4.out.alloc HB4.out.size _) HB5.out⟩
theorem bd_lt (t : Bs) (p : Nat) (hp : p < t.length) : p + sz (t.drop p) ≤ t.length := by
  have := sz_le (t.drop p)
  rw [List.length_drop] at this
  omega
theorem cnext (s : ByteArray) (p : Nat) (w : World) (hT : Tabs w) (hs : s.size ≤ 1099511627776) (hp : p < s.size) (hb : Bd (L s) p) :
    Calls Tryd.prog 26 #[.string s, .int .i64 p] w fun e w' => e = .returned (.int .i64 ((p + clen ((L s).drop p) : Nat) : Int)) ∧ Below w.heap.size w w' := by
  obtain ⟨r, hr⟩ : ∃ r, p + clen ((L s).drop p) = r := ⟨_, rfl⟩
  rw [hr]
  have HT := Lib.hid hT
  have hl := L_len s
  have hp0 : decide ((p : Int) < 0) = false := decide_eq_false (by omega)
  go_enter Tryd.func26, Tryd.ntmps26
  go_wp2
  go_loopg [1] (s.size - p) (fun k v w' => ∃ i : Nat, v = .int .i64 i ∧ i < s.size ∧ i + k = s.size ∧ Hid (Bd (L s) i) ∧ Hid (i + clen ((L s).drop i) = r) ∧ Hid (Below w.heap.size w w'))
  case atStart => exact ⟨p, rfl, hp, by omega, Lib.hid hb, Lib.hid hr, Lib.hid (Below.refl _ _)⟩
  case round =>
    obtain ⟨i, rfl, hi, hk, HD, HE, HB⟩ := hrel
    clear hT hb hr hp0
    have hlt : decide ((i : Int) < (s.size : Int)) = true := decide_eq_true (by omega)
    have hi1 : (i : Int) < (s.size : Int) := by omega
    obtain ⟨q, hq⟩ : ∃ q, i + sz ((L s).drop i) = q := ⟨_, rfl⟩
    have h1 := sz_pos _ (drop_ne (L s) i (by omega))
    have h2 := bd_lt (L s) i (by omega)
    have HN := Lib.hid (next_ s i wr (HT.out.below HB.out) hs hi HD.out)
    rw [hq] at HN
    by_cases he : q = s.size
    · have hr : q = r := by
        have := HE.out
        have e0 : (L s).drop q = [] := List.drop_eq_nil_of_le (by omega)
        unfold clen at this
        rw [List.drop_drop, hq, e0, tail_nil] at this
        omega
      subst hr
      subst he
      have HC := Lib.hid (fun w => cboundary_end s w (by omega))
      clear hq h1 h2 HE
      go_wp2_with (first
        | (go_at_call 45; refine HN.out.mono ?_; rintro e w1 ⟨rfl, hb⟩; have HB1 := Lib.hid (below_then HB.out hb); clear hb)
        | (go_at_call 46; refine (HC.out _).mono ?_; rintro e w2 ⟨rfl, hb⟩; have HB2 := Lib.hid (below_then HB1.out hb); clear hb))
      go_ret
      exact ⟨rfl, HB2.out⟩
    · have hqs : q < s.size := by omega
      have HC := Lib.hid (fun w' (h : Below w.heap.size w w') => cboundary s i q w' (HT.out.below h) hs hqs HD.out hq)
      have HE2 := HE.out
      unfold clen at HE2
      rw [List.drop_drop, hq, tail_step _ _ (drop_ne (L s) q (by omega))] at HE2
      have HQ : Hid (Bd (L s) q) := Lib.hid (by rw [← hq]; exact bd_next (L s) i HD.out (by omega))
      cases hg : glue (chr ((L s).drop i)) (chr ((L s).drop q)) with
      | false =>
        rw [hg] at HE2 HC
        have hr : q = r := by rw [if_neg (by decide)] at HE2; omega
        subst hr
        clear hq h1 h2 HE HE2 hg
        go_wp2_with (first
          | (go_at_call 45; refine HN.out.mono ?_; rintro e w1 ⟨rfl, hb⟩; have HB1 := Lib.hid (below_then HB.out hb); clear hb)
          | (go_at_call 46; refine (HC.out _ HB1.out).mono ?_; rintro e w2 ⟨rfl, hb⟩; have HB2 := Lib.hid (below_then HB1.out hb); clear hb))
        go_ret
        exact ⟨rfl, HB2.out⟩
      | true =>
        rw [hg] at HE2 HC
        rw [if_pos rfl] at HE2
        have HR : Hid (q + clen ((L s).drop q) = r) := Lib.hid (by unfold clen; omega)
        clear HE HE2 hg
        have hm : s.size - q < gk := by omega
        clear hq h1 h2
        go_wp2_with (first
          | (go_at_call 45; refine HN.out.mono ?_; rintro e w1 ⟨rfl, hb⟩; have HB1 := Lib.hid (below_then HB.out hb); clear hb)
          | (go_at_call 46; refine (HC.out _ HB1.out).mono ?_; rintro e w2 ⟨rfl, hb⟩; have HB2 := Lib.hid (below_then HB1.out hb); clear hb))
        go_roundg (s.size - q)
        case rel => exact ⟨q, rfl, hqs, by omega, HQ, HR, HB2⟩
        case measure => omega
/-- A cluster as a value. -/
def clv (p q : Nat) (k n : Int) : Array Value := #[.int .i64 p, .int .i64 q, .int .i64 k, .int .i64 n]
theorem hp_nil (l : Bs) : Lib.hasPrefix l [10] = false ∨ Lib.hasPrefix l [10] = true := by cases Lib.hasPrefix l [10] <;> simp
theorem far4 {w : World} {B U o : Nat} {x0 x1 x2 x3 : Value} (h : ¬ U = B) : ((((w.setCell ⟨B, 0, none⟩ x0).setCell ⟨B, 1, none⟩ x1).setCell ⟨B, 2, none⟩ x2).setCell ⟨B, 3, none⟩ x3).cell? ⟨U, o, none⟩ = w.cell? ⟨U, o, none⟩ := by
  have hf : ∀ k, (⟨B, k, none⟩ : Addr) ≠ ⟨U, o, none⟩ := fun k e => h (by injection e with e; exact e.symm)
  rw [World.cell?_setCell_other _ _ _ _ (hf _), World.cell?_setCell_other _ _ _ _ (hf _), World.cell?_setCell_other _ _ _ _ (hf _), World.cell?_setCell_other _ _ _ _ (hf _)]
theorem Blk.set4 {w : World} {B : Nat} {t : TypeId} {y0 y1 y2 y3 : Value} (K : Blk w B t #[y0, y1, y2, y3]) (x0 x1 x2 x3 : Value) :
    Blk ((((w.setCell ⟨B, 0, none⟩ x0).setCell ⟨B, 1, none⟩ x1).setCell ⟨B, 2, none⟩ x2).setCell ⟨B, 3, none⟩ x3) B t #[x0, x1, x2, x3] := (((K.set_ 0 x0).set_ 1 x1).set_ 2 x2).set_ 3 x3
theorem below_set4 {w0 w : World} {B n : Nat} (h : Below n w0 w) (hB : n ≤ B) (x0 x1 x2 x3 : Value) : Below n w0 ((((w.setCell ⟨B, 0, none⟩ x0).setCell ⟨B, 1, none⟩ x1).setCell ⟨B, 2, none⟩ x2).setCell ⟨B, 3, none⟩ x3) :=
  (((h.setCell (p := ⟨B, 0, none⟩) hB x0).setCell (p := ⟨B, 1, none⟩) hB x1).setCell (p := ⟨B, 2, none⟩) hB x2).setCell (p := ⟨B, 3, none⟩) hB x3
theorem res_made (W : World) (R : Nat) (x0 x1 x2 x3 : Value) (K : Blk W R 48 #[x0, x1, x2, x3]) (tmps : Array Value) (ht : tmps[6]?.getD undef = .pointer (some ⟨R, 0, none⟩)) :
    (results Tryd.f27 tmps).run Tryd.prog W = .ok (.agg #[x0, x1, x2, x3]) W := by
  obtain ⟨c0, c1, c2, c3, -⟩ := Blk.four K
  simp [results, Tryd.results27, go_sem, ht, c0, c1, c2, c3]
theorem made_ (s : ByteArray) (p q : Nat) (w : World) (hT : Tabs w) (hs : s.size ≤ 1099511627776) (hp : p < s.size) (hb : Bd (L s) p) :
    Calls Tryd.prog 27 #[.string s, .int .i64 p, .int .i64 q] w fun e w' => e = .returned (.agg (clv p q (mcls ((L s).drop p)) (mcells ((L s).drop p)))) ∧ Below w.heap.size w w' := by
  unfold clv
  obtain ⟨r, hr⟩ : ∃ r, mcls ((L s).drop p) = r := ⟨_, rfl⟩
  obtain ⟨t, ht⟩ : ∃ t, mcells ((L s).drop p) = t := ⟨_, rfl⟩
  rw [hr, ht]
  have HA := Lib.hid (fun w' (h : Below w.heap.size w w') => at_ s p w' (hT.below h) hs hp hb)
  have HP := Lib.hid (fun w => Tryd.strings_HasPrefix (s.extract (p + 1) s.size) ⟨#[10]⟩ w)
  have hpx : Lib.hasPrefix (s.extract (p + 1) s.size).data.toList ([10] : List UInt8) = Lib.hasPrefix (((L s).drop p).drop 1) [10] := by
    show Lib.hasPrefix (L (s.extract (p + 1) s.size)) [10] = _
    rw [L_drop, List.drop_drop]
  unfold mcls crlf at hr
  unfold mcells crlf at ht
  have e10 : (⟨#[10]⟩ : ByteArray).data.toList = ([10] : List UInt8) := rfl
  rw [e10, hpx] at HP
  generalize Lib.hasPrefix (((L s).drop p).drop 1) [10] = b at HP hr ht
  generalize chr ((L s).drop p) = c at HA hr ht
  generalize sz ((L s).drop p) = n at HA
  have HC := Lib.hid (fun w => class_ c w)
  have HV := Lib.hid (fun w => cells_ c w)
  clear hT hb hpx e10
  have hp1 : (p : Int) + 1 ≤ (s.size : Int) := by omega
  generalize cls c = kc at HC hr
  generalize cells c = kn at HV ht
  have HR := Lib.hid hr
  have HT := Lib.hid ht
  clear hr ht
  go_enter Tryd.func27, Tryd.ntmps27
  go_wp2_with (go_at_call 40; refine (HA.out _ ((Below.refl _ _).alloc (Nat.le_refl _) _)).mono ?_; rintro e w1 ⟨rfl, hb⟩; have HK := Lib.hid (blk_new hb); have HB1 := Lib.hid (below_alloc hb); have hlt1 := HK.out.lt; clear hb)
  have HK2 := Lib.hid (HK.out.alloc (.cells #[.int .i32 c, .int .i64 n] 86))
  have HB2 := Lib.hid (HB1.out.alloc HB1.out.size (.cells #[.int .i32 c, .int .i64 n] 86))
  have HU2 := Lib.hid (Blk.new w1 86 #[.int .i32 c, .int .i64 n])
  clear HK HB1
  obtain ⟨U, hU⟩ : ∃ U, w1.heap.size = U := ⟨_, rfl⟩
  obtain ⟨W2, hW2⟩ : ∃ W2, w1.alloc (.cells #[.int .i32 c, .int .i64 n] 86) = W2 := ⟨_, rfl⟩
  rw [hW2] at HK2 HB2 HU2 ⊢
  rw [hU] at HU2 ⊢
  have hUl := HU2.out.lt
  have hne2 : ¬ U = W2.heap.size := by omega
  have hw2 : w.heap.size < W2.heap.size := by rw [← hW2]; simp; omega
  clear hW2 hU
  have u0 := HU2.out.cell 0
  simp only [List.getElem?_toArray, List.getElem?_cons_zero] at u0
  go_cut [9] from 16 to 24 (fun v9 wx => ∃ B, v9 = .pointer (some ⟨B, 0, none⟩) ∧ Hid (Blk wx B 48 #[.int .i64 p, .int .i64 q, .int .i64 kc, .int .i64 kn]) ∧ Hid (Below W2.heap.size W2 wx) ∧ Hid (W2.heap.size ≤ B))
  case first =>
    go_region_held3 (fun w' => w'.cell? ⟨U, 0, none⟩ = some (.int .i32 c))
      (first | with_reducible exact u0 | with_reducible exact d0 | with_reducible exact e0 | with_reducible exact (far4 hne2).trans e0 | with_reducible exact (far4 hne3).trans e0 | with_reducible exact (far4 hne4).trans e0 | go_keep)
      (first
        | (go_at_call 41; refine (HC.out _).mono ?_; clear HC; rintro e w3 ⟨rfl, hb⟩; (try (have HZ := Lib.hid (blk_new (show Below (W2.alloc (.cells #[.int .i64 0, .int .i64 0, .int .i64 0, .int .i64 0] 48)).heap.size (W2.alloc (.cells #[.int .i64 0, .int .i64 0, .int .i64 0, .int .i64 0] 48)) w3 from (by first | exact hb | exact below_undrew hb | exact below_undrewN hb))); obtain ⟨z0, z1, z2, z3, zf0, zf1, zf2, zf3⟩ := Blk.four HZ.out)); have hp : Below W2.heap.size W2 w3 := below_then (by first | exact Below.refl _ _ | exact below_drew1_ (Below.refl _ _) | exact below_one _ _ | exact below_drew1_ (below_one _ _)) hb; have d0 := (HU2.out.upd (Upd.below hp No) (fun h => h)).cell 0; simp only [List.getElem?_toArray, List.getElem?_cons_zero] at d0; have hB3 : W2.heap.size ≤ w3.heap.size := hp.size; have hne3 : ¬ U = w3.heap.size := (by omega); have HPP := Lib.hid hp; clear hb hp)
        | (go_at_call 47; refine (HV.out _).mono ?_; clear HV; rintro e w4 ⟨rfl, hb⟩; (first | (have hz := Blk.below HZ.out (show Below w3.heap.size w3 w4 from (by first | exact hb | exact below_undrew hb | exact below_undrewN hb)); clear z0 z1 z2 z3 zf0 zf1 zf2 zf3; have HZ := Lib.hid hz; clear hz; obtain ⟨z0, z1, z2, z3, zf0, zf1, zf2, zf3⟩ := Blk.four HZ.out) | (try (have HZ := Lib.hid (blk_new (show Below (w3.alloc (.cells #[.int .i64 0, .int .i64 0, .int .i64 0, .int .i64 0] 48)).heap.size (w3.alloc (.cells #[.int .i64 0, .int .i64 0, .int .i64 0, .int .i64 0] 48)) w4 from (by first | exact hb | exact below_undrew hb | exact below_undrewN hb))); obtain ⟨z0, z1, z2, z3, zf0, zf1, zf2, zf3⟩ := Blk.four HZ.out))); have hp : Below W2.heap.size W2 w4 := below_then (by first | exact HPP.out | exact below_drew1_ HPP.out | exact HPP.out.alloc HPP.out.size _ | exact below_drew1_ (HPP.out.alloc HPP.out.size _) | exact (below_drew1_ HPP.out).alloc HPP.out.size _) hb; have e0 := (HU2.out.upd (Upd.below hp No) (fun h => h)).cell 0; simp only [List.getElem?_toArray, List.getElem?_cons_zero] at e0; have hB4 : W2.heap.size ≤ w4.heap.size := hp.size; have hne4 : ¬ U = w4.heap.size := (by omega); have HPP := Lib.hid hp; clear hb hp))
    all_goals
     go_wp2_with fail
     go_meet
     refine ⟨_, rfl, ?_, ?_, ?_⟩
     · first | with_reducible exact Lib.hid (Blk.new _ _ _) | with_reducible exact Lib.hid (Blk.set4 HZ.out _ _ _ _)
     · first | with_reducible exact Lib.hid (HPP.out.alloc HPP.out.size _) | with_reducible exact Lib.hid (below_set4 HPP.out hB3 _ _ _ _) | with_reducible exact Lib.hid (below_set4 HPP.out (Nat.le_refl _) _ _ _ _)
     · first | with_reducible exact Lib.hid hB4 | with_reducible exact Lib.hid hB3 | with_reducible exact Lib.hid (Nat.le_refl _)
  case rest =>
    obtain ⟨B, rfl, HB, HW, HBl⟩ := hcut
    have HB0 := Lib.hid (HK2.out.upd (Upd.below HW.out No) (fun h => h))
    have HUx := Lib.hid (HU2.out.upd (Upd.below HW.out No) (fun h => h))
    obtain ⟨b0, b1, b2, b3, f0, f1, f2, f3⟩ := Blk.four HB.out
    obtain ⟨r0, r1, r2, r3, k0, k1, k2, k3⟩ := Blk.four HB0.out
    have u0x := HUx.out.cell 0
    simp only [List.getElem?_toArray, List.getElem?_cons_zero] at u0x
    have hW1 := HW.out.size
    have hBl := HBl.out
    have hneB : ¬ w.heap.size = B := by omega
    have hneB' : ¬ B = w.heap.size := by omega
    have hneU : ¬ U = B := by omega
    have HWW := Lib.hid (below_then HB2.out HW.out)
    clear u0 HC HV HA
    by_cases hc13 : c = 13
    · subst hc13
      cases b with
      | true =>
        have hr : 1 = r := by rw [← HR.out]; rfl
        have ht : 0 = t := by rw [← HT.out]; rfl
        subst hr
        subst ht
        go_wp2_with (go_at_call 48; refine (HP.out _).mono ?_; rintro e w5 ⟨rfl, rfl⟩)
        (try simp only [Exit.inBlock, Exit.then])
        refine bodyPost_ret (res_made _ _ _ _ _ _ (Blk.set4 ((HB0.out.far hneB _).far hneB _) _ _ _ _) _ rfl) rfl ?_
        exact ⟨rfl, below_set4 (((HWW.out).setCell (p := ⟨B, 2, none⟩) (by show w.heap.size ≤ B; omega) _).setCell (p := ⟨B, 3, none⟩) (by show w.heap.size ≤ B; omega) _) (Nat.le_refl _) _ _ _ _⟩
      | false =>
        have hr : kc = r := by rw [← HR.out]; rfl
        have ht : kn = t := by rw [← HT.out]; rfl
        subst hr
        subst ht
        go_wp2_with (go_at_call 48; refine (HP.out _).mono ?_; rintro e w5 ⟨rfl, rfl⟩)
        (try simp only [Exit.inBlock, Exit.then])
        refine bodyPost_ret (res_made _ _ _ _ _ _ (Blk.set4 HB0.out _ _ _ _) _ rfl) rfl ?_
        exact ⟨rfl, below_set4 HWW.out (Nat.le_refl _) _ _ _ _⟩
    · have hc13b : (c == 13) = false := by simpa using hc13
      have hr : kc = r := by rw [← HR.out]; simp [hc13]
      have ht : kn = t := by rw [← HT.out]; simp [hc13]
      subst hr
      subst ht
      go_wp2
      (try simp only [Exit.inBlock, Exit.then])
      refine bodyPost_ret (res_made _ _ _ _ _ _ (Blk.set4 HB0.out _ _ _ _) _ rfl) rfl ?_
      exact ⟨rfl, below_set4 HWW.out (Nat.le_refl _) _ _ _ _⟩
end U
end Go.Proofs.YtceomobdolkfgaaDoor
