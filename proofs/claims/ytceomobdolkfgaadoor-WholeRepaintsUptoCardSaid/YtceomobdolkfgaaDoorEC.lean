/- A terminal's screen told plainly: what its operations do to its rows. No program. -/
import Derived.Test.YtceomobdolkfgaaDoorEB
import Derived.Lib.SliceRun
import Derived.Deep.LoopGhost
set_option linter.unusedVariables false
namespace Go.Proofs.YtceomobdolkfgaaDoor.U
open Go.Lib
/-- A screen. -/
structure TS where
  W : Nat
  H : Nat
  rows : List Row
  row : Nat
  col : Nat
  full : Bool
  lr : Nat
  lc : Nat
  marks : Bool
  held : ByteArray
/-- A row without the blanks at its end. -/
def trimN : Nat → Row → Row
  | 0, r => r
  | n + 1, r => if r.getD (r.length - 1) cz = cb ∧ 0 < r.length then trimN n (r.take (r.length - 1)) else r
def trim (r : Row) : Row := trimN r.length r
/-- The other half of what stands at a cell, cleared. -/
def half (r : Row) (c : Nat) : Row :=
  if r.length ≤ c then r
  else
    let r1 := if (r.getD c cz).2 = 0 ∧ 0 < c then r.set (c - 1) cb else r
    if (r1.getD c cz).2 = 2 ∧ c + 1 < r1.length then r1.set (c + 1) cb else r1
def clearRow (rows : List Row) (i c : Nat) : List Row :=
  if rows.length ≤ i ∨ (rows.getD i []).length ≤ c then rows else rows.set i ((half (rows.getD i []) c).take c)
def TS.down (t : TS) : TS := if t.row + 1 < t.H then { t with row := t.row + 1 } else if t.rows.length = t.H then { t with rows := t.rows.drop 1 ++ [[]] } else { t with rows := t.rows.drop 1 }
def padRows (rows : List Row) (n : Nat) : List Row := rows ++ List.replicate (n - rows.length) []
def padRow (r : Row) (n : Nat) : Row := r ++ List.replicate (n - r.length) cb
/-- A row in which a text was written at a cell. -/
def put (r : Row) (c : Nat) (s : ByteArray) (span : Nat) : Row :=
  let r1 := padRow r (c + span)
  if span = 2 then ((half (half r1 c) (c + 1)).set c (s, 2)).set (c + 1) cz else (half r1 c).set c (s, 1)
def TS.wrap (t : TS) (span : Nat) : TS := if t.full = true ∨ (span = 2 ∧ t.col + 1 = t.W) then { t.down with col := 0, full := false } else t
def TS.write (t : TS) (s : ByteArray) (span : Nat) : TS :=
  let t := t.wrap span
  let rs := padRows t.rows (t.row + 1)
  { t with rows := rs.set t.row (put (rs.getD t.row []) t.col s span), lr := t.row, lc := t.col, marks := true,
           col := if t.W ≤ t.col + span then t.W - 1 else t.col + span, full := if t.W ≤ t.col + span then true else t.full }
/-- What must hold of a screen, whatever came. -/
structure TS.Inv (t : TS) : Prop where
  w1 : 1 ≤ t.W
  w2 : t.W ≤ 65535
  h1 : 1 ≤ t.H
  h2 : t.H ≤ 65535
  row : t.row < t.H
  col : t.col < t.W
  mark : t.marks = true → t.lr < t.rows.length ∧ t.lc < (t.rows.getD t.lr []).length
  rows : t.rows.length ≤ t.H
  len : ∀ i, i < t.rows.length → (t.rows.getD i []).length ≤ t.W
theorem half_len (r : Row) (c : Nat) : (half r c).length = r.length := by
  unfold half
  split
  · rfl
  · dsimp only
    split <;> split <;> simp
theorem padRow_len (r : Row) (n : Nat) : (padRow r n).length = max r.length n := by
  unfold padRow
  rw [List.length_append, List.length_replicate]
  omega
theorem padRows_len (r : List Row) (n : Nat) : (padRows r n).length = max r.length n := by
  unfold padRows
  rw [List.length_append, List.length_replicate]
  omega
theorem put_len (r : Row) (c : Nat) (s : ByteArray) (span : Nat) (h : span = 1 ∨ span = 2) : (put r c s span).length = max r.length (c + span) := by
  unfold put
  dsimp only
  rcases h with rfl | rfl
  · rw [if_neg (by decide), List.length_set, half_len, padRow_len]
  · rw [if_pos rfl, List.length_set, List.length_set, half_len, half_len, padRow_len]
theorem getD_set (rs : List Row) (i j : Nat) (r : Row) (h : i < rs.length) : (rs.set i r).getD j [] = if i = j then r else rs.getD j [] := by
  rw [List.getD_eq_getElem?_getD, List.getElem?_set]
  by_cases e : i = j
  · subst e; simp [h]
  · rw [if_neg e, if_neg e, List.getD_eq_getElem?_getD]
theorem getD_padRows (rs : List Row) (n j : Nat) : (padRows rs n).getD j [] = rs.getD j [] := by
  unfold padRows
  rw [List.getD_eq_getElem?_getD, List.getD_eq_getElem?_getD]
  by_cases h : j < rs.length
  · rw [List.getElem?_append_left h]
  · rw [List.getElem?_append_right (by omega), List.getElem?_eq_none (by omega : rs.length ≤ j)]
    rcases Nat.lt_or_ge (j - rs.length) (n - rs.length) with h2 | h2
    · rw [List.getElem?_replicate, if_pos h2]; rfl
    · rw [List.getElem?_replicate, if_neg (by omega)]
theorem down_inv (t : TS) (h : t.Inv) (hm : t.marks = false ∨ True) : t.down.W = t.W ∧ t.down.H = t.H ∧ t.down.row < t.H ∧ t.down.rows.length ≤ t.H ∧ (∀ i, i < t.down.rows.length → (t.down.rows.getD i []).length ≤ t.W) ∧ t.down.col = t.col ∧ t.down.full = t.full ∧ t.down.marks = t.marks := by
  have h1 := h.h1
  have hr := h.row
  have hrs := h.rows
  unfold TS.down
  split
  · refine ⟨rfl, rfl, ?_, hrs, h.len, rfl, rfl, rfl⟩
    assumption
  · split
    · refine ⟨rfl, rfl, hr, ?_, ?_, rfl, rfl, rfl⟩
      · show (t.rows.drop 1 ++ [[]]).length ≤ _
        rw [List.length_append, List.length_drop]; simp; omega
      · intro i hi
        show ((t.rows.drop 1 ++ [[]]).getD i []).length ≤ _
        rw [List.getD_eq_getElem?_getD]
        by_cases hlt : i < (t.rows.drop 1).length
        · rw [List.getElem?_append_left hlt, List.getElem?_drop, ← List.getD_eq_getElem?_getD]
          rw [List.length_drop] at hlt
          exact h.len (1 + i) (by omega)
        · rw [List.getElem?_append_right (by omega)]
          rcases i - (t.rows.drop 1).length with _ | k
          · simp
          · simp
    · refine ⟨rfl, rfl, hr, ?_, ?_, rfl, rfl, rfl⟩
      · show (t.rows.drop 1).length ≤ _
        rw [List.length_drop]; omega
      · intro i hi
        show ((t.rows.drop 1).getD i []).length ≤ _
        have hi' : i < (t.rows.drop 1).length := hi
        rw [List.length_drop] at hi'
        rw [List.getD_eq_getElem?_getD, List.getElem?_drop, ← List.getD_eq_getElem?_getD]
        exact h.len (1 + i) (by omega)
theorem wrap_inv (t : TS) (h : t.Inv) (span : Nat) (hs : span = 1 ∨ (span = 2 ∧ 2 ≤ t.W)) : (t.wrap span).W = t.W ∧ (t.wrap span).H = t.H ∧ (t.wrap span).row < t.H ∧ (t.wrap span).rows.length ≤ t.H ∧ (∀ i, i < (t.wrap span).rows.length → ((t.wrap span).rows.getD i []).length ≤ t.W) ∧ (t.wrap span).col + span ≤ t.W ∧ (t.wrap span).full = false := by
  obtain ⟨d1, d2, d3, d4, d5, -⟩ := down_inv t h (.inr trivial)
  have hc := h.col
  have hw := h.w1
  unfold TS.wrap
  split
  · refine ⟨d1, d2, d3, d4, d5, ?_, rfl⟩
    show 0 + span ≤ _
    rcases hs with rfl | ⟨rfl, _⟩ <;> omega
  · rename_i hn
    refine ⟨rfl, rfl, h.row, h.rows, h.len, ?_, ?_⟩
    · rcases hs with rfl | ⟨rfl, _⟩
      · omega
      · have : ¬ (t.col + 1 = t.W) := fun e => hn (.inr ⟨rfl, e⟩)
        omega
    · cases hf : t.full with
      | false => rfl
      | true => exact absurd (.inl hf) hn
theorem write_inv (t : TS) (h : t.Inv) (s : ByteArray) (span : Nat) (hs : span = 1 ∨ (span = 2 ∧ 2 ≤ t.W)) : (t.write s span).Inv := by
  obtain ⟨e1, e2, e3, e4, e5, e6, e7⟩ := wrap_inv t h span hs
  have hsp : span = 1 ∨ span = 2 := by rcases hs with h | ⟨h, _⟩ <;> simp [h]
  unfold TS.write
  dsimp only
  generalize t.wrap span = u at *
  have hpl := padRows_len u.rows (u.row + 1)
  have hgr : ∀ j, j < (padRows u.rows (u.row + 1)).length → ((padRows u.rows (u.row + 1)).getD j []).length ≤ t.W := fun j hj => by
    rw [getD_padRows]
    by_cases hjl : j < u.rows.length
    · exact e5 j hjl
    · rw [List.getD_eq_getElem?_getD, List.getElem?_eq_none (by omega)]; simp
  have hput : (put ((padRows u.rows (u.row + 1)).getD u.row []) u.col s span).length ≤ t.W := by
    rw [put_len _ _ _ _ hsp]
    have := hgr u.row (by omega)
    omega
  constructor
  · show 1 ≤ u.W; rw [e1]; exact h.w1
  · show u.W ≤ _; rw [e1]; exact h.w2
  · show 1 ≤ u.H; rw [e2]; exact h.h1
  · show u.H ≤ _; rw [e2]; exact h.h2
  · show u.row < u.H; rw [e2]; exact e3
  · show (if u.W ≤ u.col + span then u.W - 1 else u.col + span) < u.W
    have := h.w1
    split <;> omega
  · intro _
    show u.row < ((padRows u.rows (u.row + 1)).set u.row _).length ∧ u.col < (((padRows u.rows (u.row + 1)).set u.row _).getD u.row []).length
    rw [List.length_set, getD_set _ _ _ _ (by omega), if_pos rfl, put_len _ _ _ _ hsp]
    rcases hsp with rfl | rfl <;> omega
  · show ((padRows u.rows (u.row + 1)).set u.row _).length ≤ u.H
    rw [List.length_set, e2]
    omega
  · intro i hi
    show (((padRows u.rows (u.row + 1)).set u.row _).getD i []).length ≤ u.W
    have hi' : i < ((padRows u.rows (u.row + 1)).set u.row (put ((padRows u.rows (u.row + 1)).getD u.row []) u.col s span)).length := hi
    rw [List.length_set] at hi'
    rw [getD_set _ _ _ _ (by omega), e1]
    split
    · exact hput
    · exact hgr i hi'
end Go.Proofs.YtceomobdolkfgaaDoor.U
/- A screen in memory. -/
set_option linter.unusedVariables false
namespace Go.Proofs.YtceomobdolkfgaaDoor
open Go.RowKit Go.Proofs.YtceomobdolkfgaaDoorW.PrintWords Go.Proofs.YtceomobdolkfgaaDoor.Sep
namespace U
/-- Where a screen's rows lie: the slice of rows, and the rows. -/
structure Mem where
  rv : Value
  vs : List Value
def Mem.v (m : Mem) (i : Nat) : Value := m.vs.getD i .nilIface
def scells (t : TS) (m : Mem) : Array Value := #[.int .i64 t.W, .int .i64 t.H, m.rv, .int .i64 t.row, .int .i64 t.col, .bool t.full, .int .i64 t.lr, .int .i64 t.lc, .bool t.marks, .string t.held]
/-- Rows in memory: the slice, and the rows that it leads to, each one's own. -/
structure RowsAt (w : World) (m : Mem) (rows : List Row) : Prop where
  own : OwnS w 33 1 m.rv rows.length m.vs
  row : ∀ i, i < rows.length → OwnS w 32 2 (m.v i) (rows.getD i []).length (flat (rows.getD i []))
  sep : ∀ i j k, i < rows.length → j < rows.length → i ≠ j → (m.v i).ownBlock = some k → (m.v j).ownBlock ≠ some k
/-- The blocks of the rows. -/
def Mem.foot (m : Mem) (n : Nat) (k : Nat) : Prop := m.rv.ownBlock = some k ∨ ∃ i, i < n ∧ (m.v i).ownBlock = some k
structure At (w : World) (p : Nat) (t : TS) (m : Mem) : Prop where
  blk : Blk w p 64 (scells t m)
  rows : RowsAt w m t.rows
def foot (p : Nat) (t : TS) (m : Mem) (k : Nat) : Prop := k = p ∨ m.foot t.rows.length k
section
variable {w w' : World} {m : Mem} {rows : List Row}
theorem OwnS.isrow {e : TypeId} {sz n : Nat} {v : Value} {xs : List Value} (h : OwnS w e sz v n xs) {k : Nat} (hk : v.ownBlock = some k) : k < w.heap.size := h.lt k hk
theorem RowsAt.lt (h : RowsAt w m rows) : ∀ k, m.foot rows.length k → k < w.heap.size := by
  rintro k (hk | ⟨i, hi, hk⟩)
  · exact h.own.lt k hk
  · exact (h.row i hi).lt k hk
theorem RowsAt.keep (h : RowsAt w m rows) (hk : ∀ k, m.foot rows.length k → w'.heap[k]? = w.heap[k]?) : RowsAt w' m rows :=
  ⟨h.own.keep fun k e => hk k (.inl e), fun i hi => (h.row i hi).keep fun k e => hk k (.inr ⟨i, hi, e⟩), h.sep⟩
theorem RowsAt.upd {S : Nat → Prop} (h : RowsAt w m rows) (u : Upd S w w') (hS : ∀ k, m.foot rows.length k → ¬ S k) : RowsAt w' m rows := h.keep fun k hk => u.block k (h.lt k hk) (hS k hk)
theorem RowsAt.below (h : RowsAt w m rows) (hb : Below w.heap.size w w') : RowsAt w' m rows := h.keep fun k hk => hb.block k (h.lt k hk)
theorem RowsAt.cells_ (h : RowsAt w m rows) : ∀ k, m.foot rows.length k → ∃ cs t, Blk w k t cs := by
  rintro k (hk | ⟨i, hi, hk⟩)
  · obtain ⟨cs, hb⟩ := h.own.blk hk; exact ⟨cs, _, hb⟩
  · obtain ⟨cs, hb⟩ := (h.row i hi).blk hk; exact ⟨cs, _, hb⟩
theorem RowsAt.nil (w : World) : RowsAt w ⟨.slice none 0 0, []⟩ [] := ⟨OwnS.nil _ _ _, fun i hi => by simp at hi, fun i j k hi => by simp at hi⟩
/-- A block of another type is none of the rows'. -/
theorem RowsAt.ne (h : RowsAt w m rows) {g : Nat} {t : TypeId} {cs : Array Value} (hb : Blk w g t cs) (h1 : 33 ≠ t) (h2 : 32 ≠ t) : ¬ m.foot rows.length g := by
  rintro (hk | ⟨i, hi, hk⟩)
  · exact h.own.ne_blk hb h1 hk
  · exact (h.row i hi).ne_blk hb h2 hk
/-- The rows' slice and a row are no one block. -/
theorem RowsAt.ne_rv (h : RowsAt w m rows) {i k : Nat} (hi : i < rows.length) (hk : (m.v i).ownBlock = some k) : m.rv.ownBlock ≠ some k := (h.row i hi).ne_own h.own (by decide) hk
theorem own_set {e : TypeId} {sz n c g off : Nat} {xs : List Value} (h : OwnS w e sz (.slice (some ⟨g, off, none⟩) n c) n xs) (j : Nat) (hj : j < n * sz) (u : Value) :
    OwnS (w.setCell ⟨g, off + j, none⟩ u) e sz (.slice (some ⟨g, off, none⟩) n c) n (xs.set j u) := by
  rcases h.2 with ⟨hs, _⟩ | ⟨g', off', cap, cur, hs, hh, hl, hm, hsz, hc⟩
  · cases hs
  · injection hs with h1 h2 h3
    injection h1 with h1
    injection h1 with h1 h1' h1''
    subst h1; subst h1'; subst h3
    have hmul : n * sz ≤ c * sz := Nat.mul_le_mul_right _ hl
    refine ⟨by rw [List.length_set]; exact h.1, .inr ⟨g, off, c, cur.setIfInBounds (off + j) u, rfl, ?_, hl, hm, by simpa using hsz, fun i hi => ?_⟩⟩
    · simp [World.setCell, Array.getElem?_modify, hh]
    · rw [Array.getElem?_setIfInBounds, List.getElem?_set]
      by_cases e : j = i
      · subst e
        rw [if_pos rfl, if_pos rfl, if_pos (by omega), if_pos (by rw [h.1]; exact hj)]
      · rw [if_neg (by omega), if_neg e]
        exact hc i hi
theorem own_far {e : TypeId} {sz n : Nat} {v : Value} {xs : List Value} (h : OwnS w e sz v n xs) {a : Addr} (hne : v.ownBlock ≠ some a.block) (u : Value) : OwnS (w.setCell a u) e sz v n xs :=
  h.keep fun k hk => Below.heap_setCell w a u k (fun e => hne (by rw [hk, e]))
theorem flat_set (r : Row) : ∀ (i : Nat) (c : C), flat (r.set i c) = ((flat r).set (i * 2) (.string c.1)).set (i * 2 + 1) (.int .i64 c.2) := by
  induction r with
  | nil => intro i c; simp [flat]
  | cons a l ih =>
    intro i c
    cases i with
    | zero => rfl
    | succ i =>
      have e1 : (i + 1) * 2 = i * 2 + 1 + 1 := by omega
      show ccells a ++ flat (l.set i c) = _
      rw [ih, e1]
      rfl
/-- A cell of one's own row is written over. -/
theorem row_set {n c g off : Nat} {r : Row} (h : OwnS w 32 2 (.slice (some ⟨g, off, none⟩) n c) n (flat r)) (i : Nat) (hi : i < n) (x : C) :
    OwnS ((w.setCell ⟨g, off + i * 2, none⟩ (.string x.1)).setCell ⟨g, off + i * 2 + 1, none⟩ (.int .i64 x.2)) 32 2 (.slice (some ⟨g, off, none⟩) n c) n (flat (r.set i x)) := by
  rw [flat_set]
  have h1 := own_set h (i * 2) (by omega) (.string x.1)
  exact own_set h1 (i * 2 + 1) (by omega) (.int .i64 x.2)
theorem own_cell {e : TypeId} {sz n : Nat} {v : Value} {xs : List Value} (h : OwnS w e sz v n xs) (h0 : 0 < n) : ∃ g off c, v = .slice (some ⟨g, off, none⟩) n c ∧ g < w.heap.size ∧ n ≤ c ∧ (∀ j u, xs[j]? = some u → w.cell? ⟨g, off + j, none⟩ = some u) ∧ ∀ j, w.frozen? ⟨g, j, none⟩ = false := by
  obtain ⟨g, off, c, rfl, hc, hcell⟩ := h.some_ h0
  exact ⟨g, off, c, rfl, h.lt g (by simp [Value.ownBlock]), hc, hcell, fun j => h.frozen j⟩
end
section
variable {w w' : World} {p : Nat} {t : TS} {m : Mem}
theorem At.lt (h : At w p t m) : ∀ k, foot p t m k → k < w.heap.size := by
  rintro k (rfl | hk)
  · exact h.blk.lt
  · exact h.rows.lt k hk
theorem At.below (h : At w p t m) (hb : Below w.heap.size w w') : At w' p t m := ⟨h.blk.keep (hb.block _ h.blk.lt), h.rows.below hb⟩
theorem At.upd {S : Nat → Prop} (h : At w p t m) (u : Upd S w w') (hS : ∀ k, foot p t m k → ¬ S k) : At w' p t m := ⟨h.blk.upd u (hS p (.inl rfl)), h.rows.upd u fun k hk => hS k (.inr hk)⟩
theorem At.pne (h : At w p t m) : ¬ m.foot t.rows.length p := h.rows.ne h.blk (by decide) (by decide)
/-- The screen's own cells are written over. -/
theorem At.top {t' : TS} (h : At w p t m) (hr : t'.rows = t.rows) (hu : Upd (fun k => k = p) w w') (hb : Blk w' p 64 (scells t' m)) : At w' p t' m :=
  ⟨hb, by rw [hr]; exact h.rows.upd hu fun k hk e => by subst e; exact h.pne hk⟩
theorem At.cells (h : At w p t m) : w.cell? ⟨p, 0, none⟩ = some (.int .i64 t.W) ∧ w.cell? ⟨p, 1, none⟩ = some (.int .i64 t.H) ∧ w.cell? ⟨p, 2, none⟩ = some m.rv ∧ w.cell? ⟨p, 3, none⟩ = some (.int .i64 t.row) ∧ w.cell? ⟨p, 4, none⟩ = some (.int .i64 t.col) ∧
    w.cell? ⟨p, 5, none⟩ = some (.bool t.full) ∧ w.cell? ⟨p, 6, none⟩ = some (.int .i64 t.lr) ∧ w.cell? ⟨p, 7, none⟩ = some (.int .i64 t.lc) ∧ w.cell? ⟨p, 8, none⟩ = some (.bool t.marks) ∧ w.cell? ⟨p, 9, none⟩ = some (.string t.held) ∧ ∀ j, w.frozen? ⟨p, j, none⟩ = false :=
  ⟨h.blk.cell 0, h.blk.cell 1, h.blk.cell 2, h.blk.cell 3, h.blk.cell 4, h.blk.cell 5, h.blk.cell 6, h.blk.cell 7, h.blk.cell 8, h.blk.cell 9, fun j => h.blk.frozen j⟩
end
end U
end Go.Proofs.YtceomobdolkfgaaDoor
/- The screen's walks: what is asked of it. -/
set_option linter.unusedVariables false
namespace Go.Proofs.YtceomobdolkfgaaDoor
open Go.RowKit Go.Proofs.YtceomobdolkfgaaDoorW.PrintWords Go.Proofs.YtceomobdolkfgaaDoor.Sep
namespace U
theorem trim_stop (r : Row) (h : ¬ (0 < r.length ∧ r.getD (r.length - 1) cz = cb)) : trim r = r := by
  unfold trim
  cases hn : r.length with
  | zero => rfl
  | succ n => unfold trimN; rw [if_neg (fun hh => h ⟨by omega, hh.1⟩)]
theorem trim_go (r : Row) (h0 : 0 < r.length) (h : r.getD (r.length - 1) cz = cb) : trim r = trim (r.take (r.length - 1)) := by
  unfold trim
  obtain ⟨n, hn⟩ : ∃ n, r.length = n + 1 := ⟨r.length - 1, by omega⟩
  conv => lhs; rw [hn]; unfold trimN
  rw [if_pos ⟨h, h0⟩]
  congr 1
  rw [List.length_take]
  omega
theorem take_getD (r : Row) (n i : Nat) (h : i < n) : (r.take n).getD i cz = r.getD i cz := by simp [List.getD, h]
/-- How many rows are needed to see all but the cursor. -/
def nrN (rows : List Row) : Nat → Nat
  | 0 => 0
  | n + 1 => if (trim (rows.getD n [])).length = 0 then nrN rows n else n + 1
def shows (t : TS) (W : Int) (rs : List Row) (cr cc : Int) : Bool :=
  decide (W = t.W ∧ 1 ≤ rs.length ∧ rs.length ≤ t.H ∧ max (max (nrN t.rows t.rows.length) (t.row + 1)) 1 ≤ rs.length ∧ cr = t.row ∧ cc = t.col ∧ ∀ i, i < rs.length → rs.getD i [] = trim (t.rows.getD i []))
set_option maxHeartbeats 4000000
set_option maxRecDepth 100000
theorem blank_ (w : World) : Calls Tryd.prog 61 #[] w fun e w' => e = .returned (.agg #[.string ⟨#[32]⟩, .int .i64 1]) ∧ Below w.heap.size w w' := by
  go_enter Tryd.func61, Tryd.ntmps61
  go_wp2
  go_returns
  exact ⟨rfl, below_one _ _⟩
theorem counted_ (n : Int) (w : World) : Calls Tryd.prog 18 #[.int .i64 n] w fun e w' => e = .returned (.int .i64 (min (max n 1) 65535)) ∧ w' = w := by
  go_enter Tryd.func18, Tryd.ntmps18
  go_wp2
  go_ret
  exact ⟨rfl, rfl⟩
def TS.new (W H : Nat) : TS := ⟨W, H, [], 0, 0, false, 0, 0, false, ⟨#[]⟩⟩
theorem new_ (W H : Int) (hW : 1 ≤ W ∧ W ≤ 65535) (hH : 1 ≤ H ∧ H ≤ 65535) (w : World) : Calls Tryd.prog 6 #[.int .i64 W, .int .i64 H] w fun e w' => ∃ p m, e = .returned (.pointer (some ⟨p, 0, none⟩)) ∧ At w' p (TS.new W.toNat H.toNat) m ∧ (∀ k, foot p (TS.new W.toNat H.toNat) m k → w.heap.size ≤ k) ∧ Below w.heap.size w w' := by
  have e1 : min (max W 1) 65535 = W := by omega
  have e2 : min (max H 1) 65535 = H := by omega
  have e3 : ((W.toNat : Nat) : Int) = W := by omega
  have e4 : ((H.toNat : Nat) : Int) = H := by omega
  have HC := Lib.hid (fun w => counted_ W w)
  have HD := Lib.hid (fun w => counted_ H w)
  rw [e1] at HC
  rw [e2] at HD
  have E3 := Lib.hid e3
  have E4 := Lib.hid e4
  clear e1 e2 e3 e4
  go_enter Tryd.func6, Tryd.ntmps6
  go_wp2_with (first | (go_at_call 18; refine (HC.out _).mono ?_; clear HC; rintro e w1 ⟨rfl, rfl⟩) | (go_at_call 18; refine (HD.out _).mono ?_; clear HD; rintro e w2 ⟨rfl, rfl⟩))
  go_ret
  refine ⟨_, ⟨.slice none 0 0, []⟩, rfl, ⟨?_, RowsAt.nil _⟩, ?_, below_one _ _⟩
  · unfold scells TS.new
    dsimp only
    rw [E3.out, E4.out]
    exact Blk.new _ _ _
  · rintro k (rfl | hk | ⟨i, hi, _⟩)
    · exact Nat.le_refl _
    · cases hk
    · simp [TS.new] at hi
section
variable {w w' : World} {p : Nat} {t : TS} {m : Mem}
theorem setCell_same {b : Nat} {T : TypeId} {cs : Array Value} (h : Blk w b T cs) (i : Nat) (v : Value) (hv : cs[i]? = some v) : w.setCell ⟨b, i, none⟩ v = w := by
  have hh : w.heap[b]? = some (.cells cs T (0, 0)) := h
  have hi : i < cs.size := (Array.getElem?_eq_some_iff.1 hv).1
  have hs : cs.setIfInBounds i v = cs := by
    apply Array.ext_getElem?
    intro j
    rw [Array.getElem?_setIfInBounds]
    by_cases e : i = j
    · subst e; rw [if_pos rfl, if_pos hi, hv]
    · rw [if_neg e]
  have hheap : (w.setCell ⟨b, i, none⟩ v).heap = w.heap := by
    apply Array.ext_getElem?
    intro j
    by_cases e : j = b
    · subst e
      rw [show (w.setCell ⟨j, i, none⟩ v).heap[j]? = _ from (h.set_ i v), hs, hh]
    · exact Below.heap_setCell w ⟨b, i, none⟩ v j e
  have e1 : w.setCell ⟨b, i, none⟩ v = { w with heap := (w.setCell ⟨b, i, none⟩ v).heap } := rfl
  rw [e1, hheap]
theorem ready_ (h : At w p t m) (hi : t.Inv) : Calls Tryd.prog 19 #[.pointer (some ⟨p, 0, none⟩)] w fun e w' => e = .returned (.bool true) ∧ Below w.heap.size w w' := by
  obtain ⟨c0, c1, -, -, -, -, -, -, -, -, cf⟩ := h.cells
  have hw1 := hi.w1; have hw2 := hi.w2; have hh1 := hi.h1; have hh2 := hi.h2
  have e1 : min (max (t.W : Int) 1) 65535 = t.W := by omega
  have e2 : min (max (t.H : Int) 1) 65535 = t.H := by omega
  have HC := Lib.hid (fun w => counted_ t.W w)
  have HD := Lib.hid (fun w => counted_ t.H w)
  rw [e1] at HC
  rw [e2] at HD
  have HA := Lib.hid h
  have hf0 := cf 0
  have hf1 := cf 1
  have hs0 := setCell_same h.blk 0 (.int .i64 t.W) rfl
  have hs1 := setCell_same h.blk 1 (.int .i64 t.H) rfl
  clear h hi e1 e2 cf hw1 hw2 hh1 hh2
  go_enter Tryd.func19, Tryd.ntmps19
  go_wp2
  go_region_held3 (fun w' => w'.cell? ⟨p, 0, none⟩ = some (.int .i64 t.W) ∧ w'.cell? ⟨p, 1, none⟩ = some (.int .i64 t.H) ∧ w'.frozen? ⟨p, 0, none⟩ = false ∧ w'.frozen? ⟨p, 1, none⟩ = false)
    (first | go_keep)
    (first
      | (go_at_call 18; refine (HC.out _).mono ?_; rintro e w1 ⟨rfl, rfl⟩)
      | (go_at_call 18; refine (HD.out _).mono ?_; rintro e w2 ⟨rfl, rfl⟩))
  all_goals
    go_wp2
    go_ret
    exact ⟨rfl, below_drew1_ (Below.refl _ _)⟩
theorem trimmed_ (r : Row) (A : Option Addr) (c : Nat) (hc : r.length ≤ c) (hr : Reads w w.heap.size 2 A r.length (flat r)) (hn : r.length ≤ 1099511627776) :
    Calls Tryd.prog 43 #[.slice A r.length c] w fun e w' => e = .returned (.slice A (trim r).length c) ∧ trim r = r.take (trim r).length ∧ Below w.heap.size w w' := by
  have HRR := Lib.hid hr
  have hci : (r.length : Int) ≤ (c : Int) := by omega
  clear hr
  go_enter Tryd.func43, Tryd.ntmps43
  go_wp2
  go_loopg [3] r.length (fun k v3 w' => ∃ n : Nat, v3 = .int .i64 n ∧ n = k ∧ n ≤ r.length ∧ Hid (trim r = trim (r.take n)) ∧ Hid (Below w.heap.size w w'))
  case atStart => exact ⟨r.length, rfl, rfl, Nat.le_refl _, Lib.hid (by rw [List.take_length]), Lib.hid (Below.refl _ _)⟩
  case round =>
    obtain ⟨n, rfl, hnk, hle, HI, HW⟩ := hrel
    subst hnk
    have hlen : (r.take n).length = n := by rw [List.length_take]; omega
    have stop : ¬ (0 < n ∧ r.getD (n - 1) cz = cb) → n = (trim r).length ∧ trim r = r.take (trim r).length := fun h => by
      have e : trim r = r.take n := by
        rw [HI.out]
        refine trim_stop _ (fun hh => h ?_)
        rw [hlen] at hh
        rw [take_getD _ _ _ (by omega)] at hh
        exact hh
      rw [e, hlen]
      exact ⟨rfl, rfl⟩
    have HST := Lib.hid stop
    clear stop
    cases n with
    | zero =>
      obtain ⟨h1, h2⟩ := HST.out (by omega)
      have H1 := Lib.hid h1
      have H2 := Lib.hid h2
      clear h1 h2
      go_wp2
      go_quiet (fail)
      go_wp2
      go_ret
      exact ⟨by rw [← H1.out]; rfl, H2.out, below_drewN_ HW.out _⟩
    | succ n =>
      have hcn : ((n : Nat) : Int) + 1 - 1 = (n : Int) := by omega
      obtain ⟨g, off, rfl, hg, hcell⟩ := row_base HRR.out rfl (by omega)
      have c0 := (HW.out.cell (p := ⟨g, off + n * 2, none⟩) hg).trans (hcell n (by omega)).1
      have c1 := (HW.out.cell (p := ⟨g, off + n * 2 + 1, none⟩) hg).trans (hcell n (by omega)).2
      clear hcell
      have hin : (n : Int) < (r.length : Int) := by omega
      obtain ⟨x, hx⟩ : ∃ x, r.getD n cz = x := ⟨_, rfl⟩
      rw [hx] at c0 c1
      have heq := fun w0 => eql_c w0 x cb
      unfold cagg at heq
      obtain ⟨ι, hι, Wf, hWf1, hWf2⟩ := world_class wr
      have g0 := fun j => ((hWf1 j).cell (p := ⟨g, off + n * 2, none⟩) (Nat.lt_of_lt_of_le hg HW.out.size)).trans c0
      have g1 := fun j => ((hWf1 j).cell (p := ⟨g, off + n * 2 + 1, none⟩) (Nat.lt_of_lt_of_le hg HW.out.size)).trans c1
      have Q1 : Hid (∀ j, Calls Tryd.prog 61 #[] (Wf j) fun e w'' => e = .returned (.agg #[.string ⟨#[32]⟩, .int .i64 1]) ∧ ∃ j, w'' = Wf j) := Lib.hid (fun j => (blank_ _).mono (fun e w1 h1 => ⟨h1.1, hWf2 _ ((hWf1 j).trans (h1.2.mono (hWf1 j).size))⟩))
      have HF1 := Lib.hid hWf1
      have hdr := hWf2 _ (show Below wr.heap.size wr wr.drew from ⟨rfl, rfl, rfl, Nat.le_refl _, fun _ _ => rfl⟩)
      clear hWf1 hWf2
      by_cases hb : x = cb
      · rw [decide_eq_true hb] at heq
        have HT : Hid (trim r = trim (r.take n)) := Lib.hid (by
          rw [HI.out, trim_go _ (by rw [hlen]; omega) (by rw [hlen, take_getD _ _ _ (by omega)]; show r.getD n cz = cb; rw [hx, hb]), List.take_take, hlen]
          congr 2
          omega)
        clear hb hx
        obtain ⟨xt, xn⟩ := x
        dsimp only at c0 c1 heq g0 g1
        go_wp2
        refine region_class Wf (by kernel_rfl) (by kernel_rfl) hdr ?_
        clear hdr
        repeat (go_big_quiet_step (first | (go_at_call 61; with_reducible exact Q1.out _)))
        refine wpQuiet_nil ?_
        intro w9 hw9
        obtain ⟨j9, rfl⟩ := hw9
        go_wp2
        go_roundg n
        case measure => omega
        case rel => exact ⟨n, by simp, rfl, by omega, HT, Lib.hid (HW.out.trans ((HF1.out j9).mono HW.out.size))⟩
      · rw [decide_eq_false hb] at heq
        obtain ⟨h1, h2⟩ := HST.out (fun hh => hb (by rw [← hx]; exact hh.2))
        have H1 := Lib.hid h1
        have H2 := Lib.hid h2
        clear h1 h2 hb hx
        obtain ⟨xt, xn⟩ := x
        dsimp only at c0 c1 heq g0 g1
        have hn1 : ((n : Int) + 1) ≤ (c : Int) := by omega
        go_wp2
        refine region_class Wf (by kernel_rfl) (by kernel_rfl) hdr ?_
        clear hdr
        repeat (go_big_quiet_step (first | (go_at_call 61; with_reducible exact Q1.out _)))
        refine wpQuiet_nil ?_
        intro w9 hw9
        obtain ⟨j9, rfl⟩ := hw9
        go_wp2
        go_ret
        exact ⟨by rw [← H1.out]; rfl, H2.out, HW.out.trans ((HF1.out j9).mono HW.out.size)⟩
end
end U
end Go.Proofs.YtceomobdolkfgaaDoor
/- The screen's walks: clearHalf, clearRow, down. -/
set_option linter.unusedVariables false
namespace Go.Proofs.YtceomobdolkfgaaDoor
open Go.RowKit Go.Proofs.YtceomobdolkfgaaDoorW.PrintWords Go.Proofs.YtceomobdolkfgaaDoor.Sep
namespace U
theorem half_out (r : Row) (c : Nat) (h : r.length ≤ c) : half r c = r := by unfold half; rw [if_pos h]
theorem half_left (r : Row) (c : Nat) (h : c + 1 < r.length) (h0 : (r.getD (c + 1) cz).2 = 0) : half r (c + 1) = r.set c cb := by
  have e1 : (if (r.getD (c + 1) cz).2 = 0 ∧ 0 < c + 1 then r.set (c + 1 - 1) cb else r) = r.set c cb := if_pos ⟨h0, by omega⟩
  unfold half
  rw [if_neg (by omega)]
  dsimp only
  rw [e1, if_neg]
  rintro ⟨e, _⟩
  rw [List.getD_eq_getElem?_getD, List.getElem?_set, if_neg (by omega), ← List.getD_eq_getElem?_getD, h0] at e
  exact absurd e (by decide)
theorem half_right (r : Row) (c : Nat) (h : c + 1 < r.length) (h2 : (r.getD c cz).2 = 2) : half r c = r.set (c + 1) cb := by
  unfold half
  rw [if_neg (by omega)]
  dsimp only
  have hn : ¬ ((r.getD c cz).2 = 0 ∧ 0 < c) := by rw [h2]; exact fun e => absurd e.1 (by decide)
  rw [if_neg hn, if_pos ⟨h2, h⟩]
theorem half_none (r : Row) (c : Nat) (h0 : (r.getD c cz).2 = 0 → c = 0) (h2 : (r.getD c cz).2 = 2 → r.length ≤ c + 1) : half r c = r := by
  unfold half
  split
  · rfl
  · dsimp only
    have hn : ¬ ((r.getD c cz).2 = 0 ∧ 0 < c) := fun e => by have := h0 e.1; omega
    rw [if_neg hn, if_neg (fun e => by have := h2 e.1; omega)]
theorem upd_set2 {w w1 : World} {S : Nat → Prop} {g i j : Nat} (h : Upd S w w1) (hS : S g) (a b : Value) : Upd S w ((w1.setCell ⟨g, i, none⟩ a).setCell ⟨g, j, none⟩ b) :=
  (h.setCell (p := ⟨g, i, none⟩) (.inl hS) a).setCell (p := ⟨g, j, none⟩) (.inl hS) b
section
variable {w w' : World} {p : Nat} {t : TS} {m : Mem}
set_option maxHeartbeats 4000000
set_option maxRecDepth 100000
theorem clearHalf_ {v : Value} {r : Row} (h : OwnS w 32 2 v r.length (flat r)) (c : Nat) (hn : r.length ≤ 1099511627776) :
    Calls Tryd.prog 62 #[v, .int .i64 c] w fun e w' => e = .returned (.tuple #[]) ∧ OwnS w' 32 2 v r.length (flat (half r c)) ∧ Upd (fun k => v.ownBlock = some k) w w' := by
  have HO := Lib.hid h
  by_cases hl : r.length ≤ c
  · obtain ⟨A, cap, rfl, hc⟩ := h.form
    have hd : decide ((r.length : Int) ≤ (c : Int)) = true := decide_eq_true (by omega)
    rw [half_out r c hl]
    clear h
    go_enter Tryd.func62, Tryd.ntmps62
    go_wp2
    go_returns
    exact ⟨rfl, HO.out, Upd.refl _ _⟩
  obtain ⟨g, off, cap, rfl, hg, hc, hcell, hfz⟩ := own_cell h (by omega)
  have HFL : Hid (∀ i, i < r.length → w.cell? ⟨g, off + i * 2, none⟩ = some (.string (r.getD i cz).1) ∧ w.cell? ⟨g, off + i * 2 + 1, none⟩ = some (.int .i64 (r.getD i cz).2)) := Lib.hid (fun i hi => by
    obtain ⟨f0, f1⟩ := flat_at r i hi
    exact ⟨hcell _ _ f0, hcell _ _ f1⟩)
  obtain ⟨c0, c1⟩ := HFL.out c (by omega)
  have hd : decide ((r.length : Int) ≤ (c : Int)) = false := decide_eq_false (by omega)
  have hin : (c : Int) < (r.length : Int) := by omega
  have hnil : ¬ r = [] := by rintro rfl; simp at hl
  have hnl : ¬ r.length ≤ c := hl
  clear h hcell hfz
  obtain ⟨x, hx⟩ : ∃ x, r.getD c cz = x := ⟨_, rfl⟩
  rw [hx] at c0 c1
  obtain ⟨xt, xn⟩ := x
  dsimp only at c0 c1
  by_cases h0 : xn = 0
  · subst h0
    cases c with
    | zero =>
      rw [half_none r 0 (fun _ => rfl) (fun e => by rw [hx] at e; exact absurd (show (0 : Int) = 2 from e) (by decide))]
      clear hx
      simp only [Nat.zero_mul, Nat.add_zero] at c0 c1
      go_enter Tryd.func62, Tryd.ntmps62
      go_wp2
      go_returns
      exact ⟨rfl, HO.out, Upd.refl _ _⟩
    | succ c =>
      rw [half_left r c (by omega) (by rw [hx])]
      have hcc : ((c : Nat) : Int) + 1 - 1 = (c : Int) := by omega
      have hin2 : (c : Int) < (r.length : Int) := by omega
      obtain ⟨b0, b1⟩ := HFL.out c (by omega)
      clear hx
      go_enter Tryd.func62, Tryd.ntmps62
      go_wp2_with (go_at_call 61; refine (blank_ _).mono ?_; rintro e w1 ⟨rfl, hb⟩; have ho1 := HO.out.keep (w' := w1) (fun k hk => hb.block k (HO.out.lt k hk)); have hfz1 : ∀ j, w1.frozen? ⟨g, j, none⟩ = false := (fun j => ho1.frozen j); have d0 := (hb.cell (p := ⟨g, off + c * 2, none⟩) hg).trans b0; have d1 := (hb.cell (p := ⟨g, off + c * 2 + 1, none⟩) hg).trans b1; have a1 := (hb.cell (p := ⟨g, off + (c + 1) * 2 + 1, none⟩) hg).trans c1; have HO1 := Lib.hid ho1; have HB := Lib.hid hb; clear hb ho1)
      go_returns
      exact ⟨rfl, row_set HO1.out c (by omega) cb, upd_set2 (Upd.below HB.out _) (by simp [Value.ownBlock]) _ _⟩
  · have n0 : (xn == 0) = false := by rw [beq_eq_false_iff_ne]; exact h0
    by_cases h2 : xn = 2
    · subst h2
      by_cases hr : c + 1 < r.length
      · rw [half_right r c hr (by rw [hx])]
        have hin2 : (c : Int) + 1 < (r.length : Int) := by omega
        obtain ⟨b0, b1⟩ := HFL.out (c + 1) hr
        have hd2 : decide ((c : Int) + 1 < (r.length : Int)) = true := decide_eq_true hin2
        have hrr : c + 1 < r.length := hr
        clear hx
        go_enter Tryd.func62, Tryd.ntmps62
        go_wp2_with (go_at_call 61; refine (blank_ _).mono ?_; rintro e w1 ⟨rfl, hb⟩; have ho1 := HO.out.keep (w' := w1) (fun k hk => hb.block k (HO.out.lt k hk)); have hfz1 : ∀ j, w1.frozen? ⟨g, j, none⟩ = false := (fun j => ho1.frozen j); have d0 := (hb.cell (p := ⟨g, off + (c + 1) * 2, none⟩) hg).trans b0; have d1 := (hb.cell (p := ⟨g, off + (c + 1) * 2 + 1, none⟩) hg).trans b1; have a1 := (hb.cell (p := ⟨g, off + c * 2 + 1, none⟩) hg).trans c1; have HO1 := Lib.hid ho1; have HB := Lib.hid hb; clear hb ho1)
        go_returns
        exact ⟨rfl, row_set HO1.out (c + 1) hr cb, upd_set2 (Upd.below HB.out _) (by simp [Value.ownBlock]) _ _⟩
      · rw [half_none r c (fun e => by rw [hx] at e; exact absurd (show (2 : Int) = 0 from e) (by decide)) (fun _ => by omega)]
        have hd2 : decide ((c : Int) + 1 < (r.length : Int)) = false := decide_eq_false (by omega)
        have hrr : ¬ c + 1 < r.length := hr
        clear hx
        go_enter Tryd.func62, Tryd.ntmps62
        go_wp2
        go_returns
        exact ⟨rfl, HO.out, Upd.refl _ _⟩
    · have n2 : (xn == 2) = false := by rw [beq_eq_false_iff_ne]; exact h2
      rw [half_none r c (fun e => by rw [hx] at e; exact absurd e h0) (fun e => by rw [hx] at e; exact absurd e h2)]
      clear hx
      go_enter Tryd.func62, Tryd.ntmps62
      go_wp2
      go_returns
      exact ⟨rfl, HO.out, Upd.refl _ _⟩
end
end U
end Go.Proofs.YtceomobdolkfgaaDoor
/- The screen's walks: a row put into the rows; slices.Clone; clearRow; down. -/
set_option linter.unusedVariables false
namespace Go.Proofs.YtceomobdolkfgaaDoor
open Go.RowKit Go.Proofs.YtceomobdolkfgaaDoorW.PrintWords Go.Proofs.YtceomobdolkfgaaDoor.Sep
namespace U
theorem still_tail {P : Program} {id : Nat} {Q : Exit → Act → World → Prop} {a : Act} {w : World} {l : List Oper} (n : Nat) (hm : P.follows .mixedOrders = true) (hB : Region.lexTailB .any l.toArray n = true)
    (h : ∀ w2, w2 = w.drew → wpStill P l.toArray w2 (fun a' => wpList P l.toArray Q (l.drop n) a' w2) (l.take n) a) : (Code.region id l.toArray true).wp P Q a w := wp_region_still_tail n hm hB (h _ rfl)
theorem getD_setv (vs : List Value) (i j : Nat) (v : Value) (h : i < vs.length) : (vs.set i v).getD j .nilIface = if i = j then v else vs.getD j .nilIface := by
  rw [List.getD_eq_getElem?_getD, List.getElem?_set]
  by_cases e : i = j
  · subst e; simp [h]
  · rw [if_neg e, if_neg e, List.getD_eq_getElem?_getD]
section
variable {w w' w1 : World} {m : Mem} {rows : List Row}
theorem RowsAt.vlen (h : RowsAt w m rows) : m.vs.length = rows.length := by have := h.own.1; omega
/-- A row is written anew in its own block, or in a new one, and put into the rows. -/
theorem RowsAt.put (h : RowsAt w m rows) {i g off c : Nat} (hi : i < rows.length) (hv : m.rv = .slice (some ⟨g, off, none⟩) rows.length c) (hu : Upd (fun k => (m.v i).ownBlock = some k) w w1) {v' : Value} {r' : Row}
    (ho : OwnS w1 32 2 v' r'.length (flat r')) (hb : ∀ k, v'.ownBlock = some k → (m.v i).ownBlock = some k ∨ w.heap.size ≤ k) : RowsAt (w1.setCell ⟨g, off + i, none⟩ v') ⟨m.rv, m.vs.set i v'⟩ (rows.set i r') := by
  have hlen := h.vlen
  have hgo : m.rv.ownBlock = some g := by rw [hv]; simp [Value.ownBlock]
  have hglt := h.own.lt g hgo
  have hvi : ∀ j, Mem.v ⟨m.rv, m.vs.set i v'⟩ j = if i = j then v' else m.v j := fun j => getD_setv _ _ _ _ (by omega)
  have hne : ∀ k, v'.ownBlock = some k → k ≠ g := fun k hk e => by
    subst e
    rcases hb k hk with h1 | h1
    · exact h.ne_rv hi h1 hgo
    · omega
  refine ⟨?_, fun j hj => ?_, fun j j2 k hj hj2 hne2 hk => ?_⟩
  · rw [List.length_set]
    have h1 := h.own.upd hu (fun k hk e => h.ne_rv hi e hk)
    have e : OwnS w1 33 1 (.slice (some ⟨g, off, none⟩) rows.length c) rows.length m.vs := hv ▸ h1
    have := own_set e i (by omega) v'
    rw [← hv] at this
    exact this
  · rw [List.length_set] at hj
    rw [hvi, getD_set _ _ _ _ hi]
    by_cases e : i = j
    · subst e
      rw [if_pos rfl, if_pos rfl]
      exact own_far ho (fun e => hne _ e rfl) _
    · rw [if_neg e, if_neg e]
      refine own_far ((h.row j hj).upd hu (fun k hk e2 => h.sep i j k hi hj e e2 hk)) (fun e2 => ?_) _
      exact h.ne_rv hj e2 hgo
  · rw [List.length_set] at hj hj2
    rw [hvi] at hk ⊢
    by_cases e : i = j
    · subst e
      rw [if_pos rfl] at hk
      rw [if_neg hne2]
      rcases hb k hk with h1 | h1
      · exact h.sep _ _ k hi hj2 hne2 h1
      · intro e3
        have := (h.row _ hj2).lt k e3
        omega
    · rw [if_neg e] at hk
      by_cases e2 : i = j2
      · subst e2
        rw [if_pos rfl]
        intro e3
        rcases hb k e3 with h1 | h1
        · exact h.sep _ _ k hi hj (fun x => e x) h1 hk
        · have := (h.row _ hj).lt k hk
          omega
      · rw [if_neg e2]
        exact h.sep _ _ k hj hj2 hne2 hk
theorem RowsAt.foot_put (h : RowsAt w m rows) {i : Nat} (hi : i < rows.length) {v' : Value} {r' : Row} (hb : ∀ k, v'.ownBlock = some k → (m.v i).ownBlock = some k ∨ w.heap.size ≤ k) : ∀ k, Mem.foot ⟨m.rv, m.vs.set i v'⟩ (rows.set i r').length k → m.foot rows.length k ∨ w.heap.size ≤ k := by
  have hlen := h.vlen
  rintro k (hk | ⟨j, hj, hk⟩)
  · exact .inl (.inl hk)
  · rw [List.length_set] at hj
    rw [show Mem.v ⟨m.rv, m.vs.set i v'⟩ j = if i = j then v' else m.v j from getD_setv _ _ _ _ (by omega)] at hk
    by_cases e : i = j
    · subst e
      rw [if_pos rfl] at hk
      rcases hb k hk with h1 | h1
      · exact .inl (.inr ⟨i, hi, h1⟩)
      · exact .inr h1
    · rw [if_neg e] at hk
      exact .inl (.inr ⟨j, hj, hk⟩)
/-- The first row goes: its place in a new slice. -/
theorem RowsAt.tail (h : RowsAt w m rows) {rv' : Value} (ho : OwnS w' 33 1 rv' (rows.drop 1).length (m.vs.drop 1)) (hu : Below w.heap.size w w') : RowsAt w' ⟨rv', m.vs.drop 1⟩ (rows.drop 1) := by
  have hb := h.below hu
  have hv : ∀ i, Mem.v ⟨rv', m.vs.drop 1⟩ i = m.v (1 + i) := fun i => by unfold Mem.v; simp [List.getD, Nat.add_comm]
  have hr : ∀ i, (rows.drop 1).getD i [] = rows.getD (1 + i) [] := fun i => by simp [List.getD, Nat.add_comm]
  refine ⟨ho, fun i hi => ?_, fun i j k hi hj hne hk => ?_⟩
  · rw [List.length_drop] at hi
    rw [hv, hr]
    exact hb.row (1 + i) (by omega)
  · rw [List.length_drop] at hi hj
    rw [hv] at hk ⊢
    exact hb.sep (1 + i) (1 + j) k (by omega) (by omega) (by omega) hk
/-- An empty row more. -/
theorem RowsAt.snoc (h : RowsAt w m rows) {rv' : Value} {v : Value} (hv : v = .slice none 0 0) (ho : OwnS w' 33 1 rv' (rows.length + 1) (m.vs ++ [v])) (hk : ∀ i k, i < rows.length → (m.v i).ownBlock = some k → w'.heap[k]? = w.heap[k]?) : RowsAt w' ⟨rv', m.vs ++ [v]⟩ (rows ++ [[]]) := by
  have hlen := h.vlen
  have hvi : ∀ i, i < rows.length → Mem.v ⟨rv', m.vs ++ [v]⟩ i = m.v i := fun i hi => by
    unfold Mem.v
    simp [List.getD, List.getElem?_append_left (show i < m.vs.length by omega)]
  have hvn : Mem.v ⟨rv', m.vs ++ [v]⟩ rows.length = v := by
    unfold Mem.v
    simp [List.getD, ← hlen]
  have hri : ∀ i, i < rows.length → (rows ++ [[]]).getD i [] = rows.getD i [] := fun i hi => by simp [List.getD, List.getElem?_append_left hi]
  have hrn : (rows ++ [[]]).getD rows.length [] = ([] : Row) := by simp [List.getD]
  refine ⟨by rw [List.length_append]; exact ho, fun i hi => ?_, fun i j k hi hj hne hkk => ?_⟩
  · rw [List.length_append] at hi
    by_cases e : i < rows.length
    · rw [hvi i e, hri i e]
      exact (h.row i e).keep fun k h1 => hk i k e h1
    · obtain rfl : i = rows.length := by simp at hi; omega
      rw [hvn, hrn, hv]
      exact OwnS.nil _ _ _
  · rw [List.length_append] at hi hj
    by_cases e : i < rows.length
    · rw [hvi i e] at hkk
      by_cases e2 : j < rows.length
      · rw [hvi j e2]; exact h.sep i j k e e2 hne hkk
      · obtain rfl : j = rows.length := by simp at hj; omega
        rw [hvn, hv]
        simp [Value.ownBlock]
    · obtain rfl : i = rows.length := by simp at hi; omega
      rw [hvn, hv] at hkk
      simp [Value.ownBlock] at hkk
end
end U
end Go.Proofs.YtceomobdolkfgaaDoor
/- slices.Clone of rows and of cells; the screen's clearRow and down. -/
set_option linter.unusedVariables false
namespace Go.Proofs.YtceomobdolkfgaaDoor
open Go.RowKit Go.Proofs.YtceomobdolkfgaaDoorW.PrintWords Go.Proofs.YtceomobdolkfgaaDoor.Sep
namespace U
theorem info_row : (Tryd.prog.info? 33).map (fun i => (i.zero, i.size, i.bytes)) = some (some (.slice none 0 0), 1, 24) := by kernel_rfl
theorem info_cell : (Tryd.prog.info? 32).map (fun i => (i.zero, i.size, i.bytes)) = some (some (.agg #[.string ⟨#[]⟩, .int .i64 0]), 2, 24) := by kernel_rfl
set_option maxHeartbeats 4000000
set_option maxRecDepth 100000
theorem clone_r (w : World) (A : Option Addr) (n c : Nat) (xs : List Value) (hr : Reads w w.heap.size 1 A n xs) (h1 : ∀ u ∈ xs, u.oneCell' = true) (hn : n ≤ 1099511627776) :
    Calls Tryd.prog 72 #[.slice A n c] w fun e w' => ∃ v, e = .returned v ∧ OwnS w' 33 1 v n xs ∧ (∀ k, v.ownBlock = some k → w.heap.size ≤ k) ∧ Below w.heap.size w w' := by
  obtain ⟨i0, hi, hz0, hz1, hz2⟩ := info_parts info_row
  have hq := fun (w : World) (a : Option Addr) (n c n' c' : Nat) => Lib.run_eql_slice_nil (P := Tryd.prog) w _ _ a n c n' c' Tryd.underlying24
  cases A with
  | none =>
    have hn0 : n = 0 := by
      rcases Nat.eq_zero_or_pos n with h0 | h0
      · exact h0
      · obtain ⟨ad, h, _⟩ := hr.2 h0
        cases h
    subst hn0
    have hx : xs = [] := List.eq_nil_of_length_eq_zero (by simpa using hr.1)
    subst hx
    go_enter Tryd.func72, Tryd.ntmps72
    go_wp2
    go_ret
    exact ⟨_, rfl, OwnS.nil _ _ _, fun k hk => (by cases hk), Below.refl _ _⟩
  | some ad =>
    have HR := Lib.hid hr
    have m1 : 0 + n ≤ maxLen := by unfold maxLen; omega
    have m2 : (0 + n) * 24 ≤ 140737488355328 := by omega
    clear hr
    have hown := OwnS.new w 33 1 0 [] rfl (by unfold maxLen; omega)
    have hrd := HR.out.alloc (Nat.le_refl _) (.cells #[] 33)
    go_enter Tryd.func72, Tryd.ntmps72
    go_wp2_with (at_builtin; refine wpList_append_s (v := .slice (some ⟨w.heap.size, 0, none⟩) 0 0) rfl (.tmp 5) (.tmp 6) _ rfl Tryd.underlying24 hi hz0 hz1 hz2 rfl (by omega) rfl hown rfl hrd h1 m1 m2 ?_; intro v8 w8 ho8 hg8 hb8; have HO8 := Lib.hid ho8; have HG8 := Lib.hid hg8; have HB8 := Lib.hid hb8; clear ho8 hg8 hb8)
    go_ret
    refine ⟨v8, rfl, by simpa using HO8.out, fun k hk => ?_, ((below_one w _).trans (((Below.refl w.heap.size (w.alloc (.cells #[] 33))).grown HG8.out (by simp) (fun k hk => by simp [Value.ownBlock] at hk; omega))))⟩
    rcases HB8.out with e | e
    · rw [e] at hk
      simp [Value.ownBlock] at hk
      omega
    · have := e k hk
      simp at this
      omega
theorem clone_c (w : World) (A : Option Addr) (n c : Nat) (xs : List Value) (hr : Reads w w.heap.size 2 A n xs) (h1 : ∀ u ∈ xs, u.oneCell' = true) (hn : n ≤ 1099511627776) :
    Calls Tryd.prog 33 #[.slice A n c] w fun e w' => ∃ v, e = .returned v ∧ OwnS w' 32 2 v n xs ∧ (∀ k, v.ownBlock = some k → w.heap.size ≤ k) ∧ Below w.heap.size w w' := by
  obtain ⟨i0, hi, hz0, hz1, hz2⟩ := info_parts info_cell
  have hq := fun (w : World) (a : Option Addr) (n c n' c' : Nat) => Lib.run_eql_slice_nil (P := Tryd.prog) w _ _ a n c n' c' Tryd.underlying33
  cases A with
  | none =>
    have hn0 : n = 0 := by
      rcases Nat.eq_zero_or_pos n with h0 | h0
      · exact h0
      · obtain ⟨ad, h, _⟩ := hr.2 h0
        cases h
    subst hn0
    have hx : xs = [] := List.eq_nil_of_length_eq_zero (by simpa using hr.1)
    subst hx
    go_enter Tryd.func33, Tryd.ntmps33
    go_wp2
    go_ret
    exact ⟨_, rfl, OwnS.nil _ _ _, fun k hk => (by cases hk), Below.refl _ _⟩
  | some ad =>
    have HR := Lib.hid hr
    have m1 : 0 + n ≤ maxLen := by unfold maxLen; omega
    have m2 : (0 + n) * 24 ≤ 140737488355328 := by omega
    clear hr
    have hown := OwnS.new w 32 2 0 [] rfl (by unfold maxLen; omega)
    have hrd := HR.out.alloc (Nat.le_refl _) (.cells #[] 32)
    go_enter Tryd.func33, Tryd.ntmps33
    go_wp2_with (at_builtin; refine wpList_append_s (v := .slice (some ⟨w.heap.size, 0, none⟩) 0 0) rfl (.tmp 5) (.tmp 6) _ rfl Tryd.underlying33 hi hz0 hz1 hz2 rfl (by omega) rfl hown rfl hrd h1 m1 m2 ?_; intro v8 w8 ho8 hg8 hb8; have HO8 := Lib.hid ho8; have HG8 := Lib.hid hg8; have HB8 := Lib.hid hb8; clear ho8 hg8 hb8)
    go_ret
    refine ⟨v8, rfl, by simpa using HO8.out, fun k hk => ?_, ((below_one w _).trans (((Below.refl w.heap.size (w.alloc (.cells #[] 32))).grown HG8.out (by simp) (fun k hk => by simp [Value.ownBlock] at hk; omega))))⟩
    rcases HB8.out with e | e
    · rw [e] at hk
      simp [Value.ownBlock] at hk
      omega
    · have := e k hk
      simp at this
      omega
end U
end Go.Proofs.YtceomobdolkfgaaDoor
/- The screen's walks: row, Rows, Shows. -/
set_option linter.unusedVariables false
namespace Go.Proofs.YtceomobdolkfgaaDoor
open Go.RowKit Go.Proofs.YtceomobdolkfgaaDoorW.PrintWords Go.Proofs.YtceomobdolkfgaaDoor.Sep
namespace U
theorem flds_p : ∃ f0 f1 : Field, (Tryd.prog.fieldsOf 26).toList = [f0, f1] ∧ ((f0.name == "_") = false ∧ f0.type = 3 ∧ f0.offset = 0) ∧ ((f1.name == "_") = false ∧ f1.type = 3 ∧ f1.offset = 1) := by
  have h : ((Tryd.prog.fieldsOf 26).toList.map fun f => (f.name == "_", f.type, f.offset)) = [(false, 3, 0), (false, 3, 1)] := by kernel_rfl
  generalize (Tryd.prog.fieldsOf 26).toList = l at h
  rcases l with _ | ⟨f0, _ | ⟨f1, _ | ⟨f2, l⟩⟩⟩ <;> simp at h
  exact ⟨f0, f1, rfl, by simp [h], by simp [h]⟩
theorem und_p : Tryd.prog.underlying 26 = some (.struct (Tryd.prog.fieldsOf 26)) := by kernel_rfl
theorem equal_p (w : World) (a b c d : Int) : (Op.equalIn 10000 26 (.agg #[.int .i64 a, .int .i64 b]) (.agg #[.int .i64 c, .int .i64 d])).run Tryd.prog w = .ok ((a == c) && (b == d)) w := by
  refine eqA_of und_p (by kernel_rfl) ?_
  obtain ⟨f0, f1, h, ⟨n0, t0, o0⟩, ⟨n1, t1, o1⟩⟩ := flds_p
  rw [h]
  refine eqf_cons n0 (a := .int .i64 a) (b := .int .i64 c) (by rw [t0, o0]; kernel_rfl) (by rw [t0, o0]; kernel_rfl) (by rw [t0]; exact run_equalIn_int _ _ _ _ _ _ _ Tryd.underlying3) ?_
  exact eqf_last n1 (a := .int .i64 b) (b := .int .i64 d) (by rw [t1, o1]; kernel_rfl) (by rw [t1, o1]; kernel_rfl) (by rw [t1]; exact run_equalIn_int _ _ _ _ _ _ _ Tryd.underlying3)
theorem neq_p (w : World) (a b : Int) : (binOp .neq 26 (.agg #[.int .i64 a, .int .i64 b]) (.agg #[.int .i64 a, .int .i64 b])).run Tryd.prog w = .ok (.bool false) w := by
  rw [run_neq_struct, equal_p]
  simp [Result.andThen]
theorem trim_len (r : Row) : (trim r).length ≤ r.length := by
  have : ∀ n (r : Row), (trimN n r).length ≤ r.length := by
    intro n
    induction n with
    | zero => intro r; exact Nat.le_refl _
    | succ n ih =>
      intro r
      unfold trimN
      split
      · have := ih (r.take (r.length - 1))
        rw [List.length_take] at this
        omega
      · exact Nat.le_refl _
  exact this _ _
theorem reads_own {w : World} {v : Value} {r : Row} (h : OwnS w 32 2 v r.length (flat r)) : ∃ A c, v = .slice A r.length c ∧ r.length ≤ c ∧ Reads w w.heap.size 2 A r.length (flat r) := by
  obtain ⟨A, c, rfl, hc⟩ := h.form
  exact ⟨A, c, rfl, hc, h.reads⟩
theorem flat_take (r : Row) (n : Nat) : flat (r.take n) = (flat r).take (n * 2) := by
  induction r generalizing n with
  | nil => simp [flat]
  | cons a l ih =>
    cases n with
    | zero => simp [flat]
    | succ n =>
      have e1 : (n + 1) * 2 = n * 2 + 1 + 1 := by omega
      show ccells a ++ flat (l.take n) = _
      rw [ih, e1]
      rfl
theorem reads_take {w : World} {B : Nat} {A : Option Addr} {n m : Nat} {xs : List Value} (h : Reads w B 2 A n xs) (hm : m ≤ n) : Reads w B 2 A m (xs.take (m * 2)) := by
  refine ⟨by rw [List.length_take, h.1]; omega, fun h0 => ?_⟩
  obtain ⟨ad, e, hb, hc⟩ := h.2 (by omega)
  refine ⟨ad, e, hb, fun j u hu => hc j u ?_⟩
  rw [List.getElem?_take] at hu
  split at hu
  · exact hu
  · cases hu
section
variable {w w' : World} {p : Nat} {t : TS} {m : Mem}
set_option maxHeartbeats 4000000
set_option maxRecDepth 100000
theorem row_s (h : At w p t m) (hi : t.Inv) (i : Nat) : Calls Tryd.prog 23 #[.pointer (some ⟨p, 0, none⟩), .int .i64 i] w fun e w' => ∃ A c, e = .returned (.slice A (trim (t.rows.getD i [])).length c) ∧ RdRow w' (.slice A (trim (t.rows.getD i [])).length c) (trim (t.rows.getD i [])) ∧ Below w.heap.size w w' := by
  obtain ⟨-, -, c2, -⟩ := h.cells
  by_cases hl : i < t.rows.length
  · obtain ⟨g, off, c, hv, hg, hc, hcell, -⟩ := own_cell h.rows.own (by omega)
    rw [hv] at c2
    have hlen : m.vs.length = t.rows.length := by have := h.rows.own.1; omega
    have r0 := hcell i (m.v i) (by unfold Mem.v; rw [List.getD_eq_getElem?_getD, List.getElem?_eq_getElem (by omega)]; rfl)
    obtain ⟨A, c', hvi, hc', hrd⟩ := reads_own (h.rows.row i hl)
    rw [hvi] at r0
    have hlen2 := hi.len i hl
    have hw2 := hi.w2
    obtain ⟨q, hq⟩ : ∃ q, t.rows.getD i [] = q := ⟨_, rfl⟩
    rw [hq] at r0 hrd hc' hlen2 ⊢
    have HT := Lib.hid (trimmed_ q A c' hc' hrd (by omega))
    have HR := Lib.hid hrd
    have hin : (i : Int) < (t.rows.length : Int) := by omega
    have hd : decide ((t.rows.length : Int) ≤ (i : Int)) = false := decide_eq_false (by omega)
    have hcc := Lib.hid hc'
    clear h hcell hv hvi hrd hq hc'
    go_enter Tryd.func23, Tryd.ntmps23
    go_wp2_with (go_at_call 43; refine HT.out.mono ?_; rintro e w1 ⟨rfl, hq, hb⟩; have HQ := Lib.hid hq; have HB := Lib.hid hb; clear hq hb)
    go_ret
    refine ⟨A, c', rfl, ⟨A, c', rfl, Nat.le_trans (trim_len q) hcc.out, ?_⟩, HB.out⟩
    have hr := ((HR.out.below HB.out).more HB.out.size)
    have := reads_take hr (trim_len q)
    rwa [← flat_take, ← HQ.out] at this
  · have e0 : t.rows.getD i [] = [] := by rw [List.getD_eq_getElem?_getD, List.getElem?_eq_none (by omega)]; rfl
    rw [e0]
    have e1 : trim [] = [] := rfl
    rw [e1]
    obtain ⟨A, c, hv, -⟩ := h.rows.own.form
    rw [hv] at c2
    have hd : decide ((t.rows.length : Int) ≤ (i : Int)) = true := decide_eq_true (by omega)
    clear h hv e0 e1
    go_enter Tryd.func23, Tryd.ntmps23
    go_wp2
    go_ret
    exact ⟨none, 0, rfl, ⟨none, 0, rfl, Nat.le_refl _, Reads.none_⟩, Below.refl _ _⟩
theorem rows_s (h : At w p t m) (hi : t.Inv) : Calls Tryd.prog 21 #[.pointer (some ⟨p, 0, none⟩)] w fun e w' => e = .returned (.int .i64 ((max (max (nrN t.rows t.rows.length) (t.row + 1)) 1 : Nat) : Int)) ∧ Below w.heap.size w w' := by
  have HA := Lib.hid h
  have HI := Lib.hid hi
  have HRD := Lib.hid (ready_ h hi)
  obtain ⟨A, c, hv, -⟩ := h.rows.own.form
  have hle := hi.rows
  have hh2 := hi.h2
  have hr2 := hi.row
  have HV := Lib.hid hv
  clear h hi hv
  obtain ⟨res, hres⟩ : ∃ n, nrN t.rows t.rows.length = n := ⟨_, rfl⟩
  rw [hres]
  go_enter Tryd.func21, Tryd.ntmps21
  go_wp2_with (go_at_call 19; refine HRD.out.mono ?_; rintro e w1 ⟨rfl, hb⟩; have HB1 := Lib.hid hb; obtain ⟨-, -, c2, -⟩ := (HA.out.below hb).cells; rw [HV.out] at c2; clear hb)
  go_loopg [3] t.rows.length (fun k v3 w' => ∃ n : Nat, v3 = .int .i64 n ∧ n = k ∧ n ≤ t.rows.length ∧ Hid (nrN t.rows n = res) ∧ Hid (Below w.heap.size w w'))
  case atStart => exact ⟨_, rfl, rfl, Nat.le_refl _, Lib.hid hres, Lib.hid HB1.out⟩
  case round =>
    obtain ⟨n, rfl, hnk, hle2, HN, HW⟩ := hrel
    subst hnk
    obtain ⟨-, -, -, c3, -⟩ := (HA.out.below HW.out).cells
    clear c2 hres
    cases n with
    | zero =>
      have hr : 0 = res := HN.out
      subst hr
      go_wp2
      go_ret
      exact ⟨by first | (simp; done) | (simp; omega), HW.out⟩
    | succ n =>
      have HRW := Lib.hid (row_s (HA.out.below HW.out) HI.out n)
      have hcn : ((n : Nat) : Int) + 1 - 1 = (n : Int) := by omega
      have hN := HN.out
      unfold nrN at hN
      by_cases h0 : (trim (t.rows.getD n [])).length = 0
      · rw [if_pos h0] at hN
        have HN2 := Lib.hid hN
        rw [h0] at HRW
        clear hN h0
        go_wp2_with (go_at_call 23; refine HRW.out.mono ?_; rintro e w2 ⟨A2, c2', rfl, -, hb⟩; have HB2 := Lib.hid (below_then HW.out hb); clear hb)
        go_roundg n
        case measure => omega
        case rel => exact ⟨n, by simp, rfl, by omega, HN2, HB2⟩
      · rw [if_neg h0] at hN
        subst hN
        generalize (trim (t.rows.getD n [])).length = k at HRW h0
        have hk : ((k : Int) == 0) = false := by rw [beq_eq_false_iff_ne]; omega
        go_wp2_with (go_at_call 23; refine HRW.out.mono ?_; rintro e w2 ⟨A2, c2', rfl, -, hb⟩; have HB2 := Lib.hid (below_then HW.out hb); obtain ⟨-, -, -, c3', -⟩ := (HA.out.below HB2.out).cells; clear hb)
        all_goals go_ret
        all_goals exact ⟨by first | (simp; done) | (simp; omega), HB2.out⟩
theorem shows_ (h : At w p t m) (hi : t.Inv) (fW : Int) (v : Value) (cr cc : Int) (rs : List Row) (hr : RdRows w v rs) (hok : RowsOk rs) (hs : shows t fW rs cr cc = true) :
    Calls Tryd.prog 8 #[.pointer (some ⟨p, 0, none⟩), .agg #[.int .i64 fW, v, .int .i64 cr, .int .i64 cc]] w fun e w' => e = .returned (.bool true) ∧ Below w.heap.size w w' := by
  unfold shows at hs
  obtain ⟨rfl, s1, s2, s3, rfl, rfl, s6⟩ := of_decide_eq_true hs
  have HA := Lib.hid h
  have HI := Lib.hid hi
  have HRR := Lib.hid hr
  have HS := Lib.hid s6
  have HOK := Lib.hid hok
  obtain ⟨A, c, vs, rfl, hc, hrd, hrow⟩ := hr
  have HRD := Lib.hid hrd
  have HROW := Lib.hid hrow
  have hl := hok.1
  have hlt := h.blk.lt
  obtain ⟨res, hres⟩ : ∃ n, max (max (nrN t.rows t.rows.length) (t.row + 1)) 1 = n := ⟨_, rfl⟩
  rw [hres] at s3
  have HRES := Lib.hid hres
  have hnp := fun w0 => neq_p w0 (t.row : Int) (t.col : Int)
  clear h hi hs s6 hrd hrow hok hres
  have d1 : decide ((rs.length : Int) < 1) = false := decide_eq_false (by omega)
  have d2 : decide ((t.H : Int) < (rs.length : Int)) = false := decide_eq_false (by omega)
  have d3 : decide ((rs.length : Int) < (res : Int)) = false := decide_eq_false (by omega)
  have n2 : ¬ t.H < rs.length := by omega
  have n3 : ¬ rs.length < res := by omega
  have n4 : decide (t.H < rs.length) = false := decide_eq_false n2
  have n5 : decide (rs.length < res) = false := decide_eq_false n3
  go_enter Tryd.func8, Tryd.ntmps8
  go_wp2
  have HK := Lib.hid (Blk.new w 28 #[.int .i64 t.W, .slice A rs.length c, .int .i64 t.row, .int .i64 t.col])
  have HB0 := Lib.hid (below_one w (.cells #[.int .i64 t.W, .slice A rs.length c, .int .i64 t.row, .int .i64 t.col] 28))
  obtain ⟨W1, hW1⟩ : ∃ W1, w.alloc (.cells #[.int .i64 t.W, .slice A rs.length c, .int .i64 t.row, .int .i64 t.col] 28) = W1 := ⟨_, rfl⟩
  rw [hW1] at HK HB0 ⊢
  clear hW1
  obtain ⟨ι, hι, Wf, hWf1, hWf2⟩ := world_class W1
  have g0 := fun j => (Blk.four (Blk.below HK.out (hWf1 j))).1
  have g1 := fun j => (Blk.four (Blk.below HK.out (hWf1 j))).2.1
  have g2 := fun j => (Blk.four (Blk.below HK.out (hWf1 j))).2.2.1
  have g3 := fun j => (Blk.four (Blk.below HK.out (hWf1 j))).2.2.2.1
  have k0 := fun j => (At.cells ((HA.out.below HB0.out).below (hWf1 j))).1
  have k1 := fun j => (At.cells ((HA.out.below HB0.out).below (hWf1 j))).2.1
  have k3 := fun j => (At.cells ((HA.out.below HB0.out).below (hWf1 j))).2.2.2.1
  have k4 := fun j => (At.cells ((HA.out.below HB0.out).below (hWf1 j))).2.2.2.2.1
  have Q1 : Hid (∀ j, Calls Tryd.prog 19 #[.pointer (some ⟨p, 0, none⟩)] (Wf j) fun e w'' => e = .returned (.bool true) ∧ ∃ j, w'' = Wf j) := Lib.hid (fun j => (ready_ ((HA.out.below HB0.out).below (hWf1 j)) HI.out).mono (fun e w1 h1 => ⟨h1.1, hWf2 _ ((hWf1 j).trans (h1.2.mono (hWf1 j).size))⟩))
  have Q2 : Hid (∀ j, Calls Tryd.prog 21 #[.pointer (some ⟨p, 0, none⟩)] (Wf j) fun e w'' => e = .returned (.int .i64 (res : Int)) ∧ ∃ j, w'' = Wf j) := Lib.hid (fun j => (rows_s ((HA.out.below HB0.out).below (hWf1 j)) HI.out).mono (fun e w1 h1 => ⟨by rw [h1.1, HRES.out], hWf2 _ ((hWf1 j).trans (h1.2.mono (hWf1 j).size))⟩))
  have HF1 := Lib.hid hWf1
  have hdr := hWf2 _ (show Below W1.heap.size W1 W1.drew from ⟨rfl, rfl, rfl, Nat.le_refl _, fun _ _ => rfl⟩)
  clear hWf1 hWf2
  refine region_class Wf (by kernel_rfl) (by kernel_rfl) hdr ?_
  clear hdr
  repeat (go_big_quiet_step (first | (go_at_call 19; with_reducible exact Q1.out _) | (go_at_call 21; with_reducible exact Q2.out _)))
  refine wpQuiet_nil ?_
  intro w9 hw9
  obtain ⟨j9, rfl⟩ := hw9
  have HB9 := Lib.hid (HB0.out.trans ((HF1.out j9).mono HB0.out.size))
  have z1 := g1 j9
  clear g0 g1 g2 g3 k0 k1 k3 k4 d1 d2 d3 n2 n3 n4 n5
  generalize Wf j9 = w9 at HB9 z1 ⊢
  go_wp2
  go_loopg [55] rs.length (fun k v5 w' => ∃ i : Nat, v5 = .int .i64 i ∧ i + k = rs.length ∧ Hid (Below w.heap.size w w'))
  case atStart => exact ⟨0, rfl, by omega, HB9⟩
  case round =>
    obtain ⟨i, rfl, hik, HW⟩ := hrel
    cases gk with
    | zero =>
      have e1 : decide ((i : Int) < (rs.length : Int)) = false := decide_eq_false (by omega)
      go_wp2
      go_ret
      exact ⟨rfl, HW.out⟩
    | succ k1 =>
      have hi : i < rs.length := by omega
      have e1 : decide ((i : Int) < (rs.length : Int)) = true := decide_eq_true (by omega)
      have hin : (i : Int) < (rs.length : Int) := by omega
      obtain ⟨g, off, rfl, hg, hcell⟩ := rows_base HRD.out (by omega)
      have c0 := (HW.out.cell (p := ⟨g, off + i, none⟩) hg).trans (hcell i hi)
      have hrow := HROW.out i hi
      have hro := HOK.out.2 i hi
      have hsx := HS.out i hi
      have HRW := Lib.hid (row_s (HA.out.below HW.out) HI.out i)
      rw [← hsx] at HRW
      obtain ⟨q, hq⟩ : ∃ q, rs.getD i [] = q := ⟨_, rfl⟩
      rw [hq] at hrow hro HRW
      have HEQ := Lib.hid (fun u w' (hb : Below wr.heap.size wr w') (hu : RdRow w' u q) => equal_ (vs.getD i .nilIface) u q q w' ((hrow.below HW.out).below hb) hu hro.1 hro.1)
      obtain ⟨A', c', hv, -, -⟩ := hrow
      rw [hv] at HEQ c0
      have hdd : decide (q = q) = true := by simp
      rw [hdd] at HEQ
      clear hcell hv hq hsx hdd
      go_wp2_with (first
        | (go_at_call 23; refine HRW.out.mono ?_; rintro e w2 ⟨A2, c2', rfl, hu, hb⟩; have HU := Lib.hid hu; have HB2 := Lib.hid hb; clear hu hb)
        | (go_at_call 22; refine (HEQ.out _ _ HB2.out HU.out).mono ?_; rintro e w3 ⟨rfl, hb⟩; have HB3 := Lib.hid (below_then HW.out (below_then HB2.out hb)); clear hb))
      go_roundg k1
      case measure => omega
      case rel => exact ⟨i + 1, by simp, by omega, HB3⟩
end
end U
end Go.Proofs.YtceomobdolkfgaaDoor
/- The screen's clearRow and down. -/
set_option linter.unusedVariables false
namespace Go.Proofs.YtceomobdolkfgaaDoor
open Go.RowKit Go.Proofs.YtceomobdolkfgaaDoorW.PrintWords Go.Proofs.YtceomobdolkfgaaDoor.Sep
namespace U
section
variable {w w' : World} {p : Nat} {t : TS} {m : Mem}
/-- What a call has made of a screen. -/
structure Turned (w w' : World) (p : Nat) (t : TS) (m : Mem) (t' : TS) (m' : Mem) : Prop where
  at_ : At w' p t' m'
  upd : Upd (foot p t m) w w'
  foot : ∀ k, foot p t' m' k → foot p t m k ∨ w.heap.size ≤ k
theorem Turned.refl (h : At w p t m) : Turned w w p t m t m := ⟨h, Upd.refl _ _, fun k hk => .inl hk⟩
theorem Turned.trans {w1 w2 : World} {t1 t2 : TS} {m1 m2 : Mem} (h : Turned w w1 p t m t1 m1) (g : Turned w1 w2 p t1 m1 t2 m2) : Turned w w2 p t m t2 m2 :=
  ⟨g.at_, h.upd.then_ g.upd h.foot, fun k hk => by
    rcases g.foot k hk with h1 | h1
    · exact h.foot k h1
    · exact .inr (Nat.le_trans h.upd.size h1)⟩
theorem Turned.below {t' : TS} {m' : Mem} {w1 w2 : World} (h : Turned w w1 p t m t' m') (hb : Below w1.heap.size w1 w2) : Turned w w2 p t m t' m' :=
  ⟨h.at_.below hb, h.upd.then_ (Upd.below hb No) (fun k hk => hk.elim), h.foot⟩
/-- The screen's own cells were written over. -/
theorem Turned.top {t' : TS} (h : At w p t m) (hr : t'.rows = t.rows) (hu : Upd (fun k => k = p) w w') (hb : Blk w' p 64 (scells t' m)) : Turned w w' p t m t' m :=
  ⟨h.top hr hu hb, hu.mono (fun k e => .inl e), fun k hk => .inl (by unfold U.foot at hk ⊢; rw [hr] at hk; exact hk)⟩
theorem foot_rows {t t' : TS} {m : Mem} {p k : Nat} (h : t'.rows.length = t.rows.length) (hk : foot p t' m k) : foot p t m k := by unfold foot at hk ⊢; rw [h] at hk; exact hk
set_option maxHeartbeats 4000000
set_option maxRecDepth 100000
theorem clearRow_ (h : At w p t m) (hi : t.Inv) (i c : Nat) : Calls Tryd.prog 71 #[.pointer (some ⟨p, 0, none⟩), .int .i64 i, .int .i64 c] w fun e w' => e = .returned (.tuple #[]) ∧ ∃ m', Turned w w' p t m { t with rows := clearRow t.rows i c } m' := by
  obtain ⟨-, -, c2, -⟩ := h.cells
  by_cases hl : t.rows.length ≤ i
  · have e0 : clearRow t.rows i c = t.rows := by unfold clearRow; rw [if_pos (.inl hl)]
    rw [e0]
    obtain ⟨A, cap, hv, -⟩ := h.rows.own.form
    rw [hv] at c2
    have hd : decide ((t.rows.length : Int) ≤ (i : Int)) = true := decide_eq_true (by omega)
    have hnl : t.rows.length ≤ i := hl
    have HA := Lib.hid h
    clear h hv e0
    go_enter Tryd.func71, Tryd.ntmps71
    go_wp2
    go_returns
    exact ⟨rfl, m, Turned.refl HA.out⟩
  obtain ⟨g, off, cap, hv, hg, hc, hcell, hfz⟩ := own_cell h.rows.own (by omega)
  rw [hv] at c2
  have hlen : m.vs.length = t.rows.length := h.rows.vlen
  have r0 := hcell i (m.v i) (by unfold Mem.v; rw [List.getD_eq_getElem?_getD, List.getElem?_eq_getElem (by omega)]; rfl)
  have hil : i < t.rows.length := by omega
  have horow := h.rows.row i hil
  obtain ⟨A, c', hvi, hc'⟩ := horow.form
  rw [hvi] at r0
  have hlen2 := hi.len i hil
  have hw2 := hi.w2
  obtain ⟨q, hq⟩ : ∃ q, t.rows.getD i [] = q := ⟨_, rfl⟩
  rw [hq] at r0 hc' hlen2 hvi horow
  have hin : (i : Int) < (t.rows.length : Int) := by omega
  have hd : decide ((t.rows.length : Int) ≤ (i : Int)) = false := decide_eq_false (by omega)
  have hnl : ¬ t.rows.length ≤ i := hl
  have HA := Lib.hid h
  by_cases hcq : q.length ≤ c
  · have e0 : clearRow t.rows i c = t.rows := by unfold clearRow; rw [if_pos (.inr (by rw [hq]; exact hcq))]
    rw [e0]
    clear h hv hvi horow hcell hq e0
    go_enter Tryd.func71, Tryd.ntmps71
    go_wp2
    go_returns
    exact ⟨rfl, m, Turned.refl HA.out⟩
  · have e0 : clearRow t.rows i c = t.rows.set i ((half q c).take c) := by unfold clearRow; rw [if_neg (by rw [hq]; omega), hq]
    rw [e0]
    have HCH := Lib.hid (clearHalf_ horow c (by omega))
    rw [hvi] at HCH
    have hcq' : ¬ q.length ≤ c := hcq
    have hccc : (c : Int) ≤ (c' : Int) := by omega
    have hpg : p ≠ g := fun e => h.pne (.inl (by rw [hv, e]; simp [Value.ownBlock]))
    have hpb : ∀ k, (Value.slice A q.length c').ownBlock = some k → k ≠ p := fun k hk e => h.pne (.inr ⟨i, hil, by rw [hvi, hk, e]⟩)
    have hgb : ∀ k, (Value.slice A q.length c').ownBlock = some k → k ≠ g := fun k hk e => h.rows.ne_rv hil (hvi ▸ hk) (by rw [hv, e]; simp [Value.ownBlock])
    have HPB := Lib.hid hpb
    have HGB := Lib.hid hgb
    have HVI := Lib.hid hvi
    have HV := Lib.hid hv
    have hplt := h.blk.lt
    have hlh : (half q c).length = q.length := half_len q c
    clear h hv hvi horow hcell hq e0 hpb hgb hcq
    go_enter Tryd.func71, Tryd.ntmps71
    go_wp2_with (go_at_call 62; refine HCH.out.mono ?_; rintro e w1 ⟨rfl, ho, hu⟩; have c2' := hu.cell c2 (fun e => HPB.out _ e rfl); have r0' := hu.cell r0 (fun e => HGB.out _ e rfl); have hfz' : ∀ j, w1.frozen? ⟨g, j, none⟩ = false := (fun j => by have := (HA.out.rows.own.upd hu (fun k hk e => HGB.out k e (by rw [HV.out] at hk; simpa [Value.ownBlock] using hk.symm))); rw [HV.out] at this; exact this.frozen j); have HO := Lib.hid ho; have HU := Lib.hid hu; clear ho hu)
    refine still_tail 15 (by kernel_rfl) (by kernel_rfl) (fun w2 hw2 => ?_)
    have HW2 := Lib.hid hw2
    have d2 : w2.cell? ⟨p, 2, none⟩ = some (.slice (some ⟨g, off, none⟩) t.rows.length cap) := by rw [hw2]; exact c2'
    have d0 : w2.cell? ⟨g, off + i, none⟩ = some (.slice A q.length c') := by rw [hw2]; exact r0'
    have df : ∀ j, w2.frozen? ⟨g, j, none⟩ = false := by rw [hw2]; exact hfz'
    have df1 := df (off + i)
    simp only [List.take_succ_cons, List.take_zero, List.drop_succ_cons, List.drop_zero]
    clear hw2 c2' r0' hfz' df
    repeat still_step
    refine wpStill_nil ?_
    go_wp2
    go_returns
    have hu2 : Upd (fun k => (m.v i).ownBlock = some k) w w2 := by rw [HW2.out, HVI.out]; exact HU.out.drew
    have ho2 : OwnS w2 32 2 (.slice A q.length c') (half q c).length (flat (half q c)) := by rw [HW2.out, hlh]; exact HO.out
    have ho3 : OwnS w2 32 2 (.slice A c c') ((half q c).take c).length (flat ((half q c).take c)) := by
      have hcl : ((half q c).take c).length = c := by rw [List.length_take, hlh]; omega
      rw [hcl, flat_take]
      rw [hlh] at ho2
      exact ho2.take c (by omega)
    have hob : ∀ k, (Value.slice A c c').ownBlock = some k → (m.v i).ownBlock = some k ∨ w.heap.size ≤ k := fun k hk => .inl (by rw [HVI.out]; cases A with | none => cases hk | some a => exact hk)
    have hrows := HA.out.rows.put hil HV.out hu2 ho3 hob
    have hft := HA.out.rows.foot_put hil (r' := (half q c).take c) hob
    have hgo : m.rv.ownBlock = some g := by rw [HV.out]; simp [Value.ownBlock]
    refine ⟨rfl, ⟨m.rv, m.vs.set i (.slice A c c')⟩, ⟨?_, hrows⟩, ?_, ?_⟩
    · exact (HA.out.blk.upd hu2 (fun e => HPB.out p (by rw [← HVI.out]; exact e) rfl)).far (by show p ≠ g; exact hpg) _
    · refine Upd.setCell (hu2.mono (fun k hk => .inr (.inr ⟨i, hil, hk⟩))) (.inl (.inr (.inl hgo))) _
    · rintro k (rfl | hk)
      · exact .inl (.inl rfl)
      · rcases hft k hk with h1 | h1
        · exact .inl (.inr h1)
        · exact .inr h1
end
end U
end Go.Proofs.YtceomobdolkfgaaDoor
/- The screen's down. -/
set_option linter.unusedVariables false
namespace Go.Proofs.YtceomobdolkfgaaDoor
open Go.RowKit Go.Proofs.YtceomobdolkfgaaDoorW.PrintWords Go.Proofs.YtceomobdolkfgaaDoor.Sep
namespace U
/-- All but the first of a slice: where it then begins is left open. -/
theorem slice1_ (w0 : World) {g off n cap : Nat} {vs : List Value} (h : OwnS w0 33 1 (.slice (some ⟨g, off, none⟩) n cap) n vs) (hn : 1 ≤ n) (hc : n ≤ cap) : ∃ A c1, (∀ w, (Instr.slice 24 (.slice (some ⟨g, off, none⟩) n cap) (some (.int .i64 1)) none none).run Tryd.prog w = .ok (.slice A (n - 1) c1) w) ∧
    (∀ w, (Instr.sliceAt 24 (.slice (some ⟨g, off, none⟩) n cap) (some (.int .i64 1)) none none).run Tryd.prog w = .ok (.slice A (n - 1) c1) w) ∧ ∀ w', Below w0.heap.size w0 w' → Reads w' w'.heap.size 1 A (n - 1) (vs.drop 1) := by
  have ht : Tryd.prog.underlying 24 = some (.slice (Tryd.prog.elem 24)) := by kernel_rfl
  have hz : ∀ w, (Go.sizeOf (Tryd.prog.elem 24)).run Tryd.prog w = .ok 1 w := fun w => by kernel_rfl
  have hrun : ∀ w, (Instr.slice 24 (.slice (some ⟨g, off, none⟩) n cap) (some (.int .i64 1)) none none).run Tryd.prog w = .ok (sliced (some ⟨g, off, none⟩) 1 n cap 1) w := fun w => by
    rw [run_slice_l w 24 _ _ _ ht .i64 1 (by omega) (by omega), hz]
    rfl
  have hv : sliced (some ⟨g, off, none⟩) 1 n cap 1 = .slice (some (if cap = 1 then ⟨g, off, none⟩ else ⟨g, off + 1, none⟩)) (n - 1) (cap - 1) := by
    unfold sliced
    split <;> simp [add_off_]
  rw [hv] at hrun
  refine ⟨_, _, hrun, fun w => by rw [run_sliceAt_slice _ _ _ _ _ _ ht]; exact hrun w, fun w' hb => ?_⟩
  have hr := (h.keep (w' := w') (fun k hk => hb.block k (h.lt k hk))).reads
  have := hr.cut (k := 1) (cap := cap) (by omega) (by omega)
  by_cases hcap : cap = 1
  · have hvl := h.1
    rw [if_pos hcap]
    exact ⟨by rw [List.length_drop]; omega, fun h => by omega⟩
  · rw [if_neg hcap] at this ⊢
    simpa [add_off_] using this
theorem v_drop (rv rv' : Value) (vs : List Value) (i : Nat) : Mem.v ⟨rv, vs.drop 1⟩ i = Mem.v ⟨rv', vs⟩ (1 + i) := by unfold Mem.v; simp [List.getD, Nat.add_comm]
theorem v_app_lt (rv : Value) (vs us : List Value) (i : Nat) (h : i < vs.length) : Mem.v ⟨rv, vs ++ us⟩ i = Mem.v ⟨rv, vs⟩ i := by unfold Mem.v; simp [List.getD, List.getElem?_append_left h]
theorem v_app_eq (rv : Value) (vs : List Value) (u : Value) : Mem.v ⟨rv, vs ++ [u]⟩ vs.length = u := by unfold Mem.v; simp [List.getD]
section
variable {w w' : World} {p : Nat} {t : TS} {m : Mem}
set_option maxHeartbeats 4000000
set_option maxRecDepth 100000
theorem sdown_ (h : At w p t m) (hi : t.Inv) : Calls Tryd.prog 54 #[.pointer (some ⟨p, 0, none⟩)] w fun e w' => e = .returned (.tuple #[]) ∧ ∃ m', Turned w w' p t m t.down m' := by
  obtain ⟨-, c1, c2, c3, -, -, -, -, -, -, cf⟩ := h.cells
  have cf3 := cf 3
  have cf2 := cf 2
  have hr := hi.row
  have hh1 := hi.h1
  have hh2 := hi.h2
  have hrs := hi.rows
  have HA := Lib.hid h
  have hplt := h.blk.lt
  by_cases h1 : t.row + 1 < t.H
  · have e0 : t.down = { t with row := t.row + 1 } := by unfold TS.down; rw [if_pos h1]
    rw [e0]
    obtain ⟨A, cap, hv, -⟩ := h.rows.own.form
    have hd : decide ((t.row : Int) < (t.H : Int) - 1) = true := decide_eq_true (by omega)
    have hd2 : (t.row : Int) < (t.H : Int) - 1 := by omega
    clear h hi e0
    go_enter Tryd.func54, Tryd.ntmps54
    go_wp2
    go_quiet (fail)
    go_wp2
    go_returns
    refine ⟨rfl, m, Turned.top HA.out rfl ?_ ?_⟩
    · exact Upd.setCell (p := ⟨p, 3, none⟩) ((Upd.refl (fun k => k = p) w).drewN _) (.inl rfl) _
    · exact Blk.eq_ ((HA.out.blk.drewN _).set_ 3 _) rfl
  · have hd : decide ((t.row : Int) < (t.H : Int) - 1) = false := decide_eq_false (by omega)
    have hd2 : ¬ (t.row : Int) < (t.H : Int) - 1 := by omega
    by_cases h0 : t.rows.length = 0
    · have e0 : t.down = t := by
        have hr0 : t.rows = [] := List.eq_nil_of_length_eq_zero h0
        unfold TS.down
        rw [if_neg h1, if_neg (by omega), hr0]
        cases t
        simp at hr0
        subst hr0
        rfl
      rw [e0]
      obtain ⟨A, cap, hv, -⟩ := h.rows.own.form
      rw [hv] at c2
      have hnh : ((t.rows.length : Int) == (t.H : Int)) = false := by rw [beq_eq_false_iff_ne]; omega
      have hnh2 : ¬ t.rows.length = t.H := by omega
      have hd0 : ¬ 0 < t.rows.length := by omega
      clear h hi e0 h1 h0
      go_enter Tryd.func54, Tryd.ntmps54
      go_wp2
      go_quiet (fail)
      go_wp2
      go_quiet (fail)
      go_wp2
      go_returns
      exact ⟨rfl, m, (Turned.refl HA.out).below (below_drewN_ (Below.refl _ _) _)⟩
    obtain ⟨g, off, cap, hv, hg, hc, hcell, hfz⟩ := own_cell h.rows.own (by omega)
    rw [hv] at c2
    have hpg : p ≠ g := fun e => h.pne (.inl (by rw [hv, e]; simp [Value.ownBlock]))
    have HRD := Lib.hid (fun w' (hb : Below w.heap.size w w') => ((show OwnS w 33 1 (.slice (some ⟨g, off, none⟩) t.rows.length cap) t.rows.length m.vs from hv ▸ h.rows.own).keep (fun k hk => hb.block k (by have := h.rows.own.lt k (by rw [hv]; exact hk); exact this))).reads)
    have hone : ∀ u ∈ m.vs, u.oneCell' = true := by
      intro u hu
      obtain ⟨j, hj, rfl⟩ := List.mem_iff_getElem.1 hu
      have hjl : j < t.rows.length := by have := h.rows.vlen; omega
      obtain ⟨A2, c2, e, -⟩ := (h.rows.row j hjl).form
      have e2 : m.v j = m.vs[j] := by unfold Mem.v; rw [List.getD_eq_getElem?_getD, List.getElem?_eq_getElem hj]; rfl
      rw [← e2, e]
      rfl
    have HONE := Lib.hid hone
    have h0p : 0 < t.rows.length := by omega
    have h1c : (1 : Int) ≤ (t.rows.length : Int) := by omega
    have h1d : (1 : Int) ≤ (cap : Int) := by omega
    have hvl := h.rows.vlen
    clear hone hcell hfz
    obtain ⟨A1, c1x, hs1, hs2, hrd1⟩ := slice1_ w (hv ▸ h.rows.own) (by omega) hc
    have HR1 := Lib.hid hrd1
    have HLE : Hid (t.rows.length - 1 ≤ 1099511627776) := Lib.hid (by omega)
    clear hrd1
    have HV := Lib.hid hv
    by_cases hH : t.rows.length = t.H
    · have e0 : t.down = { t with rows := t.rows.drop 1 ++ [[]] } := by unfold TS.down; rw [if_neg h1, if_pos hH]
      rw [e0]
      have hnh : ((t.rows.length : Int) == (t.H : Int)) = true := by rw [beq_iff_eq]; omega
      obtain ⟨i0, hi0, hz0, hz1, hz2⟩ := info_parts info_row
      have m1 : t.rows.length - 1 + 1 ≤ maxLen := by unfold maxLen; omega
      have m2 : (t.rows.length - 1 + 1) * 24 ≤ 140737488355328 := by omega
      have hone1 : ∀ u ∈ [Value.slice none 0 0], u.oneCell' = true := by intro u hu; simp at hu; subst hu; rfl
      clear h hi e0 h1 h0 hv hH
      go_enter Tryd.func54, Tryd.ntmps54
      go_wp2
      go_quiet (fail)
      go_wp2
      go_quiet (fail)
      go_wp2_with (first
        | (go_at_call 72; refine (clone_r _ _ _ _ (m.vs.drop 1) ?_ ?_ ?_).mono ?_; exact HR1.out _ (below_drewN_ (Below.refl _ _) _); exact (fun u hu => HONE.out u (List.mem_of_mem_drop hu)); exact HLE.out; rintro e w3 ⟨v3, rfl, ho, hfr, hb⟩; obtain ⟨A3, c3x, rfl, -⟩ := ho.form; have hb2 := below_undrewN hb; have ht := HA.out.rows.tail (by rw [List.length_drop]; exact ho) hb2; have hp3 := HA.out.below hb2; have pf := hp3.blk.frozen 2; have p2 := hp3.blk.cell 2; have HT := Lib.hid ht; have HO := Lib.hid ho; have HFR := Lib.hid hfr; have HB := Lib.hid hb2; have HP3 := Lib.hid hp3; clear ht ho hfr hb hb2 hp3; have hown := HO.out.keep (w' := w3.alloc (.cells #[.slice none 0 0] 33)) (fun k hk => Below.heap_alloc w3 _ k (HO.out.lt k hk)); have hrd := (OwnS.new w3 33 1 1 [.slice none 0 0] rfl (by unfold maxLen; omega)).reads; have hbx : Below w.heap.size w (w3.alloc (.cells #[.slice none 0 0] 33)) := HB.out.alloc HB.out.size _)
        | (at_builtin; refine wpList_append_s (v := .slice A3 (t.rows.length - 1) c3x) rfl (.tmp 38) (.tmp 39) _ rfl Tryd.underlying24 hi0 hz0 hz1 hz2 rfl (by omega) rfl hown rfl hrd hone1 m1 m2 ?_; intro v8 w8 ho8 hg8 hb8; obtain ⟨A8, c8, rfl, -⟩ := ho8.form; have hb9 : Below w.heap.size w w8 := hbx.grown hg8 (Nat.le_trans HB.out.size (by simp)) (fun k hk => HFR.out k hk); have hp8 := HA.out.below hb9; have pf8 := hp8.blk.frozen 2; have p28 := hp8.blk.cell 2; have HO8 := Lib.hid ho8; have HG8 := Lib.hid hg8; have HB8 := Lib.hid hb8; have HB9 := Lib.hid hb9; clear ho8 hg8 hb8 hb9 hp8))
      go_returns
      have hfoot8 : ∀ k, (Value.slice A8 (t.rows.length - 1 + 1) c8).ownBlock = some k → w.heap.size ≤ k := fun k hk => by
        rcases HB8.out with e | e
        · exact HFR.out k (by rw [← e]; exact hk)
        · have := e k hk
          have h2 := HB.out.size
          simp at this
          omega
      have hrow8 : RowsAt w8 ⟨.slice A8 (t.rows.length - 1 + 1) c8, m.vs.drop 1 ++ [.slice none 0 0]⟩ (t.rows.drop 1 ++ [[]]) := by
        refine HT.out.snoc rfl (by rw [List.length_drop]; exact HO8.out) (fun i k hi2 hk => ?_)
        rw [List.length_drop] at hi2
        have hvk : (m.v (1 + i)).ownBlock = some k := by
          have : Mem.v ⟨Value.slice A3 (t.rows.length - 1) c3x, m.vs.drop 1⟩ i = m.v (1 + i) := v_drop _ _ _ _
          rw [← this]; exact hk
        have hlt := (HA.out.rows.row (1 + i) (by omega)).lt k hvk
        refine (HB9.out.block k hlt).trans (HB.out.block k hlt).symm
      have hm8 : ∀ k, Mem.foot ⟨.slice A8 (t.rows.length - 1 + 1) c8, m.vs.drop 1 ++ [.slice none 0 0]⟩ (t.rows.drop 1 ++ [[]]).length k → m.foot t.rows.length k ∨ w.heap.size ≤ k := by
        rintro k (hk | ⟨i, hi2, hk⟩)
        · exact .inr (hfoot8 k hk)
        · rw [List.length_append, List.length_drop] at hi2
          by_cases hii : i < t.rows.length - 1
          · have hvk : Mem.v ⟨.slice A8 (t.rows.length - 1 + 1) c8, m.vs.drop 1 ++ [.slice none 0 0]⟩ i = m.v (1 + i) := (v_app_lt _ _ _ _ (by rw [List.length_drop]; omega)).trans (v_drop _ _ _ _)
            rw [hvk] at hk
            exact .inl (.inr ⟨1 + i, by omega, hk⟩)
          · have hie : i = (m.vs.drop 1).length := by rw [List.length_drop]; simp at hi2; omega
            have hvk : Mem.v ⟨.slice A8 (t.rows.length - 1 + 1) c8, m.vs.drop 1 ++ [.slice none 0 0]⟩ i = .slice none 0 0 := by rw [hie]; exact v_app_eq _ _ _
            rw [hvk] at hk
            cases hk
      refine ⟨rfl, ⟨.slice A8 (t.rows.length - 1 + 1) c8, m.vs.drop 1 ++ [.slice none 0 0]⟩, ⟨?_, ?_⟩, ?_, ?_⟩
      · exact Blk.eq_ ((HA.out.below HB9.out).blk.set_ 2 _) rfl
      · refine hrow8.upd (Upd.setCell (S := fun k => k = p) (p := ⟨p, 2, none⟩) (Upd.refl _ _) (.inl rfl) _) (fun k hk e => ?_)
        subst e
        rcases hm8 k hk with e2 | e2
        · exact HA.out.pne e2
        · omega
      · exact Upd.setCell (p := ⟨p, 2, none⟩) (Upd.below HB9.out _) (.inl (.inl rfl)) _
      · rintro k (rfl | hk)
        · exact .inl (.inl rfl)
        · rcases hm8 k hk with e2 | e2
          · exact .inl (.inr e2)
          · exact .inr e2
    · have e0 : t.down = { t with rows := t.rows.drop 1 } := by unfold TS.down; rw [if_neg h1, if_neg hH]
      rw [e0]
      have hnh : ((t.rows.length : Int) == (t.H : Int)) = false := by rw [beq_eq_false_iff_ne]; omega
      have hnh2 : ¬ t.rows.length = t.H := hH
      clear h hi e0 h1 h0 hv hH
      go_enter Tryd.func54, Tryd.ntmps54
      go_wp2
      go_quiet (fail)
      go_wp2
      go_quiet (fail)
      go_wp2_with (go_at_call 72; refine (clone_r _ _ _ _ (m.vs.drop 1) ?_ ?_ ?_).mono ?_; exact HR1.out _ (below_drewN_ (Below.refl _ _) _); exact (fun u hu => HONE.out u (List.mem_of_mem_drop hu)); exact HLE.out; rintro e w3 ⟨v3, rfl, ho, hfr, hb⟩; obtain ⟨A3, c3x, rfl, -⟩ := ho.form; have hb2 := below_undrewN hb; have ht := HA.out.rows.tail (by rw [List.length_drop]; exact ho) hb2; have hp3 := HA.out.below hb2; have pf := hp3.blk.frozen 2; have p2 := hp3.blk.cell 2; have HT := Lib.hid ht; have HO := Lib.hid ho; have HFR := Lib.hid hfr; have HB := Lib.hid hb2; have HP3 := Lib.hid hp3; clear ht ho hfr hb hb2 hp3)
      go_returns
      have hm8 : ∀ k, Mem.foot ⟨.slice A3 (t.rows.length - 1) c3x, m.vs.drop 1⟩ (t.rows.drop 1).length k → m.foot t.rows.length k ∨ w.heap.size ≤ k := by
        rintro k (hk | ⟨i, hi2, hk⟩)
        · exact .inr (HFR.out k hk)
        · rw [List.length_drop] at hi2
          have hvk : Mem.v ⟨.slice A3 (t.rows.length - 1) c3x, m.vs.drop 1⟩ i = m.v (1 + i) := v_drop _ _ _ _
          rw [hvk] at hk
          exact .inl (.inr ⟨1 + i, by omega, hk⟩)
      refine ⟨rfl, ⟨.slice A3 (t.rows.length - 1) c3x, m.vs.drop 1⟩, ⟨?_, ?_⟩, ?_, ?_⟩
      · exact Blk.eq_ (HP3.out.blk.set_ 2 _) rfl
      · refine HT.out.upd (Upd.setCell (S := fun k => k = p) (p := ⟨p, 2, none⟩) (Upd.refl _ _) (.inl rfl) _) (fun k hk e => ?_)
        subst e
        rcases hm8 k hk with e2 | e2
        · exact HA.out.pne e2
        · omega
      · exact Upd.setCell (p := ⟨p, 2, none⟩) (Upd.below HB.out _) (.inl (.inl rfl)) _
      · rintro k (rfl | hk)
        · exact .inl (.inl rfl)
        · rcases hm8 k hk with e2 | e2
          · exact .inl (.inr e2)
          · exact .inr e2
end
end U
end Go.Proofs.YtceomobdolkfgaaDoor
/- The screen's write: the rows and the row told. -/
set_option linter.unusedVariables false
namespace Go.Proofs.YtceomobdolkfgaaDoor
open Go.RowKit Go.Proofs.YtceomobdolkfgaaDoorW.PrintWords Go.Proofs.YtceomobdolkfgaaDoor.Sep
namespace U
/-- A cut in a sequence: what holds between its two parts. -/
theorem cut_seq {P : Program} {Q : Exit → Act → World → Prop} {a : Act} {w : World} {c d : Code} (I : Act → World → Prop)
    (h1 : ∀ (J : Nat → Act → World → Prop) (K : Act → World → Prop), (∀ k a' w', I a' w' → J k a' w') → (∀ a' w', Handed J 1 a' w' → K a' w') → c.wp P (Exit.then K Q) a w)
    (h2 : ∀ a' w', I a' w' → d.wp P Q a' w') : (c.seq d).wp P Q a w := by
  refine wp_seq_k (fun K hK => ?_)
  exact h1 (fun _ => I) K (fun _ _ _ h => h) (fun a' w' ⟨_, _, h⟩ => hK a' w' (h2 a' w' h))
section
variable {w w' wa w8 : World} {p : Nat} {t : TS} {m : Mem}
/-- A row more, appended. -/
theorem At.snoc (h : At w p t m) (ha : Below w.heap.size w wa) {v8 : Value} (ho : OwnS w8 33 1 v8 (t.rows.length + 1) (m.vs ++ [.slice none 0 0])) (hg : wa.grownBy w8 m.rv.ownBlock) (hb : v8.ownBlock = m.rv.ownBlock ∨ ∀ k, v8.ownBlock = some k → wa.heap.size ≤ k) :
    Turned w (w8.setCell ⟨p, 2, none⟩ v8) p t m { t with rows := t.rows ++ [[]] } ⟨v8, m.vs ++ [.slice none 0 0]⟩ := by
  have hlen := h.rows.vlen
  have hu : Upd (fun k => m.rv.ownBlock = some k) w w8 := (Upd.below ha _).then_ (Upd.grown hg (S := fun k => m.rv.ownBlock = some k) (fun k hk => hk)) (fun k hk => .inl hk)
  have hnew : ∀ k, v8.ownBlock = some k → m.rv.ownBlock = some k ∨ w.heap.size ≤ k := fun k hk => by
    rcases hb with e | e
    · exact .inl (by rw [← e]; exact hk)
    · exact .inr (Nat.le_trans ha.size (e k hk))
  have hrow8 : RowsAt w8 ⟨v8, m.vs ++ [.slice none 0 0]⟩ (t.rows ++ [[]]) := by
    refine h.rows.snoc rfl ho (fun i k hi hk => ?_)
    exact hu.block k ((h.rows.row i hi).lt k hk) (h.rows.ne_rv hi hk)
  have hm8 : ∀ k, Mem.foot ⟨v8, m.vs ++ [.slice none 0 0]⟩ (t.rows ++ [[]]).length k → m.foot t.rows.length k ∨ w.heap.size ≤ k := by
    rintro k (hk | ⟨i, hi, hk⟩)
    · exact (hnew k hk).imp .inl id
    · rw [List.length_append] at hi
      by_cases hii : i < t.rows.length
      · rw [v_app_lt _ _ _ _ (by omega)] at hk
        exact .inl (.inr ⟨i, hii, hk⟩)
      · have hie : i = m.vs.length := by simp at hi; omega
        rw [hie, v_app_eq] at hk
        cases hk
  have hp8 : ¬ m.rv.ownBlock = some p := fun e => h.pne (.inl e)
  refine ⟨⟨?_, ?_⟩, ?_, ?_⟩
  · exact Blk.eq_ ((h.blk.upd hu hp8).set_ 2 _) rfl
  · refine hrow8.upd (Upd.setCell (S := fun k => k = p) (p := ⟨p, 2, none⟩) (Upd.refl _ _) (.inl rfl) _) (fun k hk e => ?_)
    subst e
    rcases hm8 k hk with e2 | e2
    · exact h.pne e2
    · have := h.blk.lt
      omega
  · exact Upd.setCell (p := ⟨p, 2, none⟩) (hu.mono (fun k hk => .inr (.inl hk))) (.inl (.inl rfl)) _
  · rintro k (rfl | hk)
    · exact .inl (.inl rfl)
    · rcases hm8 k hk with e2 | e2
      · exact .inl (.inr e2)
      · exact .inr e2
end
/-- The row, its halves cleared one after the other. -/
def hs (r : Row) (c : Nat) : Nat → Row
  | 0 => r
  | k + 1 => half (hs r c k) (c + k)
theorem hs_len (r : Row) (c : Nat) : ∀ k, (hs r c k).length = r.length
  | 0 => rfl
  | k + 1 => by show (half _ _).length = _; rw [half_len, hs_len]
theorem put_one (r : Row) (c : Nat) (s : ByteArray) : put r c s 1 = (hs (padRow r (c + 1)) c 1).set c (s, 1) := by unfold put; dsimp only; rw [if_neg (by decide)]; rfl
theorem put_two (r : Row) (c : Nat) (s : ByteArray) : put r c s 2 = ((hs (padRow r (c + 2)) c 2).set c (s, 2)).set (c + 1) cz := by unfold put; dsimp only; rw [if_pos rfl]; rfl
theorem rep_snoc {α : Type} (l : List α) (j : Nat) (x : α) : l ++ List.replicate (j + 1) x = (l ++ List.replicate j x) ++ [x] := by
  rw [List.append_assoc, ← List.replicate_succ']
end U
end Go.Proofs.YtceomobdolkfgaaDoor
/- The screen's write. -/
set_option linter.unusedVariables false
namespace Go.Proofs.YtceomobdolkfgaaDoor
open Go.RowKit Go.Proofs.YtceomobdolkfgaaDoorW.PrintWords Go.Proofs.YtceomobdolkfgaaDoor.Sep
namespace U
section
variable {w w' wa w8 : World} {p : Nat} {t : TS} {m : Mem}
theorem At.putrow {wx : World} {i g off c : Nat} {v' : Value} {r' : Row} (h : At w p t m) (hil : i < t.rows.length) (hv : m.rv = .slice (some ⟨g, off, none⟩) t.rows.length c) (hu : Upd (fun k => (m.v i).ownBlock = some k) w wx) (ho : OwnS wx 32 2 v' r'.length (flat r')) (hb : ∀ k, v'.ownBlock = some k → (m.v i).ownBlock = some k ∨ w.heap.size ≤ k) :
    Turned w (wx.setCell ⟨g, off + i, none⟩ v') p t m { t with rows := t.rows.set i r' } ⟨m.rv, m.vs.set i v'⟩ := by
  have hgo : m.rv.ownBlock = some g := by rw [hv]; simp [Value.ownBlock]
  have hpg : p ≠ g := fun e => h.pne (.inl (by rw [hgo, e]))
  have hft := h.rows.foot_put hil (r' := r') hb
  refine ⟨⟨?_, h.rows.put hil hv hu ho hb⟩, ?_, ?_⟩
  · exact (h.blk.upd hu (fun e => h.pne (.inr ⟨i, hil, e⟩))).far (by show p ≠ g; exact hpg) _
  · exact Upd.setCell (hu.mono (fun k hk => .inr (.inr ⟨i, hil, hk⟩))) (.inl (.inr (.inl hgo))) _
  · rintro k (rfl | hk)
    · exact .inl (.inl rfl)
    · rcases hft k hk with h1 | h1
      · exact .inl (.inr h1)
      · exact .inr h1
theorem pad_step {W0 wr w1 w8 : World} {V v6 v8 : Value} (hu : Upd (fun k => V.ownBlock = some k) W0 wr) (hb : ∀ k, v6.ownBlock = some k → V.ownBlock = some k ∨ W0.heap.size ≤ k) (h1 : Below wr.heap.size wr w1) (hg : w1.grownBy w8 v6.ownBlock) (h8 : v8.ownBlock = v6.ownBlock ∨ ∀ k, v8.ownBlock = some k → w1.heap.size ≤ k) :
    Upd (fun k => V.ownBlock = some k) W0 w8 ∧ ∀ k, v8.ownBlock = some k → V.ownBlock = some k ∨ W0.heap.size ≤ k := by
  have hs1 := h1.size
  have hs0 := hu.size
  refine ⟨(hu.then_ (Upd.below h1 No) (fun k hk => hk.elim)).then_ (Upd.grown hg (S := fun k => v6.ownBlock = some k) (fun k hk => hk)) hb, fun k hk => ?_⟩
  rcases h8 with e | e
  · exact hb k (by rw [← e]; exact hk)
  · have := e k hk
    exact .inr (by omega)
theorem end_over {t6 : TS} {m6 : Mem} {w6 : World} (T : Turned w w6 p t m t6 m6) (span n : Nat) (h1 : 1 ≤ t6.W) : Turned w (((((((w6.setCell ⟨p, 6, none⟩ (.int .i64 t6.row)).setCell ⟨p, 7, none⟩ (.int .i64 t6.col)).setCell ⟨p, 8, none⟩ (.bool true)).setCell ⟨p, 4, none⟩ (.int .i64 ((t6.col : Int) + (span : Int)))).drewN n).setCell ⟨p, 4, none⟩ (.int .i64 ((t6.W : Int) - 1))).setCell ⟨p, 5, none⟩ (.bool true)) p t m
    { t6 with lr := t6.row, lc := t6.col, marks := true, col := t6.W - 1, full := true } m6 := by
  have e : ((t6.W : Int) - 1) = ((t6.W - 1 : Nat) : Int) := by omega
  rw [e]
  refine T.trans (Turned.top T.at_ rfl ?_ ?_)
  · exact (((((((Upd.refl (fun k => k = p) w6).setCell (p := ⟨p, 6, none⟩) (.inl rfl) _).setCell (p := ⟨p, 7, none⟩) (.inl rfl) _).setCell (p := ⟨p, 8, none⟩) (.inl rfl) _).setCell (p := ⟨p, 4, none⟩) (.inl rfl) _).drewN n).setCell (p := ⟨p, 4, none⟩) (.inl rfl) _).setCell (p := ⟨p, 5, none⟩) (.inl rfl) _
  · exact Blk.eq_ (((((((T.at_.blk.set_ 6 _).set_ 7 _).set_ 8 _).set_ 4 _).drewN n).set_ 4 _).set_ 5 _) rfl
theorem end_in {t6 : TS} {m6 : Mem} {w6 : World} (T : Turned w w6 p t m t6 m6) (span n : Nat) : Turned w (((((w6.setCell ⟨p, 6, none⟩ (.int .i64 t6.row)).setCell ⟨p, 7, none⟩ (.int .i64 t6.col)).setCell ⟨p, 8, none⟩ (.bool true)).setCell ⟨p, 4, none⟩ (.int .i64 ((t6.col : Int) + (span : Int)))).drewN n) p t m
    { t6 with lr := t6.row, lc := t6.col, marks := true, col := t6.col + span } m6 := by
  refine T.trans (Turned.top T.at_ rfl ?_ ?_)
  · exact (((((Upd.refl (fun k => k = p) w6).setCell (p := ⟨p, 6, none⟩) (.inl rfl) _).setCell (p := ⟨p, 7, none⟩) (.inl rfl) _).setCell (p := ⟨p, 8, none⟩) (.inl rfl) _).setCell (p := ⟨p, 4, none⟩) (.inl rfl) _).drewN n
  · exact Blk.eq_ (((((T.at_.blk.set_ 6 _).set_ 7 _).set_ 8 _).set_ 4 _).drewN n) rfl
theorem upd_far2 {w0 w1 : World} {V : Value} {g o n c : Nat} (h : Upd (fun k => V.ownBlock = some k) w0 w1) (hb : ∀ k, (Value.slice (some ⟨g, o, none⟩) n c).ownBlock = some k → V.ownBlock = some k ∨ w0.heap.size ≤ k) (off i : Nat) (a b : Value) :
    Upd (fun k => V.ownBlock = some k) w0 ((w1.setCell ⟨g, off + i, none⟩ a).setCell ⟨g, off + i + 1, none⟩ b) :=
  (h.setCell (p := ⟨g, off + i, none⟩) (hb g (by simp [Value.ownBlock])) a).setCell (p := ⟨g, off + i + 1, none⟩) (hb g (by simp [Value.ownBlock])) b
theorem snoc_top (h : At w p t m) (ha : Below w.heap.size w wa) (hg : wa.grownBy w8 m.rv.ownBlock) : w8.frozen? ⟨p, 2, none⟩ = false ∧ w8.cell? ⟨p, 2, none⟩ = some m.rv := by
  have hu : Upd (fun k => m.rv.ownBlock = some k) w w8 := (Upd.below ha _).then_ (Upd.grown hg (S := fun k => m.rv.ownBlock = some k) (fun k hk => hk)) (fun k hk => .inl hk)
  have := h.blk.upd hu (fun e => h.pne (.inl e))
  exact ⟨this.frozen 2, this.cell 2⟩
theorem wrap_turn (h : At w p t m) {n : Nat} {w1 : World} {m1 : Mem} (h1 : Turned (w.drewN n) w1 p t m t.down m1) : Hid (Turned w ((w1.setCell ⟨p, 4, none⟩ (.int .i64 0)).setCell ⟨p, 5, none⟩ (.bool false)) p t m { t.down with col := 0, full := false } m1) :=
  Lib.hid (Turned.trans ⟨h1.at_, (Upd.below (below_drewN_ (Below.refl _ _) n) _).then_ h1.upd (fun k hk => .inl hk), h1.foot⟩ (Turned.top h1.at_ rfl (((Upd.refl (fun k => k = p) w1).setCell (p := ⟨p, 4, none⟩) (.inl rfl) _).setCell (p := ⟨p, 5, none⟩) (.inl rfl) _) (Blk.eq_ ((h1.at_.blk.set_ 4 (.int .i64 0)).set_ 5 (.bool false)) rfl)))
set_option maxHeartbeats 4000000
set_option maxRecDepth 100000
theorem write_ (h : At w p t m) (hi : t.Inv) (s : ByteArray) (span : Nat) (hsp : span = 1 ∨ (span = 2 ∧ 2 ≤ t.W)) : Calls Tryd.prog 42 #[.pointer (some ⟨p, 0, none⟩), .string s, .int .i64 span] w fun e w' => e = .returned (.tuple #[]) ∧ ∃ m', Turned w w' p t m (t.write s span) m' := by
  have HSD := Lib.hid (fun n => sdown_ (w := w.drewN n) (h.below (below_drewN_ (Below.refl _ _) n)) hi)
  have HA := Lib.hid h
  have HI := Lib.hid hi
  obtain ⟨c0, c1, c2, c3, c4, c5, -, -, -, -, cf⟩ := h.cells
  have hw1 := hi.w1
  have hw2 := hi.w2
  have hcc := hi.col
  have hplt := h.blk.lt
  obtain ⟨A0, cap0, hv0, -⟩ := h.rows.own.form
  clear h hi
  go_enter Tryd.func42, Tryd.ntmps42
  refine cut_seq (fun a9 w9 => ∃ u9 u10 u11 u12 u13 u14 u15 u16 u17 u18 u19 u20 u21 u22 u23 u24 u25 u26 u27 u28 u29 u30 u31 u32 u33 u34 u35 u36 u37 u38 : Value, (fun w9 => ∃ m9, Hid (Turned w w9 p t m (t.wrap span) m9)) w9 ∧ a9 = { tmps := #[.pointer (some ⟨p, 0, none⟩), .string s, .int .i64 span, undef, undef, undef, undef, undef, undef, u9, u10, u11, u12, u13, u14, u15, u16, u17, u18, u19, u20, u21, u22, u23, u24, u25, u26, u27, u28, u29, u30, u31, u32, u33, u34, u35, u36, u37, u38, undef, undef, undef, undef, undef, undef, undef, undef, undef, undef, undef, undef, undef, undef, undef, undef, undef, undef, undef, undef, undef, undef, undef, undef, undef, undef, undef, undef, undef, undef, undef, undef, undef, undef, undef, undef, undef, undef, undef, undef, undef, undef, undef, undef, undef, undef, undef, undef, undef, undef, undef, undef, undef, undef, undef, undef, undef, undef, undef, undef, undef, undef, undef, undef, undef, undef, undef, undef, undef, undef, undef, undef, undef, undef, undef, undef, undef, undef, undef, undef, undef, undef, undef, undef, undef, undef, undef, undef, undef, undef, undef, undef, undef, undef, undef, undef, undef, undef, undef, undef, undef, undef, undef, undef, undef, undef, undef, undef, undef, undef, undef, undef, undef, undef, undef, undef, undef, undef, undef, undef, undef, undef], defers := [] }) ?_ ?_
  · intro J K hJ hK
    by_cases hf : t.full = true
    · have e0 : t.wrap span = { t.down with col := 0, full := false } := by unfold TS.wrap; rw [if_pos (.inl hf)]
      have HE0 := Lib.hid e0
      rw [hf] at c5
      clear e0 hf
      go_wp2
      go_quiet (fail)
      go_wp2_with (go_at_call 54; refine (HSD.out _).mono ?_; rintro e w1 ⟨rfl, m1, ht1⟩; have d4 := ht1.at_.blk.frozen 4; have d5 := ht1.at_.blk.frozen 5; have d4c := ht1.at_.blk.cell 4; have d5c := ht1.at_.blk.cell 5; have HT1 := Lib.hid ht1; clear ht1)
      go_roundg 0
      case measure => omega
      case rel => exact ⟨m1, by rw [HE0.out]; exact wrap_turn HA.out HT1.out⟩
    · have hf' : t.full = false := by simpa using hf
      rw [hf'] at c5
      by_cases h2 : span = 2 ∧ t.col + 1 = t.W
      · have e0 : t.wrap span = { t.down with col := 0, full := false } := by unfold TS.wrap; rw [if_pos (.inr h2)]
        have HE0 := Lib.hid e0
        obtain ⟨rfl, hcw⟩ := h2
        have hb1 : ((t.col : Int) == (t.W : Int) - 1) = true := by rw [beq_iff_eq]; omega
        have hb2 : (t.col : Int) = (t.W : Int) - 1 := by omega
        clear e0 hf hf' hcw hsp
        go_wp2
        go_quiet (fail)
        go_wp2_with (go_at_call 54; refine (HSD.out _).mono ?_; rintro e w1 ⟨rfl, m1, ht1⟩; have d4 := ht1.at_.blk.frozen 4; have d5 := ht1.at_.blk.frozen 5; have d4c := ht1.at_.blk.cell 4; have d5c := ht1.at_.blk.cell 5; have HT1 := Lib.hid ht1; clear ht1)
        go_roundg 0
        case measure => omega
        case rel => exact ⟨m1, by rw [HE0.out]; exact wrap_turn HA.out HT1.out⟩
      · have e0 : t.wrap span = t := by unfold TS.wrap; rw [if_neg (by simp [hf']; exact fun a b => h2 ⟨a, b⟩)]
        have HE0 := Lib.hid e0
        clear e0 hf hf'
        rcases hsp with rfl | ⟨rfl, hw22⟩
        · clear h2
          go_wp2
          go_quiet (fail)
          go_wp2
          go_roundg 0
          case measure => omega
          case rel => exact ⟨m, by rw [HE0.out]; exact Lib.hid ((Turned.refl HA.out).below (below_drewN_ (Below.refl _ _) _))⟩
        · have hb2 : ¬ (t.col : Int) = (t.W : Int) - 1 := fun e => h2 ⟨rfl, by omega⟩
          have hb1 : ((t.col : Int) == (t.W : Int) - 1) = false := by rw [beq_eq_false_iff_ne]; exact hb2
          clear h2
          go_wp2
          go_quiet (fail)
          go_wp2
          go_roundg 0
          case measure => omega
          case rel => exact ⟨m, by rw [HE0.out]; exact Lib.hid ((Turned.refl HA.out).below (below_drewN_ (Below.refl _ _) _))⟩
  · rintro a9 w9 ⟨u9, u10, u11, u12, u13, u14, u15, u16, u17, u18, u19, u20, u21, u22, u23, u24, u25, u26, u27, u28, u29, u30, u31, u32, u33, u34, u35, u36, u37, u38, ⟨m9, HT9⟩, rfl⟩
    obtain ⟨i1, i2, i3, i4, i5, i6, i7⟩ := wrap_inv t HI.out span hsp
    have hh1 := HI.out.h1
    have hh2 := HI.out.h2
    clear c0 c1 c2 c3 c4 c5 cf hv0 HSD
    obtain ⟨u, hu⟩ : ∃ u, t.wrap span = u := ⟨_, rfl⟩
    rw [hu] at HT9 i1 i2 i3 i4 i5 i6 i7
    have HG : Hid (t.write s span = { u with rows := (padRows u.rows (u.row + 1)).set u.row (put ((padRows u.rows (u.row + 1)).getD u.row []) u.col s span), lr := u.row, lc := u.col, marks := true, col := if u.W ≤ u.col + span then u.W - 1 else u.col + span, full := if u.W ≤ u.col + span then true else u.full }) := Lib.hid (by unfold TS.write; rw [hu])
    have HI3 := Lib.hid i3
    have HWW := Lib.hid i1
    have HI4 := Lib.hid i4
    have HI5 := Lib.hid i5
    have hcs : u.col + span ≤ u.W := by omega
    have hW : u.W ≤ 65535 := by omega
    have hW1 : 1 ≤ u.W := by omega
    have hrh : u.row < 65535 := by omega
    have hrl : u.rows.length ≤ 65535 := by omega
    have hfull := i7
    clear hu i1 i2 i3 i4 i5 i6 i7 hw1 hw2 hcc hh1 hh2
    go_wp2
    go_loopg [] (u.row + 1 - u.rows.length) (fun k w' => ∃ j m', j + k = u.row + 1 - u.rows.length ∧ Hid (Turned w w' p t m { u with rows := u.rows ++ List.replicate j [] } m'))
    case atStart => exact ⟨0, m9, by omega, Lib.hid (by simpa using HT9.out)⟩
    case round =>
      obtain ⟨j, m1, hjk, HT1⟩ := hrel
      clear HT9
      have HP := Lib.hid HT1.out.at_
      obtain ⟨R, hR⟩ : ∃ R, u.rows ++ List.replicate j ([] : Row) = R := ⟨_, rfl⟩
      have hRl : R.length = u.rows.length + j := by rw [← hR]; simp
      rw [hR] at HT1 HP
      obtain ⟨A1, cap1, hv1, hc1⟩ := HP.out.rows.own.form
      have c0 : wr.cell? ⟨p, 0, none⟩ = some (.int .i64 u.W) := HP.out.blk.cell 0
      have c2 : wr.cell? ⟨p, 2, none⟩ = some (.slice A1 R.length cap1) := by rw [← hv1]; exact HP.out.blk.cell 2
      have c3 : wr.cell? ⟨p, 3, none⟩ = some (.int .i64 u.row) := HP.out.blk.cell 3
      have c4 : wr.cell? ⟨p, 4, none⟩ = some (.int .i64 u.col) := HP.out.blk.cell 4
      have cf : ∀ j, wr.frozen? ⟨p, j, none⟩ = false := fun j => HP.out.blk.frozen j
      have HV1 := Lib.hid hv1
      have HR := Lib.hid hR
      have hc1' : R.length ≤ cap1 := hc1
      clear hv1 hR hc1
      cases gk with
      | zero =>
        have hd : decide ((R.length : Int) ≤ (u.row : Int)) = false := decide_eq_false (by omega)
        have hdi : ¬ (R.length : Int) ≤ (u.row : Int) := by omega
        have hdn : ¬ R.length ≤ u.row := by omega
        have HRp : Hid (padRows u.rows (u.row + 1) = R) := Lib.hid (by unfold padRows; rw [← HR.out]; congr 2; omega)
        obtain ⟨w2, hw2⟩ : ∃ x, x = wr := ⟨_, rfl⟩
        subst hw2
        have hrow : u.row < R.length := by omega
        obtain ⟨g, off, capr, hv2, hg, hcg, hcell, hfz⟩ := own_cell HP.out.rows.own (show 0 < R.length by omega)
        have hv3 := HV1.out.symm.trans hv2
        injection hv3 with eA _ eC
        subst eA eC
        have r0 := hcell u.row (m1.v u.row) (by unfold Mem.v; rw [List.getD_eq_getElem?_getD, List.getElem?_eq_getElem (by have := HP.out.rows.vlen; exact (show u.row < m1.vs.length by rw [this]; exact hrow))]; rfl)
        have horow := HP.out.rows.row u.row hrow
        obtain ⟨q, hq⟩ : ∃ q, R.getD u.row [] = q := ⟨_, rfl⟩
        have hql : q.length ≤ u.W := by
          rw [← hq, ← HRp.out, getD_padRows]
          by_cases hl : u.row < u.rows.length
          · exact Nat.le_trans (HI5.out _ hl) (Nat.le_of_eq HWW.out.symm)
          · rw [List.getD_eq_getElem?_getD, List.getElem?_eq_none (by omega)]; simp
        have horow' : OwnS w2 32 2 (m1.v u.row) q.length (flat q) := by rw [← hq]; exact horow
        have HQ := Lib.hid hq
        obtain ⟨V, hV⟩ : ∃ V, m1.v u.row = V := ⟨_, rfl⟩
        rw [hV] at horow' r0
        obtain ⟨A6, c6, hV6, hc6⟩ := horow'.form
        have HV6 := Lib.hid hV6
        have HVV := Lib.hid hV
        have HOR := Lib.hid horow'
        rw [hV6] at r0
        have hrowi : (u.row : Int) < (R.length : Int) := by omega
        have HRL := Lib.hid hRl
        clear hV hq horow hcell hfz horow' hV6 hv2 hRl
        go_wp2
        go_quiet (fail)
        go_wp2
        go_quiet (fail)
        go_wp2
        go_loopg [6] (u.col + span - q.length) (fun k v6 w' => ∃ j A c, v6 = .slice A (q.length + j) c ∧ j + k = u.col + span - q.length ∧ Hid (OwnS w' 32 2 (.slice A (q.length + j) c) (q.length + j) (flat (q ++ List.replicate j cb))) ∧ Hid (∀ k, (Value.slice A (q.length + j) c).ownBlock = some k → V.ownBlock = some k ∨ w2.heap.size ≤ k) ∧ Hid (Upd (fun k => V.ownBlock = some k) w2 w'))
        case atStart => exact ⟨0, A6, c6, rfl, by omega, Lib.hid (by have := HOR.out; rw [HV6.out] at this; simpa using this.keep (w' := w2.drewN _) (fun k hk => rfl)), Lib.hid (fun k hk => .inl (by rw [HV6.out]; exact hk)), Lib.hid (((Upd.refl _ w2).drewN _).drewN _)⟩
        case round =>
          obtain ⟨j2, A, c, rfl, hjk2, HO, HB, HU⟩ := hrel
          obtain ⟨Q, hQ⟩ : ∃ Q, q ++ List.replicate j2 cb = Q := ⟨_, rfl⟩
          have hQl : Q.length = q.length + j2 := by rw [← hQ]; simp
          rw [hQ, ← hQl] at HO
          rw [← hQl] at HB
          rw [← hQl]
          have hc : Q.length ≤ c := by
            obtain ⟨A', c', e, hc⟩ := HO.out.form
            injection e with _ _ e
            omega
          cases gk with
          | zero =>
            have hd2 : ¬ (Q.length : Int) < (u.col : Int) + (span : Int) := by omega
            have hd2b : decide ((Q.length : Int) < (u.col : Int) + (span : Int)) = false := decide_eq_false (by omega)
            have hd2c : ¬ Q.length < u.col + span := by omega
            have hQW : Q.length ≤ 65535 := by omega
            obtain ⟨w3, hw3⟩ : ∃ x, x = wr := ⟨_, rfl⟩
            subst hw3
            obtain ⟨g6, off6, c6', e6, -, -, -, -⟩ := own_cell HO.out (show 0 < Q.length by rcases hsp with e | ⟨e, _⟩ <;> omega)
            injection e6 with eA _ eC
            subst eA eC
            have HQp : Hid (padRow q (u.col + span) = Q) := Lib.hid (by unfold padRow; rw [← hQ]; congr 2; omega)
            clear hQ hQl
            go_wp2
            go_loopg [86] span (fun k v w' => ∃ j : Nat, v = .int .i64 j ∧ j + k = span ∧ Hid (OwnS w' 32 2 (.slice (some ⟨g6, off6, none⟩) Q.length c) Q.length (flat (hs Q u.col j))) ∧ Hid (Upd (fun k => V.ownBlock = some k) w2 w'))
            case atStart => exact ⟨0, rfl, by omega, HO, HU⟩
            case round =>
              obtain ⟨j3, rfl, hjk3, HO3, HU3⟩ := hrel
              clear HO HU
              have HL3 := Lib.hid (hs_len Q u.col j3)
              cases gk with
              | zero =>
                obtain rfl : j3 = span := by omega
                obtain ⟨w4, hw4⟩ : ∃ x, x = wr := ⟨_, rfl⟩
                subst hw4
                have hfz4 : ∀ j, w4.frozen? ⟨g6, j, none⟩ = false := fun j => HO3.out.frozen j
                have HC4 : Hid (∀ i, i < Q.length → (w4.cell? ⟨g6, off6 + i * 2, none⟩ = some (.string ((hs Q u.col j3).getD i cz).1) ∧ w4.cell? ⟨g6, off6 + i * 2 + 1, none⟩ = some (.int .i64 ((hs Q u.col j3).getD i cz).2))) := Lib.hid (fun i hi => by
                  obtain ⟨g', o', c', e', -, -, hcell, -⟩ := own_cell HO3.out (by omega)
                  injection e' with e1 _ _
                  injection e1 with e1
                  injection e1 with e1 e2
                  subst e1 e2
                  obtain ⟨f0, f1⟩ := flat_at (hs Q u.col j3) i (by rw [HL3.out]; exact hi)
                  exact ⟨hcell _ _ f0, hcell _ _ f1⟩)
                obtain ⟨d0, d1⟩ := HC4.out u.col (by rcases hsp with e | ⟨e, _⟩ <;> omega)
                have hci : (u.col : Int) < (Q.length : Int) := by rcases hsp with e | ⟨e, _⟩ <;> omega
                have hcn : u.col < Q.length := by omega
                rcases hsp with rfl | ⟨rfl, hw22⟩
                · by_cases hov : u.W ≤ u.col + 1
                  · have HX : Hid (OwnS ((w4.setCell ⟨g6, off6 + u.col * 2, none⟩ (.string s)).setCell ⟨g6, off6 + u.col * 2 + 1, none⟩ (.int .i64 1)) 32 2 (.slice (some ⟨g6, off6, none⟩) Q.length c) Q.length (flat ((hs Q u.col 1).set u.col (s, 1)))) := Lib.hid (by have := row_set (r := hs Q u.col 1) HO3.out u.col hcn (s, 1); exact this)
                    have HXU : Hid (Upd (fun k => V.ownBlock = some k) w2 ((w4.setCell ⟨g6, off6 + u.col * 2, none⟩ (.string s)).setCell ⟨g6, off6 + u.col * 2 + 1, none⟩ (.int .i64 1))) := Lib.hid (upd_far2 HU3.out HB.out off6 (u.col * 2) (.string s) (.int .i64 1))
                    have ho1 : decide ((u.W : Int) ≤ (u.col : Int) + 1) = true := decide_eq_true (by omega)
                    have ho2 :  ((u.W : Int) ≤ (u.col : Int) + 1) := by omega
                    have ho3 :  (u.W ≤ u.col + 1) := hov
                    go_wp2
                    refine still_tail 11 (by kernel_rfl) (by kernel_rfl) (fun w5 hw5 => ?_)
                    have HW5 := Lib.hid hw5
                    have HU5 : Hid (Upd (fun k => V.ownBlock = some k) w2 w5) := Lib.hid (by rw [hw5]; exact HXU.out.drew)
                    have HO5 : Hid (OwnS w5 32 2 (.slice (some ⟨g6, off6, none⟩) Q.length c) Q.length (flat ((hs Q u.col 1).set u.col (s, 1)))) := Lib.hid (by rw [hw5]; exact HX.out)
                    have hpV : ¬ V.ownBlock = some p := fun e => HP.out.pne (.inr ⟨u.row, hrow, by rw [HVV.out]; exact e⟩)
                    have hgV : ¬ V.ownBlock = some g := fun e => HP.out.rows.ne_rv hrow (by rw [HVV.out]; exact e) (by rw [HV1.out]; simp [Value.ownBlock])
                    have hpg : p ≠ g := fun e => HP.out.pne (.inl (by rw [HV1.out, e]; simp [Value.ownBlock]))
                    have hgp : g ≠ p := fun e => hpg e.symm
                    have hb5 := HP.out.blk.upd HU5.out hpV
                    have HB5 := Lib.hid hb5
                    have e0 : w5.cell? ⟨p, 0, none⟩ = some (.int .i64 u.W) := hb5.cell 0
                    have e2 : w5.cell? ⟨p, 2, none⟩ = some (.slice (some ⟨g, off, none⟩) R.length cap1) := by rw [← HV1.out]; exact hb5.cell 2
                    have e3 : w5.cell? ⟨p, 3, none⟩ = some (.int .i64 u.row) := hb5.cell 3
                    have e4 : w5.cell? ⟨p, 4, none⟩ = some (.int .i64 u.col) := hb5.cell 4
                    have e5 : w5.cell? ⟨p, 5, none⟩ = some (.bool u.full) := hb5.cell 5
                    have e6 : w5.cell? ⟨p, 6, none⟩ = some (.int .i64 u.lr) := hb5.cell 6
                    have e7 : w5.cell? ⟨p, 7, none⟩ = some (.int .i64 u.lc) := hb5.cell 7
                    have e8 : w5.cell? ⟨p, 8, none⟩ = some (.bool u.marks) := hb5.cell 8
                    have ef : ∀ j, w5.frozen? ⟨p, j, none⟩ = false := fun j => hb5.frozen j
                    have er := HU5.out.cell r0 hgV
                    have eg : ∀ j, w5.frozen? ⟨g, j, none⟩ = false := fun j => by
                      have := HP.out.rows.own.upd HU5.out (fun k hk e => HP.out.rows.ne_rv hrow (by rw [HVV.out]; exact e) hk)
                      rw [HV1.out] at this
                      exact this.frozen j
                    simp only [List.take_succ_cons, List.take_zero, List.drop_succ_cons, List.drop_zero]
                    clear hw5 hb5 r0 c0 c2 c3 c4 cf hfz4 d0 d1  hpV hgV
                    repeat still_step
                    refine wpStill_nil ?_
                    go_wp2
                    go_quiet (fail)
                    go_wp2
                    go_returns
                    have hT : t.write s 1 = { u with rows := R.set u.row ((hs Q u.col 1).set u.col (s, 1)), lr := u.row, lc := u.col, marks := true, col := u.W - 1, full := true } := by rw [HG.out, HRp.out, HQ.out, put_one, HQp.out, if_pos hov, if_pos hov]
                    rw [hT]
                    have T6 := HT1.out.trans (HP.out.putrow (i := u.row) (r' := (hs Q u.col 1).set u.col (s, 1)) hrow HV1.out (by rw [HVV.out]; exact HU5.out) (by rw [show ((hs Q u.col 1).set u.col (s, 1)).length = Q.length from by simp [hs_len]]; exact HO5.out) (fun k hk => by rw [HVV.out]; exact HB.out k hk))
                    exact ⟨rfl, _, end_over T6 1 nq hW1⟩
                  · have HX : Hid (OwnS ((w4.setCell ⟨g6, off6 + u.col * 2, none⟩ (.string s)).setCell ⟨g6, off6 + u.col * 2 + 1, none⟩ (.int .i64 1)) 32 2 (.slice (some ⟨g6, off6, none⟩) Q.length c) Q.length (flat ((hs Q u.col 1).set u.col (s, 1)))) := Lib.hid (by have := row_set (r := hs Q u.col 1) HO3.out u.col hcn (s, 1); exact this)
                    have HXU : Hid (Upd (fun k => V.ownBlock = some k) w2 ((w4.setCell ⟨g6, off6 + u.col * 2, none⟩ (.string s)).setCell ⟨g6, off6 + u.col * 2 + 1, none⟩ (.int .i64 1))) := Lib.hid (upd_far2 HU3.out HB.out off6 (u.col * 2) (.string s) (.int .i64 1))
                    have ho1 : decide ((u.W : Int) ≤ (u.col : Int) + 1) = false := decide_eq_false (by omega)
                    have ho2 : ¬ ((u.W : Int) ≤ (u.col : Int) + 1) := by omega
                    have ho3 : ¬ (u.W ≤ u.col + 1) := hov
                    go_wp2
                    refine still_tail 11 (by kernel_rfl) (by kernel_rfl) (fun w5 hw5 => ?_)
                    have HW5 := Lib.hid hw5
                    have HU5 : Hid (Upd (fun k => V.ownBlock = some k) w2 w5) := Lib.hid (by rw [hw5]; exact HXU.out.drew)
                    have HO5 : Hid (OwnS w5 32 2 (.slice (some ⟨g6, off6, none⟩) Q.length c) Q.length (flat ((hs Q u.col 1).set u.col (s, 1)))) := Lib.hid (by rw [hw5]; exact HX.out)
                    have hpV : ¬ V.ownBlock = some p := fun e => HP.out.pne (.inr ⟨u.row, hrow, by rw [HVV.out]; exact e⟩)
                    have hgV : ¬ V.ownBlock = some g := fun e => HP.out.rows.ne_rv hrow (by rw [HVV.out]; exact e) (by rw [HV1.out]; simp [Value.ownBlock])
                    have hpg : p ≠ g := fun e => HP.out.pne (.inl (by rw [HV1.out, e]; simp [Value.ownBlock]))
                    have hgp : g ≠ p := fun e => hpg e.symm
                    have hb5 := HP.out.blk.upd HU5.out hpV
                    have HB5 := Lib.hid hb5
                    have e0 : w5.cell? ⟨p, 0, none⟩ = some (.int .i64 u.W) := hb5.cell 0
                    have e2 : w5.cell? ⟨p, 2, none⟩ = some (.slice (some ⟨g, off, none⟩) R.length cap1) := by rw [← HV1.out]; exact hb5.cell 2
                    have e3 : w5.cell? ⟨p, 3, none⟩ = some (.int .i64 u.row) := hb5.cell 3
                    have e4 : w5.cell? ⟨p, 4, none⟩ = some (.int .i64 u.col) := hb5.cell 4
                    have e5 : w5.cell? ⟨p, 5, none⟩ = some (.bool u.full) := hb5.cell 5
                    have e6 : w5.cell? ⟨p, 6, none⟩ = some (.int .i64 u.lr) := hb5.cell 6
                    have e7 : w5.cell? ⟨p, 7, none⟩ = some (.int .i64 u.lc) := hb5.cell 7
                    have e8 : w5.cell? ⟨p, 8, none⟩ = some (.bool u.marks) := hb5.cell 8
                    have ef : ∀ j, w5.frozen? ⟨p, j, none⟩ = false := fun j => hb5.frozen j
                    have er := HU5.out.cell r0 hgV
                    have eg : ∀ j, w5.frozen? ⟨g, j, none⟩ = false := fun j => by
                      have := HP.out.rows.own.upd HU5.out (fun k hk e => HP.out.rows.ne_rv hrow (by rw [HVV.out]; exact e) hk)
                      rw [HV1.out] at this
                      exact this.frozen j
                    simp only [List.take_succ_cons, List.take_zero, List.drop_succ_cons, List.drop_zero]
                    clear hw5 hb5 r0 c0 c2 c3 c4 cf hfz4 d0 d1  hpV hgV
                    repeat still_step
                    refine wpStill_nil ?_
                    go_wp2
                    go_quiet (fail)
                    go_wp2
                    go_returns
                    have hT : t.write s 1 = { u with rows := R.set u.row ((hs Q u.col 1).set u.col (s, 1)), lr := u.row, lc := u.col, marks := true, col := u.col + 1, full := u.full } := by rw [HG.out, HRp.out, HQ.out, put_one, HQp.out, if_neg hov, if_neg hov]
                    rw [hT]
                    have T6 := HT1.out.trans (HP.out.putrow (i := u.row) (r' := (hs Q u.col 1).set u.col (s, 1)) hrow HV1.out (by rw [HVV.out]; exact HU5.out) (by rw [show ((hs Q u.col 1).set u.col (s, 1)).length = Q.length from by simp [hs_len]]; exact HO5.out) (fun k hk => by rw [HVV.out]; exact HB.out k hk))
                    exact ⟨rfl, _, end_in T6 1 nq⟩
                · obtain ⟨b0, b1⟩ := HC4.out (u.col + 1) (by omega)
                  have hci2 : (u.col : Int) + 1 < (Q.length : Int) := by omega
                  have hcn2 : u.col + 1 < Q.length := by omega
                  by_cases hov : u.W ≤ u.col + 2
                  · have HX : Hid (OwnS ((((w4.setCell ⟨g6, off6 + u.col * 2, none⟩ (.string s)).setCell ⟨g6, off6 + u.col * 2 + 1, none⟩ (.int .i64 2)).setCell ⟨g6, off6 + (u.col + 1) * 2, none⟩ (.string ⟨#[]⟩)).setCell ⟨g6, off6 + (u.col + 1) * 2 + 1, none⟩ (.int .i64 0)) 32 2 (.slice (some ⟨g6, off6, none⟩) Q.length c) Q.length (flat (((hs Q u.col 2).set u.col (s, 2)).set (u.col + 1) cz))) := Lib.hid (by have := row_set (row_set (r := hs Q u.col 2) HO3.out u.col hcn (s, 2)) (u.col + 1) hcn2 cz; exact this)
                    have HXU : Hid (Upd (fun k => V.ownBlock = some k) w2 ((((w4.setCell ⟨g6, off6 + u.col * 2, none⟩ (.string s)).setCell ⟨g6, off6 + u.col * 2 + 1, none⟩ (.int .i64 2)).setCell ⟨g6, off6 + (u.col + 1) * 2, none⟩ (.string ⟨#[]⟩)).setCell ⟨g6, off6 + (u.col + 1) * 2 + 1, none⟩ (.int .i64 0))) := Lib.hid (by have h1 := upd_far2 HU3.out HB.out off6 (u.col * 2) (.string s) (.int .i64 2); exact upd_far2 h1 HB.out off6 ((u.col + 1) * 2) (.string ⟨#[]⟩) (.int .i64 0))
                    have ho1 : decide ((u.W : Int) ≤ (u.col : Int) + 2) = true := decide_eq_true (by omega)
                    have ho2 :  ((u.W : Int) ≤ (u.col : Int) + 2) := by omega
                    have ho3 :  (u.W ≤ u.col + 2) := hov
                    go_wp2
                    refine still_tail 11 (by kernel_rfl) (by kernel_rfl) (fun w5 hw5 => ?_)
                    have HW5 := Lib.hid hw5
                    have HU5 : Hid (Upd (fun k => V.ownBlock = some k) w2 w5) := Lib.hid (by rw [hw5]; exact HXU.out.drew)
                    have HO5 : Hid (OwnS w5 32 2 (.slice (some ⟨g6, off6, none⟩) Q.length c) Q.length (flat (((hs Q u.col 2).set u.col (s, 2)).set (u.col + 1) cz))) := Lib.hid (by rw [hw5]; exact HX.out)
                    have hpV : ¬ V.ownBlock = some p := fun e => HP.out.pne (.inr ⟨u.row, hrow, by rw [HVV.out]; exact e⟩)
                    have hgV : ¬ V.ownBlock = some g := fun e => HP.out.rows.ne_rv hrow (by rw [HVV.out]; exact e) (by rw [HV1.out]; simp [Value.ownBlock])
                    have hpg : p ≠ g := fun e => HP.out.pne (.inl (by rw [HV1.out, e]; simp [Value.ownBlock]))
                    have hgp : g ≠ p := fun e => hpg e.symm
                    have hb5 := HP.out.blk.upd HU5.out hpV
                    have HB5 := Lib.hid hb5
                    have e0 : w5.cell? ⟨p, 0, none⟩ = some (.int .i64 u.W) := hb5.cell 0
                    have e2 : w5.cell? ⟨p, 2, none⟩ = some (.slice (some ⟨g, off, none⟩) R.length cap1) := by rw [← HV1.out]; exact hb5.cell 2
                    have e3 : w5.cell? ⟨p, 3, none⟩ = some (.int .i64 u.row) := hb5.cell 3
                    have e4 : w5.cell? ⟨p, 4, none⟩ = some (.int .i64 u.col) := hb5.cell 4
                    have e5 : w5.cell? ⟨p, 5, none⟩ = some (.bool u.full) := hb5.cell 5
                    have e6 : w5.cell? ⟨p, 6, none⟩ = some (.int .i64 u.lr) := hb5.cell 6
                    have e7 : w5.cell? ⟨p, 7, none⟩ = some (.int .i64 u.lc) := hb5.cell 7
                    have e8 : w5.cell? ⟨p, 8, none⟩ = some (.bool u.marks) := hb5.cell 8
                    have ef : ∀ j, w5.frozen? ⟨p, j, none⟩ = false := fun j => hb5.frozen j
                    have er := HU5.out.cell r0 hgV
                    have eg : ∀ j, w5.frozen? ⟨g, j, none⟩ = false := fun j => by
                      have := HP.out.rows.own.upd HU5.out (fun k hk e => HP.out.rows.ne_rv hrow (by rw [HVV.out]; exact e) hk)
                      rw [HV1.out] at this
                      exact this.frozen j
                    simp only [List.take_succ_cons, List.take_zero, List.drop_succ_cons, List.drop_zero]
                    clear hw5 hb5 r0 c0 c2 c3 c4 cf hfz4 d0 d1 b0 b1 hpV hgV
                    repeat still_step
                    refine wpStill_nil ?_
                    go_wp2
                    go_quiet (fail)
                    go_wp2
                    go_returns
                    have hT : t.write s 2 = { u with rows := R.set u.row (((hs Q u.col 2).set u.col (s, 2)).set (u.col + 1) cz), lr := u.row, lc := u.col, marks := true, col := u.W - 1, full := true } := by rw [HG.out, HRp.out, HQ.out, put_two, HQp.out, if_pos hov, if_pos hov]
                    rw [hT]
                    have T6 := HT1.out.trans (HP.out.putrow (i := u.row) (r' := ((hs Q u.col 2).set u.col (s, 2)).set (u.col + 1) cz) hrow HV1.out (by rw [HVV.out]; exact HU5.out) (by rw [show (((hs Q u.col 2).set u.col (s, 2)).set (u.col + 1) cz).length = Q.length from by simp [hs_len]]; exact HO5.out) (fun k hk => by rw [HVV.out]; exact HB.out k hk))
                    exact ⟨rfl, _, end_over T6 2 nq hW1⟩
                  · have HX : Hid (OwnS ((((w4.setCell ⟨g6, off6 + u.col * 2, none⟩ (.string s)).setCell ⟨g6, off6 + u.col * 2 + 1, none⟩ (.int .i64 2)).setCell ⟨g6, off6 + (u.col + 1) * 2, none⟩ (.string ⟨#[]⟩)).setCell ⟨g6, off6 + (u.col + 1) * 2 + 1, none⟩ (.int .i64 0)) 32 2 (.slice (some ⟨g6, off6, none⟩) Q.length c) Q.length (flat (((hs Q u.col 2).set u.col (s, 2)).set (u.col + 1) cz))) := Lib.hid (by have := row_set (row_set (r := hs Q u.col 2) HO3.out u.col hcn (s, 2)) (u.col + 1) hcn2 cz; exact this)
                    have HXU : Hid (Upd (fun k => V.ownBlock = some k) w2 ((((w4.setCell ⟨g6, off6 + u.col * 2, none⟩ (.string s)).setCell ⟨g6, off6 + u.col * 2 + 1, none⟩ (.int .i64 2)).setCell ⟨g6, off6 + (u.col + 1) * 2, none⟩ (.string ⟨#[]⟩)).setCell ⟨g6, off6 + (u.col + 1) * 2 + 1, none⟩ (.int .i64 0))) := Lib.hid (by have h1 := upd_far2 HU3.out HB.out off6 (u.col * 2) (.string s) (.int .i64 2); exact upd_far2 h1 HB.out off6 ((u.col + 1) * 2) (.string ⟨#[]⟩) (.int .i64 0))
                    have ho1 : decide ((u.W : Int) ≤ (u.col : Int) + 2) = false := decide_eq_false (by omega)
                    have ho2 : ¬ ((u.W : Int) ≤ (u.col : Int) + 2) := by omega
                    have ho3 : ¬ (u.W ≤ u.col + 2) := hov
                    go_wp2
                    refine still_tail 11 (by kernel_rfl) (by kernel_rfl) (fun w5 hw5 => ?_)
                    have HW5 := Lib.hid hw5
                    have HU5 : Hid (Upd (fun k => V.ownBlock = some k) w2 w5) := Lib.hid (by rw [hw5]; exact HXU.out.drew)
                    have HO5 : Hid (OwnS w5 32 2 (.slice (some ⟨g6, off6, none⟩) Q.length c) Q.length (flat (((hs Q u.col 2).set u.col (s, 2)).set (u.col + 1) cz))) := Lib.hid (by rw [hw5]; exact HX.out)
                    have hpV : ¬ V.ownBlock = some p := fun e => HP.out.pne (.inr ⟨u.row, hrow, by rw [HVV.out]; exact e⟩)
                    have hgV : ¬ V.ownBlock = some g := fun e => HP.out.rows.ne_rv hrow (by rw [HVV.out]; exact e) (by rw [HV1.out]; simp [Value.ownBlock])
                    have hpg : p ≠ g := fun e => HP.out.pne (.inl (by rw [HV1.out, e]; simp [Value.ownBlock]))
                    have hgp : g ≠ p := fun e => hpg e.symm
                    have hb5 := HP.out.blk.upd HU5.out hpV
                    have HB5 := Lib.hid hb5
                    have e0 : w5.cell? ⟨p, 0, none⟩ = some (.int .i64 u.W) := hb5.cell 0
                    have e2 : w5.cell? ⟨p, 2, none⟩ = some (.slice (some ⟨g, off, none⟩) R.length cap1) := by rw [← HV1.out]; exact hb5.cell 2
                    have e3 : w5.cell? ⟨p, 3, none⟩ = some (.int .i64 u.row) := hb5.cell 3
                    have e4 : w5.cell? ⟨p, 4, none⟩ = some (.int .i64 u.col) := hb5.cell 4
                    have e5 : w5.cell? ⟨p, 5, none⟩ = some (.bool u.full) := hb5.cell 5
                    have e6 : w5.cell? ⟨p, 6, none⟩ = some (.int .i64 u.lr) := hb5.cell 6
                    have e7 : w5.cell? ⟨p, 7, none⟩ = some (.int .i64 u.lc) := hb5.cell 7
                    have e8 : w5.cell? ⟨p, 8, none⟩ = some (.bool u.marks) := hb5.cell 8
                    have ef : ∀ j, w5.frozen? ⟨p, j, none⟩ = false := fun j => hb5.frozen j
                    have er := HU5.out.cell r0 hgV
                    have eg : ∀ j, w5.frozen? ⟨g, j, none⟩ = false := fun j => by
                      have := HP.out.rows.own.upd HU5.out (fun k hk e => HP.out.rows.ne_rv hrow (by rw [HVV.out]; exact e) hk)
                      rw [HV1.out] at this
                      exact this.frozen j
                    simp only [List.take_succ_cons, List.take_zero, List.drop_succ_cons, List.drop_zero]
                    clear hw5 hb5 r0 c0 c2 c3 c4 cf hfz4 d0 d1 b0 b1 hpV hgV
                    repeat still_step
                    refine wpStill_nil ?_
                    go_wp2
                    go_quiet (fail)
                    go_wp2
                    go_returns
                    have hT : t.write s 2 = { u with rows := R.set u.row (((hs Q u.col 2).set u.col (s, 2)).set (u.col + 1) cz), lr := u.row, lc := u.col, marks := true, col := u.col + 2, full := u.full } := by rw [HG.out, HRp.out, HQ.out, put_two, HQp.out, if_neg hov, if_neg hov]
                    rw [hT]
                    have T6 := HT1.out.trans (HP.out.putrow (i := u.row) (r' := ((hs Q u.col 2).set u.col (s, 2)).set (u.col + 1) cz) hrow HV1.out (by rw [HVV.out]; exact HU5.out) (by rw [show (((hs Q u.col 2).set u.col (s, 2)).set (u.col + 1) cz).length = Q.length from by simp [hs_len]]; exact HO5.out) (fun k hk => by rw [HVV.out]; exact HB.out k hk))
                    exact ⟨rfl, _, end_in T6 2 nq⟩
              | succ k1 =>
                have hd3 : (j3 : Int) < (span : Int) := by omega
                have hd3b : decide ((j3 : Int) < (span : Int)) = true := decide_eq_true hd3
                have hd3c : j3 < span := by omega
                have HCH : Hid (Calls Tryd.prog 62 #[.slice (some ⟨g6, off6, none⟩) Q.length c, .int .i64 ((u.col : Int) + (j3 : Int))] wr fun e w' => e = .returned (.tuple #[]) ∧ OwnS w' 32 2 (.slice (some ⟨g6, off6, none⟩) Q.length c) Q.length (flat (hs Q u.col (j3 + 1))) ∧ Upd (fun k => (Value.slice (some ⟨g6, off6, none⟩) Q.length c).ownBlock = some k) wr w') := Lib.hid (by
                  have h1 : OwnS wr 32 2 (.slice (some ⟨g6, off6, none⟩) Q.length c) (hs Q u.col j3).length (flat (hs Q u.col j3)) := by rw [HL3.out]; exact HO3.out
                  have := clearHalf_ h1 (u.col + j3) (by rw [HL3.out]; omega)
                  rw [HL3.out] at this
                  exact this)
                go_wp2_with (go_at_call 62; refine HCH.out.mono ?_; rintro e w4 ⟨rfl, ho4, hu4⟩; have HO4 := Lib.hid ho4; have HU4 := Lib.hid (HU3.out.then_ hu4 (fun k hk => HB.out k hk)); clear ho4 hu4)
                go_roundg k1
                case measure => omega
                case rel => exact ⟨j3 + 1, by simp, by omega, HO4, HU4⟩
          | succ k1 =>
            have hd2 : (Q.length : Int) < (u.col : Int) + (span : Int) := by omega
            have hd2b : decide ((Q.length : Int) < (u.col : Int) + (span : Int)) = true := decide_eq_true (by omega)
            have hd2c : Q.length < u.col + span := by omega
            obtain ⟨i0, hi0, hz0, hz1, hz2⟩ := info_parts info_cell
            have mx1 : Q.length + 1 ≤ maxLen := by unfold maxLen; omega
            have mx2 : (Q.length + 1) * 24 ≤ 140737488355328 := by omega
            have hone1 : ∀ u ∈ [Value.string ⟨#[32]⟩, Value.int .i64 1], u.oneCell' = true := by intro u hu; simp at hu; rcases hu with rfl | rfl <;> rfl
            have HQn : Hid (Q ++ [cb] = q ++ List.replicate (j2 + 1) cb) := Lib.hid (by rw [rep_snoc, hQ])
            have HQl := Lib.hid hQl
            clear hQ hQl
            go_wp2_with (first
              | (go_at_call 61; refine (blank_ _).mono ?_; rintro e w1 ⟨rfl, hb⟩; have HB1 := Lib.hid hb; have hbx := hb.alloc hb.size (.cells #[.string ⟨#[32]⟩, .int .i64 1] 32); have HBX := Lib.hid hbx; have hrd := (OwnS.new w1 32 2 1 [.string ⟨#[32]⟩, .int .i64 1] rfl (by unfold maxLen; omega)).reads; have hown := HO.out.keep (w' := w1.alloc (.cells #[.string ⟨#[32]⟩, .int .i64 1] 32)) (fun k hk => hbx.block k (HO.out.lt k hk)); clear hb hbx)
              | (at_builtin; go_loud (refine wpList_append_s (v := .slice A Q.length c) rfl (.tmp 81) (.tmp 83) _ rfl Tryd.underlying33 hi0 hz0 hz1 hz2 rfl (by omega) rfl hown rfl hrd hone1 mx1 mx2 ?_; intro v8 w8 ho8 hg8 hb8; obtain ⟨A8, c8, rfl, -⟩ := ho8.form; obtain ⟨hu8, hn8⟩ := pad_step HU.out HB.out HBX.out hg8 hb8; have HO8 := Lib.hid ho8; have HU8 := Lib.hid hu8; have HN8 := Lib.hid hn8; clear ho8 hg8 hb8 hu8 hn8)))
            go_roundg k1
            case measure => omega
            case rel =>
              have hql2 := HQl.out
              refine ⟨j2 + 1, A8, c8, by congr 1; omega, by omega, Lib.hid ?_, Lib.hid ?_, HU8⟩
              · have e : Q.length + 1 = q.length + (j2 + 1) := by omega
                rw [← HQn.out, flat_app, ← e]
                exact HO8.out
              · intro k hk
                exact HN8.out k (by cases A8 with | none => cases hk | some a => exact hk)
      | succ k1 =>
        have hd : decide ((R.length : Int) ≤ (u.row : Int)) = true := decide_eq_true (by omega)
        have hdi : (R.length : Int) ≤ (u.row : Int) := by omega
        have hdn : R.length ≤ u.row := by omega
        obtain ⟨i0, hi0, hz0, hz1, hz2⟩ := info_parts info_row
        have mx1 : R.length + 1 ≤ maxLen := by unfold maxLen; omega
        have mx2 : (R.length + 1) * 24 ≤ 140737488355328 := by omega
        have hone1 : ∀ u ∈ [Value.slice none 0 0], u.oneCell' = true := by intro u hu; simp at hu; subst hu; rfl
        have hR65 : R.length ≤ 65535 := by omega
        clear hRl
        have HRn : Hid (R ++ [[]] = u.rows ++ List.replicate (j + 1) []) := Lib.hid (by rw [rep_snoc, HR.out])
        go_wp2
        go_quiet (fail)
        have hal := fun (w0 : World) (hb0 : Below wr.heap.size wr w0) => hb0.alloc hb0.size (.cells #[.slice none 0 0] 33)
        have hbx := hal (wr.drewN nq) (below_drewN_ (Below.refl _ _) nq)
        have hrd := (OwnS.new (wr.drewN nq) 33 1 1 [.slice none 0 0] rfl (by unfold maxLen; omega)).reads
        have hown := (HV1.out ▸ HP.out.rows.own).keep (w' := (wr.drewN nq).alloc (.cells #[.slice none 0 0] 33)) (fun k hk => hbx.block k (HP.out.rows.own.lt k (by rw [HV1.out]; exact hk)))
        have HBX := Lib.hid hbx
        clear hal hbx
        go_wp2_with (at_builtin; go_loud (refine wpList_append_s (v := .slice A1 R.length cap1) rfl (.tmp 54) (.tmp 55) _ rfl Tryd.underlying24 hi0 hz0 hz1 hz2 rfl (by omega) rfl hown rfl hrd hone1 mx1 mx2 ?_; intro v8 w8 ho8 hg8 hb8; obtain ⟨A8, c8, rfl, -⟩ := ho8.form; have ht8 := HP.out.snoc HBX.out (by exact ho8) (by rw [HV1.out]; exact hg8) (by rw [HV1.out]; exact hb8); obtain ⟨pf8, pc8⟩ := snoc_top HP.out HBX.out (by rw [HV1.out]; exact hg8); have HT8 := Lib.hid ht8; clear ho8 hg8 hb8 ht8))
        go_roundg k1
        case measure => omega
        case rel => exact ⟨j + 1, ⟨.slice A8 (R.length + 1) c8, m1.vs ++ [.slice none 0 0]⟩, by omega, Lib.hid (by rw [← HRn.out]; exact HT1.out.trans HT8.out)⟩
end
end U
end Go.Proofs.YtceomobdolkfgaaDoor
