/- What the screen does with bytes, told plainly. No program. -/
import Derived.Test.YtceomobdolkfgaaDoorEC
import Derived.Test.YtceomobdolkfgaaDoorEA
set_option linter.unusedVariables false
namespace Go.Proofs.YtceomobdolkfgaaDoor.U
open Go.Lib
def TS.plain (t : TS) : TS := { t with full := false, marks := false }
def TS.control (t : TS) (b : Nat) : TS :=
  if b = 8 then { t.plain with col := t.col - 1 } else if b = 10 then t.plain.down else if b = 13 then { t.plain with col := 0 } else t.plain
/-- A sequence's numbers: one, or two. -/
structure Nums where
  two : Bool
  a : Nat
  b : Nat
def numN : Nums → Bs → Option Nums
  | n, [] => some n
  | n, c :: cs =>
    if 48 ≤ c.toNat ∧ c.toNat ≤ 57 then
      numN (if n.two then { n with b := min (n.b * 10 + (c.toNat - 48)) 65535 } else { n with a := min (n.a * 10 + (c.toNat - 48)) 65535 }) cs
    else if c.toNat = 59 ∧ n.two = false then numN { n with two := true, b := 0 } cs
    else none
def numbers (l : Bs) : Option Nums := numN ⟨false, 0, 0⟩ l
def whole (o : Option Nums) : Bool := match o with | some n => !n.two && n.a == 0 | none => false
def TS.carry (t : TS) (e : Nat) (inside : Bs) : TS :=
  if e = 74 then
    if whole (numbers inside) then { t with rows := (clearRow t.rows t.row t.col).take (t.row + 1) } else t
  else if e = 75 then
    if whole (numbers inside) then { t with rows := clearRow t.rows t.row t.col } else t
  else if e = 109 then t
  else
    match (if e = 72 then numbers inside else none) with
    | some n => { t with full := false, row := min (max n.a 1) t.H - 1, col := min (max (if n.two then n.b else 0) 1) t.W - 1 }
    | none => { t with full := false }
/-- How many bytes of a sequence's inside there are. -/
def ins : Bs → Nat
  | [] => 0
  | c :: cs => if 32 ≤ c.toNat ∧ c.toNat ≤ 63 then ins cs + 1 else 0
def TS.unmark (t : TS) : TS := { t with marks := false }
/-- The end of an escape's inside. -/
def escEnd (l : Bs) : Nat := 2 + ins (l.drop 2)
def TS.escape (t : TS) (l : Bs) : Nat × TS :=
  if l.length = 1 then (0, t)
  else if (l.getD 1 0).toNat = 27 then (1, t.unmark)
  else if (l.getD 1 0).toNat ≠ 91 then (2, t.unmark)
  else if escEnd l = l.length then (0, t)
  else if (l.getD (escEnd l) 0).toNat < 64 ∨ 126 < (l.getD (escEnd l) 0).toNat then (escEnd l, t.unmark)
  else (escEnd l + 1, t.unmark.carry (l.getD (escEnd l) 0).toNat ((l.take (escEnd l)).drop 2))
/-- A text laid behind the one that was written last. -/
def TS.lay (t : TS) (s : ByteArray) : TS :=
  let r := t.rows.getD t.lr []
  let x := r.getD t.lc cz
  { t with rows := t.rows.set t.lr (r.set t.lc (x.1 ++ s, x.2)) }
def bad3 : ByteArray := ⟨#[239, 191, 189]⟩
def ba (l : Bs) : ByteArray := ⟨l.toArray⟩
def TS.shown (t : TS) (c : Int) (s : ByteArray) : TS :=
  if c = 3 then (if t.marks then t.lay s else t)
  else if c = 0 then t.write s 1
  else if c = 5 then t.write bad3 1
  else if c = 4 then (if t.W = 1 then t.write bad3 1 else t.write s 2)
  else t.plain
def TS.step (t : TS) (l : Bs) : Nat × TS :=
  if (l.getD 0 0).toNat = 27 then t.escape l
  else if (l.getD 0 0).toNat < 32 ∨ (l.getD 0 0).toNat = 127 then (1, t.control (l.getD 0 0).toNat)
  else if begun l then (0, t)
  else (sz l, t.shown (cls (chr l)) (ba (l.take (sz l))))
/-- All that is held and what came, as far as it goes; n rounds at most. -/
def TS.feedN : Nat → TS → Bs → TS
  | 0, t, l => { t with held := ba l }
  | n + 1, t, l => if l = [] ∨ (t.step l).1 = 0 then { t with held := ba l } else TS.feedN n (t.step l).2 (l.drop (t.step l).1)
def TS.feed (t : TS) (l : Bs) : TS := TS.feedN (t.held.data.toList ++ l).length t (t.held.data.toList ++ l)
/-! What is kept. -/
theorem plain_inv {t : TS} (h : t.Inv) : t.plain.Inv := ⟨h.w1, h.w2, h.h1, h.h2, h.row, h.col, fun e => (by cases e), h.rows, h.len⟩
theorem unmark_inv {t : TS} (h : t.Inv) : t.unmark.Inv := ⟨h.w1, h.w2, h.h1, h.h2, h.row, h.col, fun e => (by cases e), h.rows, h.len⟩
theorem downm_inv {t : TS} (h : t.Inv) (hm : t.marks = false) : t.down.Inv := by
  obtain ⟨e1, e2, e3, e4, e5, e6, e7, e8⟩ := down_inv t h (.inr trivial)
  refine ⟨e1 ▸ h.w1, e1 ▸ h.w2, e2 ▸ h.h1, e2 ▸ h.h2, e2 ▸ e3, by rw [e6, e1]; exact h.col, fun e => ?_, e2 ▸ e4, fun i hi => e1 ▸ e5 i hi⟩
  rw [e8, hm] at e
  cases e
theorem control_inv {t : TS} (h : t.Inv) (b : Nat) : (t.control b).Inv := by
  have hp := plain_inv h
  unfold TS.control
  split
  · exact ⟨h.w1, h.w2, h.h1, h.h2, h.row, by have := h.col; show t.col - 1 < t.W; omega, fun e => (by cases e), h.rows, h.len⟩
  · split
    · exact downm_inv hp rfl
    · split
      · exact ⟨h.w1, h.w2, h.h1, h.h2, h.row, h.w1, fun e => (by cases e), h.rows, h.len⟩
      · exact hp
theorem numN_le : ∀ (l : Bs) (n m : Nums), numN n l = some m → n.a ≤ 65535 → n.b ≤ 65535 → m.a ≤ 65535 ∧ m.b ≤ 65535
  | [], n, m, h, ha, hb => by
    have e : n = m := by simpa [numN] using h
    subst e
    exact ⟨ha, hb⟩
  | c :: cs, n, m, h, ha, hb => by
    unfold numN at h
    split at h
    · refine numN_le cs _ m h ?_ ?_
      · split
        · exact ha
        · exact Nat.min_le_right _ _
      · split
        · exact Nat.min_le_right _ _
        · exact hb
    · split at h
      · exact numN_le cs _ m h ha (Nat.zero_le _)
      · cases h
theorem clearRow_len (rows : List Row) (i c : Nat) : (clearRow rows i c).length = rows.length := by
  unfold clearRow
  split
  · rfl
  · rw [List.length_set]
theorem clearRow_getD (rows : List Row) (i c j : Nat) : ((clearRow rows i c).getD j []).length ≤ (rows.getD j []).length := by
  unfold clearRow
  split
  · exact Nat.le_refl _
  · rename_i h
    rw [getD_set _ _ _ _ (by omega)]
    split
    · rename_i e
      subst e
      rw [List.length_take, half_len]
      omega
    · exact Nat.le_refl _
theorem carry_inv {t : TS} (h : t.Inv) (hm : t.marks = false) (e : Nat) (l : Bs) : (t.carry e l).Inv := by
  have hmk : ∀ b : Bool, t.marks = true → b = true := fun _ x => by rw [hm] at x; cases x
  have hcl : ∀ n, ((clearRow t.rows t.row t.col).take n).length ≤ t.H := fun n => by rw [List.length_take, clearRow_len]; have := h.rows; omega
  have hcl2 : ∀ i, i < t.rows.length → ((clearRow t.rows t.row t.col).getD i []).length ≤ t.W := fun i hi => Nat.le_trans (clearRow_getD _ _ _ _) (h.len i hi)
  unfold TS.carry
  split
  · split
    · refine ⟨h.w1, h.w2, h.h1, h.h2, h.row, h.col, fun x => (by rw [show t.marks = false from hm] at x; cases x), hcl _, fun i hi => ?_⟩
      have hi' : i < ((clearRow t.rows t.row t.col).take (t.row + 1)).length := hi
      rw [List.length_take, clearRow_len] at hi'
      show (((clearRow t.rows t.row t.col).take (t.row + 1)).getD i []).length ≤ _
      rw [List.getD_eq_getElem?_getD, List.getElem?_take, if_pos (by omega), ← List.getD_eq_getElem?_getD]
      exact hcl2 i (by omega)
    · exact h
  · split
    · split
      · refine ⟨h.w1, h.w2, h.h1, h.h2, h.row, h.col, fun x => (by rw [show t.marks = false from hm] at x; cases x), by show (clearRow _ _ _).length ≤ _; rw [clearRow_len]; exact h.rows, fun i hi => ?_⟩
        have hi' : i < (clearRow t.rows t.row t.col).length := hi
        rw [clearRow_len] at hi'
        exact hcl2 i hi'
      · exact h
    · split
      · exact h
      · split
        · have h1 := h.h1
          have h2 := h.w1
          refine ⟨h.w1, h.w2, h.h1, h.h2, ?_, ?_, fun x => (by rw [show t.marks = false from hm] at x; cases x), h.rows, h.len⟩
          · show min _ t.H - 1 < t.H; omega
          · show min _ t.W - 1 < t.W; omega
        · exact ⟨h.w1, h.w2, h.h1, h.h2, h.row, h.col, fun x => (by rw [show t.marks = false from hm] at x; cases x), h.rows, h.len⟩
theorem escape_inv {t : TS} (h : t.Inv) (l : Bs) : (t.escape l).2.Inv := by
  have hu := unmark_inv h
  unfold TS.escape
  repeat' split
  all_goals first | exact h | exact hu | exact carry_inv hu rfl _ _
theorem lay_inv {t : TS} (h : t.Inv) (s : ByteArray) (hm : t.marks = true) : (t.lay s).Inv := by
  obtain ⟨m1, m2⟩ := h.mark hm
  have hg : ∀ j, ((t.rows.set t.lr ((t.rows.getD t.lr []).set t.lc (((t.rows.getD t.lr []).getD t.lc cz).1 ++ s, ((t.rows.getD t.lr []).getD t.lc cz).2))).getD j []).length = (t.rows.getD j []).length := fun j => by
    rw [getD_set _ _ _ _ m1]
    split
    · rename_i e
      subst e
      rw [List.length_set]
    · rfl
  refine ⟨h.w1, h.w2, h.h1, h.h2, h.row, h.col, fun _ => ⟨?_, ?_⟩, ?_, fun i hi => ?_⟩
  · show t.lr < (t.rows.set t.lr _).length
    rw [List.length_set]; exact m1
  · show t.lc < ((t.rows.set t.lr _).getD t.lr []).length
    rw [hg]; exact m2
  · show (t.rows.set t.lr _).length ≤ _
    rw [List.length_set]; exact h.rows
  · show ((t.rows.set t.lr _).getD i []).length ≤ _
    rw [hg]
    have hi' : i < (t.rows.set t.lr ((t.rows.getD t.lr []).set t.lc (((t.rows.getD t.lr []).getD t.lc cz).1 ++ s, ((t.rows.getD t.lr []).getD t.lc cz).2))).length := hi
    rw [List.length_set] at hi'
    exact h.len i hi'
theorem shown_inv {t : TS} (h : t.Inv) (c : Int) (s : ByteArray) : (t.shown c s).Inv := by
  unfold TS.shown
  split
  · split
    · rename_i hm
      exact lay_inv h s hm
    · exact h
  · split
    · exact write_inv t h s 1 (.inl rfl)
    · split
      · exact write_inv t h bad3 1 (.inl rfl)
      · split
        · split
          · exact write_inv t h bad3 1 (.inl rfl)
          · rename_i hw
            exact write_inv t h s 2 (.inr ⟨rfl, by have := h.w1; omega⟩)
        · exact plain_inv h
theorem step_inv {t : TS} (h : t.Inv) (l : Bs) : (t.step l).2.Inv := by
  unfold TS.step
  split
  · exact escape_inv h l
  · split
    · exact control_inv h _
    · split
      · exact h
      · exact shown_inv h _ _
theorem held_inv {t : TS} (h : t.Inv) (s : ByteArray) : ({ t with held := s } : TS).Inv := ⟨h.w1, h.w2, h.h1, h.h2, h.row, h.col, h.mark, h.rows, h.len⟩
theorem ins_le : ∀ l : Bs, ins l ≤ l.length
  | [] => Nat.le_refl _
  | c :: cs => by
    unfold ins
    split
    · have := ins_le cs; simp; omega
    · exact Nat.zero_le _
theorem escEnd_le (l : Bs) (h : 2 ≤ l.length) : escEnd l ≤ l.length := by
  unfold escEnd
  have := ins_le (l.drop 2)
  rw [List.length_drop] at this
  omega
theorem step_le {t : TS} (l : Bs) (hl : l ≠ []) : (t.step l).1 ≤ l.length := by
  have h0 : 1 ≤ l.length := by cases l with | nil => exact absurd rfl hl | cons a b => simp
  unfold TS.step
  split
  · unfold TS.escape
    split
    · exact Nat.zero_le _
    · have h2 : 2 ≤ l.length := by omega
      have he := escEnd_le l h2
      repeat' split
      all_goals first | exact h0 | exact h2 | exact Nat.zero_le _ | exact he | (show escEnd l + 1 ≤ l.length; omega)
  · split
    · exact h0
    · split
      · exact Nat.zero_le _
      · exact sz_le l
theorem feedN_inv : ∀ (n : Nat) (t : TS) (l : Bs), t.Inv → (TS.feedN n t l).Inv
  | 0, t, l, h => held_inv h _
  | n + 1, t, l, h => by
    unfold TS.feedN
    split
    · exact held_inv h _
    · exact feedN_inv n _ _ (step_inv h l)
theorem feed_inv {t : TS} (h : t.Inv) (l : Bs) : (t.feed l).Inv := feedN_inv _ _ _ h
theorem new_inv (W H : Nat) (hW : 1 ≤ W ∧ W ≤ 65535) (hH : 1 ≤ H ∧ H ≤ 65535) : (⟨W, H, [], 0, 0, false, 0, 0, false, ⟨#[]⟩⟩ : TS).Inv := ⟨hW.1, hW.2, hH.1, hH.2, hH.1, hW.1, fun e => (by cases e), Nat.zero_le _, fun i hi => by simp at hi⟩
end Go.Proofs.YtceomobdolkfgaaDoor.U
/- The sizes of the texts that a screen bears. No program. -/
set_option linter.unusedVariables false
namespace Go.Proofs.YtceomobdolkfgaaDoor.U
open Go.Lib
/-- All texts of some rows are no longer than a bound. -/
def TxB (B : Nat) (rows : List Row) : Prop := ∀ r ∈ rows, ∀ c ∈ r, c.1.size ≤ B
def TxR (B : Nat) (r : Row) : Prop := ∀ c ∈ r, c.1.size ≤ B
section
variable {B B' : Nat} {rows : List Row} {r : Row}
theorem TxB.mono (h : TxB B rows) (hb : B ≤ B') : TxB B' rows := fun r hr c hc => Nat.le_trans (h r hr c hc) hb
theorem TxR.mono (h : TxR B r) (hb : B ≤ B') : TxR B' r := fun c hc => Nat.le_trans (h c hc) hb
theorem TxB.row (h : TxB B rows) (i : Nat) : TxR B (rows.getD i []) := by
  intro c hc
  by_cases hi : i < rows.length
  · refine h _ ?_ c hc
    rw [List.getD_eq_getElem?_getD, List.getElem?_eq_getElem hi]
    exact List.getElem_mem hi
  · rw [List.getD_eq_getElem?_getD, List.getElem?_eq_none (by omega)] at hc
    simp at hc
theorem TxR.at_ (h : TxR B r) (i : Nat) : (r.getD i cz).1.size ≤ B := by
  by_cases hi : i < r.length
  · refine h _ ?_
    rw [List.getD_eq_getElem?_getD, List.getElem?_eq_getElem hi]
    exact List.getElem_mem hi
  · rw [List.getD_eq_getElem?_getD, List.getElem?_eq_none (by omega)]
    exact Nat.zero_le _
theorem TxR.set_ (h : TxR B r) (i : Nat) (c : C) (hc : c.1.size ≤ B) : TxR B (r.set i c) := fun x hx => by
  rcases List.mem_or_eq_of_mem_set hx with h1 | h1
  · exact h x h1
  · rw [h1]; exact hc
theorem TxB.set_ (h : TxB B rows) (i : Nat) (q : Row) (hq : TxR B q) : TxB B (rows.set i q) := fun x hx => by
  rcases List.mem_or_eq_of_mem_set hx with h1 | h1
  · exact h x h1
  · rw [h1]; exact hq
theorem TxR.take (h : TxR B r) (n : Nat) : TxR B (r.take n) := fun x hx => h x (List.mem_of_mem_take hx)
theorem TxB.take (h : TxB B rows) (n : Nat) : TxB B (rows.take n) := fun x hx => h x (List.mem_of_mem_take hx)
theorem TxB.drop (h : TxB B rows) (n : Nat) : TxB B (rows.drop n) := fun x hx => h x (List.mem_of_mem_drop hx)
theorem TxB.app {q : List Row} (h : TxB B rows) (g : TxB B q) : TxB B (rows ++ q) := fun x hx => (List.mem_append.1 hx).elim (h x) (g x)
theorem TxR.app {q : Row} (h : TxR B r) (g : TxR B q) : TxR B (r ++ q) := fun x hx => (List.mem_append.1 hx).elim (h x) (g x)
theorem cb_size : cb.1.size = 1 := rfl
theorem TxR.half (h : TxR B r) (hB : 1 ≤ B) (c : Nat) : TxR B (half r c) := by
  have hb : cb.1.size ≤ B := hB
  unfold U.half
  split
  · exact h
  · dsimp only
    have h1 : TxR B (if (r.getD c cz).2 = 0 ∧ 0 < c then r.set (c - 1) cb else r) := by
      split
      · exact h.set_ _ _ hb
      · exact h
    have key : ∀ r1 : Row, TxR B r1 → TxR B (if (r1.getD c cz).2 = 2 ∧ c + 1 < r1.length then r1.set (c + 1) cb else r1) := fun r1 h1 => by
      split
      · exact h1.set_ _ _ hb
      · exact h1
    exact key _ h1
theorem TxB.clearRow (h : TxB B rows) (hB : 1 ≤ B) (i c : Nat) : TxB B (clearRow rows i c) := by
  unfold U.clearRow
  split
  · exact h
  · exact h.set_ _ _ (((h.row i).half hB c).take c)
theorem TxB.nil : TxB B [] := fun x hx => by simp at hx
theorem TxB.empty : TxB B [[]] := fun x hx => by simp at hx; subst hx; intro c hc; simp at hc
theorem TxB.down {t : TS} (h : TxB B t.rows) : TxB B t.down.rows := by
  unfold TS.down
  split
  · exact h
  · split
    · exact (h.drop 1).app TxB.empty
    · exact h.drop 1
theorem TxB.padRows (h : TxB B rows) (n : Nat) : TxB B (padRows rows n) := h.app fun x hx => by
  rw [List.eq_of_mem_replicate hx]
  intro c hc
  simp at hc
theorem TxR.padRow (h : TxR B r) (hB : 1 ≤ B) (n : Nat) : TxR B (padRow r n) := h.app fun x hx => by
  rw [List.eq_of_mem_replicate hx]
  exact hB
theorem TxR.put (h : TxR B r) (hB : 1 ≤ B) (c : Nat) (s : ByteArray) (hs : s.size ≤ B) (span : Nat) : TxR B (put r c s span) := by
  unfold U.put
  dsimp only
  have hp := h.padRow hB (c + span)
  split
  · exact (((hp.half hB c).half hB (c + 1)).set_ _ _ hs).set_ _ _ (Nat.zero_le _)
  · exact (hp.half hB c).set_ _ _ hs
theorem TxB.write {t : TS} (h : TxB B t.rows) (hB : 1 ≤ B) (s : ByteArray) (hs : s.size ≤ B) (span : Nat) : TxB B (t.write s span).rows := by
  have hw : TxB B (t.wrap span).rows := by
    unfold TS.wrap
    split
    · exact TxB.down h
    · exact h
  unfold TS.write
  dsimp only
  have hp := hw.padRows ((t.wrap span).row + 1)
  exact hp.set_ _ _ ((hp.row _).put hB _ s hs span)
theorem TxB.lay {t : TS} (h : TxB B t.rows) (s : ByteArray) : TxB (B + s.size) (t.lay s).rows := by
  have h2 := h.mono (Nat.le_add_right B s.size)
  unfold TS.lay
  dsimp only
  refine h2.set_ _ _ ((h2.row _).set_ _ _ ?_)
  have := (h.row t.lr).at_ t.lc
  show (ByteArray.append _ _).size ≤ _
  rw [show ((List.getD (t.rows.getD t.lr []) t.lc cz).1.append s).size = (List.getD (t.rows.getD t.lr []) t.lc cz).1.size + s.size from ByteArray.size_append ..]
  omega
theorem ba_size (l : Bs) : (ba l).size = l.length := by unfold ba; simp [ByteArray.size]
theorem TxB.shown {t : TS} (h : TxB B t.rows) (hB : 4 ≤ B) (c : Int) (s : ByteArray) (hs : s.size ≤ 4) : TxB (B + 4) (t.shown c s).rows := by
  have h4 := h.mono (Nat.le_add_right B 4)
  have b1 : 1 ≤ B + 4 := by omega
  unfold TS.shown
  split
  · split
    · exact (h.lay s).mono (by omega)
    · exact h4
  · split
    · exact h4.write b1 s (by omega) 1
    · split
      · exact h4.write b1 bad3 (by show 3 ≤ _; omega) 1
      · split
        · split
          · exact h4.write b1 bad3 (by show 3 ≤ _; omega) 1
          · exact h4.write b1 s (by omega) 2
        · exact h4
theorem TxB.control {t : TS} (h : TxB B t.rows) (b : Nat) : TxB B (t.control b).rows := by
  unfold TS.control
  split
  · exact h
  · split
    · exact TxB.down (t := t.plain) h
    · split
      · exact h
      · exact h
theorem TxB.carry {t : TS} (h : TxB B t.rows) (hB : 1 ≤ B) (e : Nat) (l : Bs) : TxB B (t.carry e l).rows := by
  have hc := h.clearRow hB t.row t.col
  unfold TS.carry
  split
  · split
    · exact hc.take _
    · exact h
  · split
    · split
      · exact hc
      · exact h
    · split
      · exact h
      · split
        · exact h
        · exact h
theorem TxB.escape {t : TS} (h : TxB B t.rows) (hB : 1 ≤ B) (l : Bs) : TxB B (t.escape l).2.rows := by
  unfold TS.escape
  repeat' split
  all_goals first | exact h | exact TxB.carry (t := t.unmark) h hB _ _
theorem TxB.step {t : TS} (h : TxB B t.rows) (hB : 4 ≤ B) (l : Bs) (hl : l ≠ []) : TxB (B + 4) (t.step l).2.rows := by
  have h4 := h.mono (Nat.le_add_right B 4)
  unfold TS.step
  split
  · exact h4.escape (by omega) l
  · split
    · exact h4.control _
    · split
      · exact h4
      · refine h.shown hB _ _ ?_
        rw [ba_size, List.length_take]
        have := sz_four l hl
        omega
end
end Go.Proofs.YtceomobdolkfgaaDoor.U
/- The screen's control. -/
set_option linter.unusedVariables false
namespace Go.Proofs.YtceomobdolkfgaaDoor
open Go.RowKit Go.Proofs.YtceomobdolkfgaaDoorW.PrintWords Go.Proofs.YtceomobdolkfgaaDoor.Sep
namespace U
section
variable {w w' : World} {p : Nat} {t : TS} {m : Mem}
theorem plain_turn (h : At w p t m) : Turned w ((w.setCell ⟨p, 5, none⟩ (.bool false)).setCell ⟨p, 8, none⟩ (.bool false)) p t m t.plain m :=
  Turned.top h rfl (((Upd.refl (fun k => k = p) w).setCell (p := ⟨p, 5, none⟩) (.inl rfl) _).setCell (p := ⟨p, 8, none⟩) (.inl rfl) _) (Blk.eq_ ((h.blk.set_ 5 (.bool false)).set_ 8 (.bool false)) rfl)
theorem col_turn (h : At w p t m) (c : Nat) : Turned w (w.setCell ⟨p, 4, none⟩ (.int .i64 c)) p t m { t with col := c } m :=
  Turned.top h rfl ((Upd.refl (fun k => k = p) w).setCell (p := ⟨p, 4, none⟩) (.inl rfl) _) (Blk.eq_ (h.blk.set_ 4 (.int .i64 c)) rfl)
set_option maxHeartbeats 4000000
set_option maxRecDepth 100000
theorem control_ (h : At w p t m) (hi : t.Inv) (b : Nat) (hb : b < 256) : Calls Tryd.prog 38 #[.pointer (some ⟨p, 0, none⟩), .int .u8 b] w fun e w' => e = .returned (.tuple #[]) ∧ ∃ m', Turned w w' p t m (t.control b) m' := by
  have HT := Lib.hid (plain_turn h)
  obtain ⟨c0, c1, c2, c3, c4, c5, -, -, c8, -, cf⟩ := h.cells
  have HD := Lib.hid (sdown_ HT.out.at_ (plain_inv hi))
  have hc0 : (0 : Int) ≤ (t.col : Int) := by omega
  have hcl : (t.col : Int) ≤ 65535 := by have := hi.col; have := hi.w2; omega
  obtain ⟨A0, cap0, hv0, -⟩ := h.rows.own.form
  clear h hi hv0
  by_cases h8 : b = 8
  · subst h8
    go_enter Tryd.func38, Tryd.ntmps38
    go_wp2
    go_returns
    refine ⟨rfl, m, HT.out.trans ?_⟩
    have e : max ((t.col : Int) - 1) 0 = ((t.col - 1 : Nat) : Int) := by omega
    rw [e]
    exact col_turn HT.out.at_ (t.col - 1)
  · have n8 : ¬ (b : Int) = 8 := by omega
    by_cases h10 : b = 10
    · subst h10
      have e0 : t.control 10 = t.plain.down := rfl
      rw [e0]
      clear e0
      go_enter Tryd.func38, Tryd.ntmps38
      go_wp2_with (go_at_call 54; refine HD.out.mono ?_; rintro e w1 ⟨rfl, m1, ht1⟩; have HT1 := Lib.hid ht1; clear ht1)
      go_returns
      exact ⟨rfl, m1, HT.out.trans HT1.out⟩
    · have n10 : ¬ (b : Int) = 10 := by omega
      by_cases h13 : b = 13
      · subst h13
        go_enter Tryd.func38, Tryd.ntmps38
        go_wp2
        go_returns
        exact ⟨rfl, m, HT.out.trans (col_turn HT.out.at_ 0)⟩
      · have n13 : ¬ (b : Int) = 13 := by omega
        have q8 : ((b : Int) == 8) = false := by rw [beq_eq_false_iff_ne]; exact n8
        have q10 : ((b : Int) == 10) = false := by rw [beq_eq_false_iff_ne]; exact n10
        have q13 : ((b : Int) == 13) = false := by rw [beq_eq_false_iff_ne]; exact n13
        have e0 : t.control b = t.plain := by unfold TS.control; rw [if_neg h8, if_neg h10, if_neg h13]
        rw [e0]
        clear e0
        go_enter Tryd.func38, Tryd.ntmps38
        go_wp2
        go_returns
        exact ⟨rfl, m, HT.out⟩
end
end U
end Go.Proofs.YtceomobdolkfgaaDoor
/- The screen's numbers. -/
set_option linter.unusedVariables false
namespace Go.Proofs.YtceomobdolkfgaaDoor
open Go.RowKit Go.Proofs.YtceomobdolkfgaaDoorW.PrintWords Go.Proofs.YtceomobdolkfgaaDoor.Sep Go.Lib
namespace U
theorem info_int : (Tryd.prog.info? 3).map (fun i => (i.zero, i.size, i.bytes)) = some (some (.int .i64 0), 1, 8) := by kernel_rfl
/-- The numbers as cells. -/
def Nums.cells (n : Nums) : List Value := if n.two then [.int .i64 n.a, .int .i64 n.b] else [.int .i64 n.a]
def Nums.len (n : Nums) : Nat := if n.two then 2 else 1
theorem drop_at (l : Bs) (i : Nat) (h : i < l.length) : l.drop i = l.getD i 0 :: l.drop (i + 1) := by
  rw [List.drop_eq_getElem_cons h, List.getD_eq_getElem?_getD, List.getElem?_eq_getElem h]
  rfl
/-- What the numbers are in memory: a slice of one's own. -/
structure NumsAt (w0 w : World) (v : Value) (n : Nums) : Prop where
  own : OwnS w 3 1 v n.len n.cells
  new : ∀ k, v.ownBlock = some k → w0.heap.size ≤ k
  below : Below w0.heap.size w0 w
def NumsOut (w : World) (o : Option Nums) (e : Ending) (w' : World) : Prop :=
  match o with
  | some n => ∃ v, e = .returned (.tuple #[v, .bool true]) ∧ NumsAt w w' v n
  | none => e = .returned (.tuple #[.slice none 0 0, .bool false]) ∧ Below w.heap.size w w'
theorem NumsAt.cell {w0 w : World} {g off c : Nat} {n : Nums} (h : NumsAt w0 w (.slice (some ⟨g, off, none⟩) n.len c) n) : (∀ j u, n.cells[j]? = some u → w.cell? ⟨g, off + j, none⟩ = some u) ∧ ∀ j, w.frozen? ⟨g, j, none⟩ = false := by
  obtain ⟨g', off', c', e, -, -, hc, -⟩ := own_cell h.own (by unfold Nums.len; split <;> decide)
  injection e with e1 _ _
  injection e1 with e1
  injection e1 with e1 e2
  subst e1 e2
  exact ⟨hc, fun j => h.own.frozen j⟩
theorem numN_digit (n : Nums) (x : UInt8) (l : Bs) (h : 48 ≤ x.toNat ∧ x.toNat ≤ 57) : numN n (x :: l) = numN (if n.two then { n with b := min (n.b * 10 + (x.toNat - 48)) 65535 } else { n with a := min (n.a * 10 + (x.toNat - 48)) 65535 }) l := by
  conv => lhs; unfold numN
  rw [if_pos h]
theorem numN_semi (n : Nums) (x : UInt8) (l : Bs) (h : x.toNat = 59) (h2 : n.two = false) : numN n (x :: l) = numN { n with two := true, b := 0 } l := by
  conv => lhs; unfold numN
  rw [if_neg (by omega), if_pos ⟨h, h2⟩]
theorem numN_bad (n : Nums) (x : UInt8) (l : Bs) (h : ¬ (48 ≤ x.toNat ∧ x.toNat ≤ 57)) (h2 : ¬ (x.toNat = 59 ∧ n.two = false)) : numN n (x :: l) = none := by
  unfold numN
  rw [if_neg h, if_neg h2]
theorem NumsAt.set_ {w0 w : World} {g off c : Nat} {n m : Nums} (h : NumsAt w0 w (.slice (some ⟨g, off, none⟩) n.len c) n) (j : Nat) (u : Value) (hj : j < n.len) (hm : m.len = n.len) (hc : m.cells = n.cells.set j u) : NumsAt w0 (w.setCell ⟨g, off + j, none⟩ u) (.slice (some ⟨g, off, none⟩) m.len c) m := by
  refine ⟨?_, fun k hk => h.new k (by simpa [Value.ownBlock] using hk), ?_⟩
  · rw [hm, hc]
    exact own_set h.own j (by omega) u
  · exact h.below.setCell (p := ⟨g, off + j, none⟩) (h.new g (by simp [Value.ownBlock])) u
set_option maxHeartbeats 4000000
set_option maxRecDepth 100000
theorem numbers_ (s : ByteArray) (w : World) (hs : s.size ≤ 1099511627776) : Calls Tryd.prog 70 #[.string s] w fun e w' => NumsOut w (numbers (L s)) e w' := by
  obtain ⟨o, ho⟩ : ∃ o, numbers (L s) = o := ⟨_, rfl⟩
  rw [ho]
  have HO := Lib.hid ho
  have hl := L_len s
  have HL := Lib.hid hl
  clear ho hl
  obtain ⟨i0, hi0, hz0, hz1, hz2⟩ := info_parts info_int
  have HN := Lib.hid (OwnS.new w 3 1 1 [.int .i64 0] rfl (by unfold maxLen; omega))
  go_enter Tryd.func70, Tryd.ntmps70
  go_wp2
  go_loopg [4, 10] s.size (fun k v4 v10 w' => ∃ i : Nat, ∃ n : Nums, ∃ g off c : Nat, v10 = .int .i64 i ∧ i + k = s.size ∧ v4 = .slice (some ⟨g, off, none⟩) n.len c ∧ n.len ≤ c ∧ Hid (numN n ((L s).drop i) = o) ∧ n.a ≤ 65535 ∧ n.b ≤ 65535 ∧ Hid (NumsAt w w' (.slice (some ⟨g, off, none⟩) n.len c) n))
  case atStart => exact ⟨0, ⟨false, 0, 0⟩, w.heap.size, 0, 1, rfl, by omega, rfl, Nat.le_refl _, Lib.hid (by rw [List.drop_zero]; exact HO.out), by decide, by decide, Lib.hid ⟨HN.out, fun k hk => by simp [Value.ownBlock] at hk; omega, below_one _ _⟩⟩
  case round =>
    obtain ⟨i, n, g, off, c, rfl, hik, rfl, hnc, HR, ha, hb, HA⟩ := hrel
    clear HO HN
    cases gk with
    | zero =>
      have e1 : decide ((i : Int) < (s.size : Int)) = false := decide_eq_false (by omega)
      have HE : Hid (o = some n) := Lib.hid (by rw [← HR.out, List.drop_eq_nil_of_le (by rw [HL.out]; omega)]; rfl)
      go_wp2
      go_ret2
      rw [HE.out]
      exact ⟨_, rfl, HA.out⟩
    | succ k1 =>
      have hi : i < s.size := by omega
      have e1 : decide ((i : Int) < (s.size : Int)) = true := decide_eq_true (by omega)
      have hin : (i : Int) < (s.size : Int) := by omega
      have hR := HR.out
      rw [drop_at _ _ (by rw [HL.out]; exact hi)] at hR
      obtain ⟨x, hx⟩ : ∃ x, (L s).getD i 0 = x := ⟨_, rfl⟩
      have hsx : s[i]'hi = x := by rw [← hx]; exact (getL s i hi).symm
      have hx8 := x.toNat_lt
      rw [hx] at hR
      obtain ⟨hcell, hfz⟩ := HA.out.cell
      clear hx HR
      obtain ⟨tw, a, b⟩ := n
      dsimp only at ha hb
      by_cases hd : 48 ≤ x.toNat ∧ x.toNat ≤ 57
      · rw [numN_digit _ _ _ hd] at hR
        have q1 : (48 : Int) ≤ (x.toNat : Int) := by omega
        have q2 : (x.toNat : Int) ≤ 57 := by omega
        cases tw with
        | false =>
          have HR := Lib.hid hR
          have c0 := hcell 0 (.int .i64 a) rfl
          rw [Nat.add_zero] at c0
          have hmin : min ((a : Int) * 10 + ((x.toNat : Int) - 48)) 65535 = ((min (a * 10 + (x.toNat - 48)) 65535 : Nat) : Int) := by omega
          have HM := Lib.hid hmin
          have q1n := hd.1
          have q2n := hd.2
          rw [show (Nums.mk false a b).len = 1 from rfl] at hnc ⊢
          clear hR hcell hmin hd
          go_wp2
          go_roundg k1
          case measure => omega
          case rel =>
            refine ⟨i + 1, ⟨false, min (a * 10 + (x.toNat - 48)) 65535, b⟩, g, off, c, by simp, by omega, rfl, hnc, HR, Nat.min_le_right _ _, hb, Lib.hid ?_⟩
            have := HA.out.set_ (m := ⟨false, min (a * 10 + (x.toNat - 48)) 65535, b⟩) 0 (.int .i64 (min (a * 10 + (x.toNat - 48)) 65535 : Nat)) (show 0 < 1 by decide) rfl rfl
            rw [HM.out]
            exact this
        | true =>
          have HR := Lib.hid hR
          have c0 := hcell 1 (.int .i64 b) rfl
          have hmin : min ((b : Int) * 10 + ((x.toNat : Int) - 48)) 65535 = ((min (b * 10 + (x.toNat - 48)) 65535 : Nat) : Int) := by omega
          have HM := Lib.hid hmin
          have q1n := hd.1
          have q2n := hd.2
          rw [show (Nums.mk true a b).len = 2 from rfl] at hnc ⊢
          clear hR hcell hmin hd
          go_wp2
          go_roundg k1
          case measure => omega
          case rel =>
            refine ⟨i + 1, ⟨true, a, min (b * 10 + (x.toNat - 48)) 65535⟩, g, off, c, by simp, by omega, rfl, hnc, HR, ha, Nat.min_le_right _ _, Lib.hid ?_⟩
            have := HA.out.set_ (m := ⟨true, a, min (b * 10 + (x.toNat - 48)) 65535⟩) 1 (.int .i64 (min (b * 10 + (x.toNat - 48)) 65535 : Nat)) (show 1 < 2 by decide) rfl rfl
            rw [HM.out]
            exact this
      · have qd : ¬ ((48 : Int) ≤ (x.toNat : Int) ∧ (x.toNat : Int) ≤ 57) := by omega
        by_cases hs9 : x.toNat = 59 ∧ tw = false
        · obtain ⟨h9, rfl⟩ := hs9
          rw [numN_semi _ _ _ h9 rfl] at hR
          have HR := Lib.hid hR
          have mx1 : 1 + 1 ≤ maxLen := by unfold maxLen; omega
          have mx2 : (1 + 1) * 8 ≤ 140737488355328 := by omega
          have hone1 : ∀ u ∈ [Value.int .i64 0], u.oneCell' = true := by intro u hu; simp at hu; subst hu; rfl
          have hbx := (Below.refl wr.heap.size wr).alloc (Nat.le_refl _) (.cells #[.int .i64 0] 3)
          have hrd := (OwnS.new wr 3 1 1 [.int .i64 0] rfl (by unfold maxLen; omega)).reads
          have hown : OwnS (wr.alloc (.cells #[.int .i64 0] 3)) 3 1 (.slice (some ⟨g, off, none⟩) 1 c) 1 [.int .i64 a] := HA.out.own.keep (fun k hk => hbx.block k (HA.out.own.lt k hk))
          have HBX := Lib.hid hbx
          rw [show (Nums.mk false a b).len = 1 from rfl] at hnc ⊢
          clear hR hcell hd qd hbx
          have qx : (x.toNat : Int) = 59 := by omega
          go_wp2_with (at_builtin; go_loud (refine wpList_append_s (v := .slice (some ⟨g, off, none⟩) 1 c) rfl (.tmp 48) (.tmp 49) _ rfl Tryd.underlying114 hi0 hz0 hz1 hz2 rfl (by omega) rfl hown rfl hrd hone1 mx1 mx2 ?_; intro v8 w8 ho8 hg8 hb8; obtain ⟨g8, o8, c8, rfl, -, hc8, -, -⟩ := own_cell ho8 (by omega); have HO8 := Lib.hid ho8; have HG8 := Lib.hid hg8; have HB8 := Lib.hid hb8; clear ho8 hg8 hb8))
          go_roundg k1
          case measure => omega
          case rel =>
            refine ⟨i + 1, ⟨true, a, 0⟩, g8, o8, c8, by simp, by omega, rfl, hc8, HR, ha, Nat.zero_le _, Lib.hid ⟨HO8.out, fun k hk => ?_, ?_⟩⟩
            · rcases HB8.out with e | e
              · exact HA.out.new k (by have hk' : (Value.slice (some ⟨g8, o8, none⟩) (1 + 1) c8).ownBlock = some k := hk; rw [e] at hk'; exact hk')
              · have h1 := e k hk
                have h2 := HA.out.below.size
                simp at h1
                omega
            · exact (HA.out.below.trans (HBX.out.mono HA.out.below.size)).grown HG8.out (Nat.le_trans HA.out.below.size HBX.out.size) (fun k hk => HA.out.new k hk)
        · rw [numN_bad _ _ _ hd hs9] at hR
          have HR := Lib.hid hR.symm
          clear hR hcell hnc
          have fin : ∀ e : Ending, e = .returned (.tuple #[.slice none 0 0, .bool false]) → NumsOut w o e wr := fun e he => by rw [HR.out]; exact ⟨he, HA.out.below⟩
          have FIN := Lib.hid fin
          clear fin
          by_cases h1 : x.toNat < 48
          · have q1 : ¬ (48 : Int) ≤ (x.toNat : Int) := by omega
            have q1n : ¬ 48 ≤ x.toNat := by omega
            have q9 : ((x.toNat : Int) == 59) = false := by rw [beq_eq_false_iff_ne]; omega
            have q9n : ¬ x.toNat = 59 := by omega
            clear hd qd hs9
            go_wp2
            go_ret2
            exact FIN.out _ rfl
          · by_cases h9 : x.toNat = 59
            · have htw : tw = true := by cases tw with | true => rfl | false => exact absurd ⟨h9, rfl⟩ hs9
              subst htw
              have q9 : (x.toNat : Int) = 59 := by omega
              rw [show (Nums.mk true a b).len = 2 from rfl]
              clear hd qd hs9
              go_wp2
              go_ret2
              exact FIN.out _ rfl
            · have q1 : (48 : Int) ≤ (x.toNat : Int) := by omega
              have q1n : 48 ≤ x.toNat := by omega
              have q2 : ¬ (x.toNat : Int) ≤ 57 := by omega
              have q2n : ¬ x.toNat ≤ 57 := by omega
              have q9 : ((x.toNat : Int) == 59) = false := by rw [beq_eq_false_iff_ne]; omega
              clear hd qd hs9
              go_wp2
              go_ret2
              exact FIN.out _ rfl
end U
end Go.Proofs.YtceomobdolkfgaaDoor
/- The screen's carry. -/
set_option linter.unusedVariables false
namespace Go.Proofs.YtceomobdolkfgaaDoor
open Go.RowKit Go.Proofs.YtceomobdolkfgaaDoorW.PrintWords Go.Proofs.YtceomobdolkfgaaDoor.Sep Go.Lib
namespace U
section
variable {w w' : World} {p : Nat} {t : TS} {m : Mem}
/-- The first rows. -/
theorem At.cut (h : At w p t m) {A : Option Addr} {cap : Nat} (hv : m.rv = .slice A t.rows.length cap) (k : Nat) (hk : k ≤ t.rows.length) : Turned w (w.setCell ⟨p, 2, none⟩ (.slice A k cap)) p t m { t with rows := t.rows.take k } ⟨.slice A k cap, m.vs.take k⟩ := by
  have hlen := h.rows.vlen
  have hl : (t.rows.take k).length = k := by rw [List.length_take]; omega
  have hvi : ∀ i, i < k → Mem.v ⟨.slice A k cap, m.vs.take k⟩ i = m.v i := fun i hi => by
    unfold Mem.v
    simp [List.getD, List.getElem?_take, hi]
  have hri : ∀ i, i < k → (t.rows.take k).getD i [] = t.rows.getD i [] := fun i hi => by simp [List.getD, List.getElem?_take, hi]
  have hob : (Value.slice A k cap).ownBlock = m.rv.ownBlock := by rw [hv]; cases A <;> simp [Value.ownBlock]
  have hr : RowsAt w ⟨.slice A k cap, m.vs.take k⟩ (t.rows.take k) := by
    refine ⟨?_, fun i hi => ?_, fun i j q hi hj hne hq => ?_⟩
    · rw [hl]
      have := (hv ▸ h.rows.own : OwnS w 33 1 (.slice A t.rows.length cap) t.rows.length m.vs).take k hk
      rw [Nat.mul_one] at this
      exact this
    · rw [hl] at hi
      rw [hvi i hi, hri i hi]
      exact h.rows.row i (by omega)
    · rw [hl] at hi hj
      rw [hvi i hi] at hq
      rw [hvi j hj]
      exact h.rows.sep i j q (by omega) (by omega) hne hq
  have hf : ∀ q, Mem.foot ⟨.slice A k cap, m.vs.take k⟩ (t.rows.take k).length q → m.foot t.rows.length q := by
    rintro q (hq | ⟨i, hi, hq⟩)
    · exact .inl (hob ▸ hq)
    · rw [hl] at hi
      rw [hvi i hi] at hq
      exact .inr ⟨i, by omega, hq⟩
  refine ⟨⟨Blk.eq_ (h.blk.set_ 2 _) rfl, ?_⟩, Upd.setCell (p := ⟨p, 2, none⟩) (Upd.refl _ _) (.inl (.inl rfl)) _, ?_⟩
  · refine hr.upd (Upd.setCell (S := fun k => k = p) (p := ⟨p, 2, none⟩) (Upd.refl _ _) (.inl rfl) _) (fun q hq e => ?_)
    subst e
    exact h.pne (hf _ hq)
  · rintro q (rfl | hq)
    · exact .inl (.inl rfl)
    · exact .inl (.inr (hf q hq))
theorem full_turn (h : At w p t m) : Turned w (w.setCell ⟨p, 5, none⟩ (.bool false)) p t m { t with full := false } m :=
  Turned.top h rfl ((Upd.refl (fun k => k = p) w).setCell (p := ⟨p, 5, none⟩) (.inl rfl) _) (Blk.eq_ (h.blk.set_ 5 (.bool false)) rfl)
theorem row_turn (h : At w p t m) (r : Nat) : Turned w (w.setCell ⟨p, 3, none⟩ (.int .i64 r)) p t m { t with row := r } m :=
  Turned.top h rfl ((Upd.refl (fun k => k = p) w).setCell (p := ⟨p, 3, none⟩) (.inl rfl) _) (Blk.eq_ (h.blk.set_ 3 (.int .i64 r)) rfl)
theorem Turned.from_below {t' : TS} {m' : Mem} {w1 w2 : World} (hb : Below w.heap.size w w1) (h : Turned w1 w2 p t m t' m') : Turned w w2 p t m t' m' :=
  ⟨h.at_, (Upd.below hb _).then_ h.upd (fun k hk => .inl hk), fun k hk => (h.foot k hk).imp id (fun e => Nat.le_trans hb.size e)⟩
theorem drew_below (w : World) : Below w.heap.size w w.drew := ⟨rfl, rfl, rfl, Nat.le_refl _, fun _ _ => rfl⟩
theorem own_cells {e : TypeId} {sz n : Nat} {g off c : Nat} {xs : List Value} {w : World} (h : OwnS w e sz (.slice (some ⟨g, off, none⟩) n c) n xs) : ∀ j u, xs[j]? = some u → w.cell? ⟨g, off + j, none⟩ = some u := by
  intro j u hu
  by_cases h0 : 0 < n
  · obtain ⟨g', off', c', e', -, -, hc, -⟩ := own_cell h h0
    injection e' with e1 _ _
    injection e1 with e1
    injection e1 with e1 e2
    subst e1 e2
    exact hc j u hu
  · have := h.1
    obtain rfl : n = 0 := by omega
    have hx : xs = [] := List.eq_nil_of_length_eq_zero (by simpa using this)
    subst hx
    simp at hu
theorem wrap_id (x : Int) (h0 : -9223372036854775808 ≤ x) (h1 : x ≤ 9223372036854775807) : IntKind.i64.wrap x = x := by
  rw [IntKind.wrap_i64]
  omega
set_option maxHeartbeats 4000000
set_option maxRecDepth 100000
theorem carry_J_none (h : At w p t m) (hi : t.Inv) (s : ByteArray) (hs : s.size ≤ 1099511627776) (ho : numbers (L s) = none) : Calls Tryd.prog 53 #[.pointer (some ⟨p, 0, none⟩), .int .u8 74, .string s] w fun e w' => e = .returned (.tuple #[]) ∧ ∃ m', Turned w w' p t m (t.carry 74 (L s)) m' := by
  have hr : t.carry 74 (L s) = t := by unfold TS.carry; rw [ho]; rfl
  rw [hr]
  clear hr
  have HA := Lib.hid h
  have HI := Lib.hid hi
  have hN := numbers_ s w hs
  rw [ho] at hN
  have HN := Lib.hid hN
  obtain ⟨A0, cap0, hv0, hc0⟩ := h.rows.own.form
  have HV0 := Lib.hid hv0
  clear h hN ho hv0
  go_enter Tryd.func53, Tryd.ntmps53
  go_wp2_with (go_at_call 70; refine HN.out.mono ?_; rintro e w1 ⟨rfl, hq⟩; have HQ := Lib.hid hq; have pf5 := (HA.out.below hq).blk.frozen 5; have pc5 := (HA.out.below hq).blk.cell 5; clear hq)
  go_returns
  exact ⟨rfl, m, (Turned.refl HA.out).below HQ.out⟩
theorem carry_J_zero (h : At w p t m) (hi : t.Inv) (s : ByteArray) (hs : s.size ≤ 1099511627776) (A B : Nat) (hA5 : A ≤ 65535) (hB5 : B ≤ 65535) (ho : numbers (L s) = some ⟨false, 0, B⟩) : Calls Tryd.prog 53 #[.pointer (some ⟨p, 0, none⟩), .int .u8 74, .string s] w fun e w' => e = .returned (.tuple #[]) ∧ ∃ m', Turned w w' p t m (t.carry 74 (L s)) m' := by
  have hr : t.carry 74 (L s) = { t with rows := (clearRow t.rows t.row t.col).take (t.row + 1) } := by unfold TS.carry; rw [ho]; rfl
  rw [hr]
  clear hr
  have HA := Lib.hid h
  have HI := Lib.hid hi
  have hN := numbers_ s w hs
  rw [ho] at hN
  have HN := Lib.hid hN
  obtain ⟨A0, cap0, hv0, hc0⟩ := h.rows.own.form
  have HV0 := Lib.hid hv0
  clear h hN ho hv0
  go_enter Tryd.func53, Tryd.ntmps53
  go_wp2_with (go_at_call 70; refine HN.out.mono ?_; rintro e w1 ⟨v, rfl, hq⟩; obtain ⟨g, off, c, rfl, -, hgc, -, -⟩ := own_cell hq.own (show 0 < 1 by decide); have HQ := Lib.hid hq.below; have pf5 := (HA.out.below hq.below).blk.frozen 5; have pc5 := (HA.out.below hq.below).blk.cell 5; have g0 := hq.cell.1 0 (.int .i64 (0 : Nat)) rfl; rw [Nat.add_zero] at g0; have HM := Lib.hid hq; rw [show (Nums.len _) = 1 from rfl]; clear hq)
  have HA1 := Lib.hid (HA.out.below HQ.out)
  refine still_tail 11 (by kernel_rfl) (by kernel_rfl) (fun w2 hw2 => ?_)
  have HW2 : Hid (Below w1.heap.size w1 w2) := Lib.hid (by rw [hw2]; exact drew_below w1)
  have HA2 := Lib.hid (HA1.out.below HW2.out)
  have d3 : w2.cell? ⟨p, 3, none⟩ = some (.int .i64 t.row) := HA2.out.blk.cell 3
  have d4 : w2.cell? ⟨p, 4, none⟩ = some (.int .i64 t.col) := HA2.out.blk.cell 4
  have HCR := Lib.hid (clearRow_ HA2.out HI.out t.row t.col)
  simp only [List.take_succ_cons, List.take_zero, List.drop_succ_cons, List.drop_zero]
  clear hw2 pf5 pc5 g0
  repeat still_step
  refine wpStill_nil ?_
  go_wp2_with (go_at_call 71; refine HCR.out.mono ?_; rintro e w3 ⟨rfl, m3, ht3⟩; have HT3 := Lib.hid ht3; clear ht3)
  obtain ⟨R, hR⟩ : ∃ R, clearRow t.rows t.row t.col = R := ⟨_, rfl⟩
  have hRl : R.length = t.rows.length := by rw [← hR, clearRow_len]
  rw [hR] at HT3
  have HR := Lib.hid hR
  clear hR d3 d4
  refine still_tail 20 (by kernel_rfl) (by kernel_rfl) (fun w4 hw4 => ?_)
  have HW4 : Hid (Below w3.heap.size w3 w4) := Lib.hid (by rw [hw4]; exact drew_below w3)
  have HA4 := Lib.hid (HT3.out.at_.below HW4.out)
  obtain ⟨A1, cap1, hv1, hc1⟩ := HA4.out.rows.own.form
  have hc1' : R.length ≤ cap1 := hc1
  have d2 : w4.cell? ⟨p, 2, none⟩ = some (.slice A1 R.length cap1) := by rw [← hv1]; exact HA4.out.blk.cell 2
  have d3 : w4.cell? ⟨p, 3, none⟩ = some (.int .i64 t.row) := HA4.out.blk.cell 3
  have df2 := HA4.out.blk.frozen 2
  have HV1 := Lib.hid hv1
  obtain ⟨k, hk⟩ : ∃ k, min R.length (t.row + 1) = k := ⟨_, rfl⟩
  have hkR : k ≤ R.length := by omega
  have hmin : min (R.length : Int) ((t.row : Int) + 1) = (k : Int) := by omega
  have hkc : (k : Int) ≤ (cap1 : Int) := by omega
  have hrw : IntKind.i64.wrap ((t.row : Int) + 1) = (t.row : Int) + 1 := wrap_id _ (by omega) (by have := HI.out.row; have := HI.out.h2; omega)
  have HK : Hid (R.take (t.row + 1) = R.take k) := Lib.hid (by rw [← hk]; rw [List.take_eq_take_iff]; omega)
  have HRL := Lib.hid hRl
  simp only [List.take_succ_cons, List.take_zero, List.drop_succ_cons, List.drop_zero]
  clear hw4 hv1 hc1 hk hRl
  repeat still_step
  refine wpStill_nil ?_
  go_wp2
  go_returns
  have T4 := Turned.from_below HQ.out (Turned.from_below HW2.out (HT3.out.below HW4.out))
  have T5 := HA4.out.cut (show _ = Value.slice A1 R.length cap1 from HV1.out) k hkR
  rw [HR.out, HK.out]
  exact ⟨rfl, _, T4.trans T5⟩
theorem carry_J_one (h : At w p t m) (hi : t.Inv) (s : ByteArray) (hs : s.size ≤ 1099511627776) (A B : Nat) (hA : A ≠ 0) (hA5 : A ≤ 65535) (hB5 : B ≤ 65535) (ho : numbers (L s) = some ⟨false, A, B⟩) : Calls Tryd.prog 53 #[.pointer (some ⟨p, 0, none⟩), .int .u8 74, .string s] w fun e w' => e = .returned (.tuple #[]) ∧ ∃ m', Turned w w' p t m (t.carry 74 (L s)) m' := by
  have hr : t.carry 74 (L s) = t := by unfold TS.carry; rw [ho]; simp [whole, hA]
  rw [hr]
  clear hr
  have HA := Lib.hid h
  have HI := Lib.hid hi
  have hN := numbers_ s w hs
  rw [ho] at hN
  have HN := Lib.hid hN
  obtain ⟨A0, cap0, hv0, hc0⟩ := h.rows.own.form
  have HV0 := Lib.hid hv0
  clear h hN ho hv0
  go_enter Tryd.func53, Tryd.ntmps53
  have zA : ((A : Int) == 0) = false := by rw [beq_eq_false_iff_ne]; omega
  have yA : ¬ (A : Int) = 0 := by omega
  clear hA
  go_wp2_with (go_at_call 70; refine HN.out.mono ?_; rintro e w1 ⟨v, rfl, hq⟩; obtain ⟨g, off, c, rfl, -, hgc, -, -⟩ := own_cell hq.own (show 0 < 1 by decide); have HQ := Lib.hid hq.below; have pf5 := (HA.out.below hq.below).blk.frozen 5; have pc5 := (HA.out.below hq.below).blk.cell 5; have g0 := hq.cell.1 0 (.int .i64 (A : Nat)) rfl; rw [Nat.add_zero] at g0; have HM := Lib.hid hq; rw [show (Nums.len _) = 1 from rfl]; clear hq)
  go_returns
  exact ⟨rfl, m, (Turned.refl HA.out).below HQ.out⟩
theorem carry_J_two (h : At w p t m) (hi : t.Inv) (s : ByteArray) (hs : s.size ≤ 1099511627776) (A B : Nat) (hA5 : A ≤ 65535) (hB5 : B ≤ 65535) (ho : numbers (L s) = some ⟨true, A, B⟩) : Calls Tryd.prog 53 #[.pointer (some ⟨p, 0, none⟩), .int .u8 74, .string s] w fun e w' => e = .returned (.tuple #[]) ∧ ∃ m', Turned w w' p t m (t.carry 74 (L s)) m' := by
  have hr : t.carry 74 (L s) = t := by unfold TS.carry; rw [ho]; rfl
  rw [hr]
  clear hr
  have HA := Lib.hid h
  have HI := Lib.hid hi
  have hN := numbers_ s w hs
  rw [ho] at hN
  have HN := Lib.hid hN
  obtain ⟨A0, cap0, hv0, hc0⟩ := h.rows.own.form
  have HV0 := Lib.hid hv0
  clear h hN ho hv0
  go_enter Tryd.func53, Tryd.ntmps53
  go_wp2_with (go_at_call 70; refine HN.out.mono ?_; rintro e w1 ⟨v, rfl, hq⟩; obtain ⟨g, off, c, rfl, -, hgc, -, -⟩ := own_cell hq.own (show 0 < 2 by decide); have HQ := Lib.hid hq.below; have pf5 := (HA.out.below hq.below).blk.frozen 5; have pc5 := (HA.out.below hq.below).blk.cell 5; have g0 := hq.cell.1 0 (.int .i64 (A : Nat)) rfl; rw [Nat.add_zero] at g0; have HM := Lib.hid hq; rw [show (Nums.len _) = 2 from rfl]; clear hq)
  go_returns
  exact ⟨rfl, m, (Turned.refl HA.out).below HQ.out⟩
theorem carry_K_none (h : At w p t m) (hi : t.Inv) (s : ByteArray) (hs : s.size ≤ 1099511627776) (ho : numbers (L s) = none) : Calls Tryd.prog 53 #[.pointer (some ⟨p, 0, none⟩), .int .u8 75, .string s] w fun e w' => e = .returned (.tuple #[]) ∧ ∃ m', Turned w w' p t m (t.carry 75 (L s)) m' := by
  have hr : t.carry 75 (L s) = t := by unfold TS.carry; rw [ho]; rfl
  rw [hr]
  clear hr
  have HA := Lib.hid h
  have HI := Lib.hid hi
  have hN := numbers_ s w hs
  rw [ho] at hN
  have HN := Lib.hid hN
  obtain ⟨A0, cap0, hv0, hc0⟩ := h.rows.own.form
  have HV0 := Lib.hid hv0
  clear h hN ho hv0
  go_enter Tryd.func53, Tryd.ntmps53
  go_wp2_with (go_at_call 70; refine HN.out.mono ?_; rintro e w1 ⟨rfl, hq⟩; have HQ := Lib.hid hq; have pf5 := (HA.out.below hq).blk.frozen 5; have pc5 := (HA.out.below hq).blk.cell 5; clear hq)
  go_returns
  exact ⟨rfl, m, (Turned.refl HA.out).below HQ.out⟩
theorem carry_K_zero (h : At w p t m) (hi : t.Inv) (s : ByteArray) (hs : s.size ≤ 1099511627776) (A B : Nat) (hA5 : A ≤ 65535) (hB5 : B ≤ 65535) (ho : numbers (L s) = some ⟨false, 0, B⟩) : Calls Tryd.prog 53 #[.pointer (some ⟨p, 0, none⟩), .int .u8 75, .string s] w fun e w' => e = .returned (.tuple #[]) ∧ ∃ m', Turned w w' p t m (t.carry 75 (L s)) m' := by
  have hr : t.carry 75 (L s) = { t with rows := clearRow t.rows t.row t.col } := by unfold TS.carry; rw [ho]; rfl
  rw [hr]
  clear hr
  have HA := Lib.hid h
  have HI := Lib.hid hi
  have hN := numbers_ s w hs
  rw [ho] at hN
  have HN := Lib.hid hN
  obtain ⟨A0, cap0, hv0, hc0⟩ := h.rows.own.form
  have HV0 := Lib.hid hv0
  clear h hN ho hv0
  go_enter Tryd.func53, Tryd.ntmps53
  go_wp2_with (go_at_call 70; refine HN.out.mono ?_; rintro e w1 ⟨v, rfl, hq⟩; obtain ⟨g, off, c, rfl, -, hgc, -, -⟩ := own_cell hq.own (show 0 < 1 by decide); have HQ := Lib.hid hq.below; have pf5 := (HA.out.below hq.below).blk.frozen 5; have pc5 := (HA.out.below hq.below).blk.cell 5; have g0 := hq.cell.1 0 (.int .i64 (0 : Nat)) rfl; rw [Nat.add_zero] at g0; have HM := Lib.hid hq; rw [show (Nums.len _) = 1 from rfl]; clear hq)
  have HA1 := Lib.hid (HA.out.below HQ.out)
  refine still_tail 11 (by kernel_rfl) (by kernel_rfl) (fun w2 hw2 => ?_)
  have HW2 : Hid (Below w1.heap.size w1 w2) := Lib.hid (by rw [hw2]; exact drew_below w1)
  have HA2 := Lib.hid (HA1.out.below HW2.out)
  have d3 : w2.cell? ⟨p, 3, none⟩ = some (.int .i64 t.row) := HA2.out.blk.cell 3
  have d4 : w2.cell? ⟨p, 4, none⟩ = some (.int .i64 t.col) := HA2.out.blk.cell 4
  have HCR := Lib.hid (clearRow_ HA2.out HI.out t.row t.col)
  simp only [List.take_succ_cons, List.take_zero, List.drop_succ_cons, List.drop_zero]
  clear hw2 pf5 pc5 g0
  repeat still_step
  refine wpStill_nil ?_
  go_wp2_with (go_at_call 71; refine HCR.out.mono ?_; rintro e w3 ⟨rfl, m3, ht3⟩; have HT3 := Lib.hid ht3; clear ht3)
  go_returns
  exact ⟨rfl, m3, Turned.from_below HQ.out (Turned.from_below HW2.out HT3.out)⟩
theorem carry_K_one (h : At w p t m) (hi : t.Inv) (s : ByteArray) (hs : s.size ≤ 1099511627776) (A B : Nat) (hA : A ≠ 0) (hA5 : A ≤ 65535) (hB5 : B ≤ 65535) (ho : numbers (L s) = some ⟨false, A, B⟩) : Calls Tryd.prog 53 #[.pointer (some ⟨p, 0, none⟩), .int .u8 75, .string s] w fun e w' => e = .returned (.tuple #[]) ∧ ∃ m', Turned w w' p t m (t.carry 75 (L s)) m' := by
  have hr : t.carry 75 (L s) = t := by unfold TS.carry; rw [ho]; simp [whole, hA]
  rw [hr]
  clear hr
  have HA := Lib.hid h
  have HI := Lib.hid hi
  have hN := numbers_ s w hs
  rw [ho] at hN
  have HN := Lib.hid hN
  obtain ⟨A0, cap0, hv0, hc0⟩ := h.rows.own.form
  have HV0 := Lib.hid hv0
  clear h hN ho hv0
  go_enter Tryd.func53, Tryd.ntmps53
  have zA : ((A : Int) == 0) = false := by rw [beq_eq_false_iff_ne]; omega
  have yA : ¬ (A : Int) = 0 := by omega
  clear hA
  go_wp2_with (go_at_call 70; refine HN.out.mono ?_; rintro e w1 ⟨v, rfl, hq⟩; obtain ⟨g, off, c, rfl, -, hgc, -, -⟩ := own_cell hq.own (show 0 < 1 by decide); have HQ := Lib.hid hq.below; have pf5 := (HA.out.below hq.below).blk.frozen 5; have pc5 := (HA.out.below hq.below).blk.cell 5; have g0 := hq.cell.1 0 (.int .i64 (A : Nat)) rfl; rw [Nat.add_zero] at g0; have HM := Lib.hid hq; rw [show (Nums.len _) = 1 from rfl]; clear hq)
  go_returns
  exact ⟨rfl, m, (Turned.refl HA.out).below HQ.out⟩
theorem carry_K_two (h : At w p t m) (hi : t.Inv) (s : ByteArray) (hs : s.size ≤ 1099511627776) (A B : Nat) (hA5 : A ≤ 65535) (hB5 : B ≤ 65535) (ho : numbers (L s) = some ⟨true, A, B⟩) : Calls Tryd.prog 53 #[.pointer (some ⟨p, 0, none⟩), .int .u8 75, .string s] w fun e w' => e = .returned (.tuple #[]) ∧ ∃ m', Turned w w' p t m (t.carry 75 (L s)) m' := by
  have hr : t.carry 75 (L s) = t := by unfold TS.carry; rw [ho]; rfl
  rw [hr]
  clear hr
  have HA := Lib.hid h
  have HI := Lib.hid hi
  have hN := numbers_ s w hs
  rw [ho] at hN
  have HN := Lib.hid hN
  obtain ⟨A0, cap0, hv0, hc0⟩ := h.rows.own.form
  have HV0 := Lib.hid hv0
  clear h hN ho hv0
  go_enter Tryd.func53, Tryd.ntmps53
  go_wp2_with (go_at_call 70; refine HN.out.mono ?_; rintro e w1 ⟨v, rfl, hq⟩; obtain ⟨g, off, c, rfl, -, hgc, -, -⟩ := own_cell hq.own (show 0 < 2 by decide); have HQ := Lib.hid hq.below; have pf5 := (HA.out.below hq.below).blk.frozen 5; have pc5 := (HA.out.below hq.below).blk.cell 5; have g0 := hq.cell.1 0 (.int .i64 (A : Nat)) rfl; rw [Nat.add_zero] at g0; have HM := Lib.hid hq; rw [show (Nums.len _) = 2 from rfl]; clear hq)
  go_returns
  exact ⟨rfl, m, (Turned.refl HA.out).below HQ.out⟩
theorem carry_m_none (h : At w p t m) (hi : t.Inv) (s : ByteArray) (hs : s.size ≤ 1099511627776) (ho : numbers (L s) = none) : Calls Tryd.prog 53 #[.pointer (some ⟨p, 0, none⟩), .int .u8 109, .string s] w fun e w' => e = .returned (.tuple #[]) ∧ ∃ m', Turned w w' p t m (t.carry 109 (L s)) m' := by
  have hr : t.carry 109 (L s) = t := by unfold TS.carry; rw [ho]; rfl
  rw [hr]
  clear hr
  have HA := Lib.hid h
  have HI := Lib.hid hi
  have hN := numbers_ s w hs
  rw [ho] at hN
  have HN := Lib.hid hN
  obtain ⟨A0, cap0, hv0, hc0⟩ := h.rows.own.form
  have HV0 := Lib.hid hv0
  clear h hN ho hv0
  go_enter Tryd.func53, Tryd.ntmps53
  go_wp2_with (go_at_call 70; refine HN.out.mono ?_; rintro e w1 ⟨rfl, hq⟩; have HQ := Lib.hid hq; have pf5 := (HA.out.below hq).blk.frozen 5; have pc5 := (HA.out.below hq).blk.cell 5; clear hq)
  go_returns
  exact ⟨rfl, m, (Turned.refl HA.out).below HQ.out⟩
theorem carry_m_zero (h : At w p t m) (hi : t.Inv) (s : ByteArray) (hs : s.size ≤ 1099511627776) (A B : Nat) (hA5 : A ≤ 65535) (hB5 : B ≤ 65535) (ho : numbers (L s) = some ⟨false, 0, B⟩) : Calls Tryd.prog 53 #[.pointer (some ⟨p, 0, none⟩), .int .u8 109, .string s] w fun e w' => e = .returned (.tuple #[]) ∧ ∃ m', Turned w w' p t m (t.carry 109 (L s)) m' := by
  have hr : t.carry 109 (L s) = t := by unfold TS.carry; rw [ho]; rfl
  rw [hr]
  clear hr
  have HA := Lib.hid h
  have HI := Lib.hid hi
  have hN := numbers_ s w hs
  rw [ho] at hN
  have HN := Lib.hid hN
  obtain ⟨A0, cap0, hv0, hc0⟩ := h.rows.own.form
  have HV0 := Lib.hid hv0
  clear h hN ho hv0
  go_enter Tryd.func53, Tryd.ntmps53
  go_wp2_with (go_at_call 70; refine HN.out.mono ?_; rintro e w1 ⟨v, rfl, hq⟩; obtain ⟨g, off, c, rfl, -, hgc, -, -⟩ := own_cell hq.own (show 0 < 1 by decide); have HQ := Lib.hid hq.below; have pf5 := (HA.out.below hq.below).blk.frozen 5; have pc5 := (HA.out.below hq.below).blk.cell 5; have g0 := hq.cell.1 0 (.int .i64 (0 : Nat)) rfl; rw [Nat.add_zero] at g0; have HM := Lib.hid hq; rw [show (Nums.len _) = 1 from rfl]; clear hq)
  go_returns
  exact ⟨rfl, m, (Turned.refl HA.out).below HQ.out⟩
theorem carry_m_one (h : At w p t m) (hi : t.Inv) (s : ByteArray) (hs : s.size ≤ 1099511627776) (A B : Nat) (hA : A ≠ 0) (hA5 : A ≤ 65535) (hB5 : B ≤ 65535) (ho : numbers (L s) = some ⟨false, A, B⟩) : Calls Tryd.prog 53 #[.pointer (some ⟨p, 0, none⟩), .int .u8 109, .string s] w fun e w' => e = .returned (.tuple #[]) ∧ ∃ m', Turned w w' p t m (t.carry 109 (L s)) m' := by
  have hr : t.carry 109 (L s) = t := by unfold TS.carry; rw [ho]; rfl
  rw [hr]
  clear hr
  have HA := Lib.hid h
  have HI := Lib.hid hi
  have hN := numbers_ s w hs
  rw [ho] at hN
  have HN := Lib.hid hN
  obtain ⟨A0, cap0, hv0, hc0⟩ := h.rows.own.form
  have HV0 := Lib.hid hv0
  clear h hN ho hv0
  go_enter Tryd.func53, Tryd.ntmps53
  have zA : ((A : Int) == 0) = false := by rw [beq_eq_false_iff_ne]; omega
  have yA : ¬ (A : Int) = 0 := by omega
  clear hA
  go_wp2_with (go_at_call 70; refine HN.out.mono ?_; rintro e w1 ⟨v, rfl, hq⟩; obtain ⟨g, off, c, rfl, -, hgc, -, -⟩ := own_cell hq.own (show 0 < 1 by decide); have HQ := Lib.hid hq.below; have pf5 := (HA.out.below hq.below).blk.frozen 5; have pc5 := (HA.out.below hq.below).blk.cell 5; have g0 := hq.cell.1 0 (.int .i64 (A : Nat)) rfl; rw [Nat.add_zero] at g0; have HM := Lib.hid hq; rw [show (Nums.len _) = 1 from rfl]; clear hq)
  go_returns
  exact ⟨rfl, m, (Turned.refl HA.out).below HQ.out⟩
theorem carry_m_two (h : At w p t m) (hi : t.Inv) (s : ByteArray) (hs : s.size ≤ 1099511627776) (A B : Nat) (hA5 : A ≤ 65535) (hB5 : B ≤ 65535) (ho : numbers (L s) = some ⟨true, A, B⟩) : Calls Tryd.prog 53 #[.pointer (some ⟨p, 0, none⟩), .int .u8 109, .string s] w fun e w' => e = .returned (.tuple #[]) ∧ ∃ m', Turned w w' p t m (t.carry 109 (L s)) m' := by
  have hr : t.carry 109 (L s) = t := by unfold TS.carry; rw [ho]; rfl
  rw [hr]
  clear hr
  have HA := Lib.hid h
  have HI := Lib.hid hi
  have hN := numbers_ s w hs
  rw [ho] at hN
  have HN := Lib.hid hN
  obtain ⟨A0, cap0, hv0, hc0⟩ := h.rows.own.form
  have HV0 := Lib.hid hv0
  clear h hN ho hv0
  go_enter Tryd.func53, Tryd.ntmps53
  go_wp2_with (go_at_call 70; refine HN.out.mono ?_; rintro e w1 ⟨v, rfl, hq⟩; obtain ⟨g, off, c, rfl, -, hgc, -, -⟩ := own_cell hq.own (show 0 < 2 by decide); have HQ := Lib.hid hq.below; have pf5 := (HA.out.below hq.below).blk.frozen 5; have pc5 := (HA.out.below hq.below).blk.cell 5; have g0 := hq.cell.1 0 (.int .i64 (A : Nat)) rfl; rw [Nat.add_zero] at g0; have HM := Lib.hid hq; rw [show (Nums.len _) = 2 from rfl]; clear hq)
  go_returns
  exact ⟨rfl, m, (Turned.refl HA.out).below HQ.out⟩
theorem carry_H_none (h : At w p t m) (hi : t.Inv) (s : ByteArray) (hs : s.size ≤ 1099511627776) (ho : numbers (L s) = none) : Calls Tryd.prog 53 #[.pointer (some ⟨p, 0, none⟩), .int .u8 72, .string s] w fun e w' => e = .returned (.tuple #[]) ∧ ∃ m', Turned w w' p t m (t.carry 72 (L s)) m' := by
  have hr : t.carry 72 (L s) = { t with full := false } := by unfold TS.carry; rw [ho]; rfl
  rw [hr]
  clear hr
  have HA := Lib.hid h
  have HI := Lib.hid hi
  have hN := numbers_ s w hs
  rw [ho] at hN
  have HN := Lib.hid hN
  obtain ⟨A0, cap0, hv0, hc0⟩ := h.rows.own.form
  have HV0 := Lib.hid hv0
  clear h hN ho hv0
  go_enter Tryd.func53, Tryd.ntmps53
  go_wp2_with (go_at_call 70; refine HN.out.mono ?_; rintro e w1 ⟨rfl, hq⟩; have HQ := Lib.hid hq; have pf5 := (HA.out.below hq).blk.frozen 5; have pc5 := (HA.out.below hq).blk.cell 5; clear hq)
  go_returns
  exact ⟨rfl, m, Turned.from_below HQ.out (full_turn (HA.out.below HQ.out))⟩
theorem carry_H_one (h : At w p t m) (hi : t.Inv) (s : ByteArray) (hs : s.size ≤ 1099511627776) (A B : Nat) (hA5 : A ≤ 65535) (hB5 : B ≤ 65535) (ho : numbers (L s) = some ⟨false, A, B⟩) : Calls Tryd.prog 53 #[.pointer (some ⟨p, 0, none⟩), .int .u8 72, .string s] w fun e w' => e = .returned (.tuple #[]) ∧ ∃ m', Turned w w' p t m (t.carry 72 (L s)) m' := by
  have hr : t.carry 72 (L s) = { t with full := false, row := min (max A 1) t.H - 1, col := min (max 0 1) t.W - 1 } := by unfold TS.carry; rw [ho]; rfl
  rw [hr]
  clear hr
  have HA := Lib.hid h
  have HI := Lib.hid hi
  have hN := numbers_ s w hs
  rw [ho] at hN
  have HN := Lib.hid hN
  obtain ⟨A0, cap0, hv0, hc0⟩ := h.rows.own.form
  have HV0 := Lib.hid hv0
  clear h hN ho hv0
  go_enter Tryd.func53, Tryd.ntmps53
  obtain ⟨i0, hi0, hz0, hz1, hz2⟩ := info_parts info_int
  have mx1 : 1 + 1 ≤ maxLen := by unfold maxLen; omega
  have mx2 : (1 + 1) * 8 ≤ 140737488355328 := by omega
  have hone1 : ∀ u ∈ [Value.int .i64 0], u.oneCell' = true := by intro u hu; simp at hu; subst hu; rfl
  go_wp2_with (first | (go_at_call 70; refine HN.out.mono ?_; rintro e w1 ⟨v, rfl, hq⟩; obtain ⟨g, off, c, rfl, -, hgc, -, -⟩ := own_cell hq.own (show 0 < 1 by decide); have HQ := Lib.hid hq.below; have pf5 := (HA.out.below hq.below).blk.frozen 5; have pc5 := (HA.out.below hq.below).blk.cell 5; have g0 := hq.cell.1 0 (.int .i64 (A : Nat)) rfl; rw [Nat.add_zero] at g0; have HM := Lib.hid hq; rw [show (Nums.len _) = 1 from rfl]; clear hq) | (at_builtin; go_loud (have hbx := (Below.refl (w1.setCell ⟨p, 5, none⟩ (.bool false)).heap.size (w1.setCell ⟨p, 5, none⟩ (.bool false))).alloc (Nat.le_refl _) (.cells #[.int .i64 0] 3); have hrd := (OwnS.new (w1.setCell ⟨p, 5, none⟩ (.bool false)) 3 1 1 [.int .i64 0] rfl (by unfold maxLen; omega)).reads; rw [show (w1.setCell ⟨p, 5, none⟩ (.bool false)).heap.size = w1.heap.size from (by simp)] at hrd; have hown : OwnS ((w1.setCell ⟨p, 5, none⟩ (.bool false)).alloc (.cells #[.int .i64 0] 3)) 3 1 (.slice (some ⟨g, off, none⟩) 1 c) 1 [.int .i64 (A : Nat)] := ((HM.out.own.upd (Upd.setCell (S := fun k => k = p) (p := ⟨p, 5, none⟩) (Upd.refl _ _) (.inl rfl) _) (fun k hk e => by have h1 := HM.out.new k hk; have h2 := HA.out.blk.lt; omega)).keep (fun k hk => hbx.block k (by have := HM.out.own.lt k hk; simpa using this))); refine wpList_append_s (v := .slice (some ⟨g, off, none⟩) 1 c) rfl (.tmp 35) (.tmp 36) _ rfl Tryd.underlying114 hi0 hz0 hz1 hz2 rfl (by omega) rfl hown rfl hrd hone1 mx1 mx2 ?_; intro v8 w8 ho8 hg8 hb8; obtain ⟨g8, o8, c8, rfl, -, hc8, -, -⟩ := own_cell ho8 (by omega); have HBX := Lib.hid hbx; have HO8 := Lib.hid ho8; have HG8 := Lib.hid hg8; have HB8 := Lib.hid hb8; clear ho8 hg8 hb8 hrd hown hbx)))
  have hnew : w.heap.size ≤ g := HM.out.new g (by simp [Value.ownBlock])
  have TF := Turned.from_below HQ.out (full_turn (HA.out.below HQ.out))
  have hu8 : Upd (fun k => k = g) (w1.setCell ⟨p, 5, none⟩ (.bool false)) w8 := (Upd.below HBX.out _).then_ (Upd.grown HG8.out (S := fun k => k = g) (fun k hk => by simpa [Value.ownBlock] using hk.symm)) (fun k hk => .inl hk)
  have hfoot : ∀ k, foot p { t with full := false } m k → ¬ k = g := fun k hk e => by
    have := HA.out.lt k hk
    omega
  have T8 : Turned w w8 p t m { t with full := false } m := ⟨TF.at_.upd hu8 hfoot, TF.upd.then_ hu8 (fun k e => .inr (by omega)), TF.foot⟩
  have HT8 := Lib.hid T8
  have l8 := own_cells HO8.out
  have l0 := l8 0 (.int .i64 (A : Nat)) rfl
  have l1 := l8 1 (.int .i64 (0 : Nat)) rfl
  rw [Nat.add_zero] at l0
  have hgp : g8 ≠ p := fun e => by
    have h1 := HA.out.blk.lt
    rcases HB8.out with h2 | h2
    · have : g8 = g := by simpa [Value.ownBlock] using h2
      omega
    · have := h2 g8 (by simp [Value.ownBlock])
      have h3 := HQ.out.size
      simp at this
      omega
  clear TF hu8 hfoot T8 l8 pf5 pc5 g0
  refine still_tail 14 (by kernel_rfl) (by kernel_rfl) (fun w9 hw9 => ?_)
  have HW9 : Hid (Below w8.heap.size w8 w9) := Lib.hid (by rw [hw9]; exact drew_below w8)
  have HT9 := Lib.hid (HT8.out.below HW9.out)
  have d1 : w9.cell? ⟨p, 1, none⟩ = some (.int .i64 t.H) := HT9.out.at_.blk.cell 1
  have d3 : w9.cell? ⟨p, 3, none⟩ = some (.int .i64 t.row) := HT9.out.at_.blk.cell 3
  have df3 := HT9.out.at_.blk.frozen 3
  have l09 : w9.cell? ⟨g8, o8, none⟩ = some (.int .i64 (A : Nat)) := by rw [hw9]; exact l0
  have l19 : w9.cell? ⟨g8, o8 + 1, none⟩ = some (.int .i64 (0 : Nat)) := by rw [hw9]; exact l1
  have hwr1 : IntKind.i64.wrap (min (max (A : Int) 1) (t.H : Int) - 1) = ((min (max A 1) t.H - 1 : Nat) : Int) := by
    have := HI.out.h1
    have := HI.out.h2
    rw [wrap_id _ (by omega) (by omega)]
    omega
  simp only [List.take_succ_cons, List.take_zero, List.drop_succ_cons, List.drop_zero]
  clear hw9 l0 l1
  repeat still_step
  refine wpStill_nil ?_
  go_wp2
  refine still_tail 14 (by kernel_rfl) (by kernel_rfl) (fun w11 hw11 => ?_)
  have HW11 : Hid (Below (w9.setCell ⟨p, 3, none⟩ (.int .i64 (min (max A 1) t.H - 1 : Nat))).heap.size (w9.setCell ⟨p, 3, none⟩ (.int .i64 (min (max A 1) t.H - 1 : Nat))) w11) := Lib.hid (by rw [hw11]; exact drew_below _)
  have T10 := HT9.out.trans (row_turn HT9.out.at_ (min (max A 1) t.H - 1))
  have HT11 := Lib.hid (T10.below HW11.out)
  have e0 : w11.cell? ⟨p, 0, none⟩ = some (.int .i64 t.W) := HT11.out.at_.blk.cell 0
  have e4 : w11.cell? ⟨p, 4, none⟩ = some (.int .i64 t.col) := HT11.out.at_.blk.cell 4
  have ef4 := HT11.out.at_.blk.frozen 4
  have l111 : w11.cell? ⟨g8, o8 + 1, none⟩ = some (.int .i64 (0 : Nat)) := by
    rw [hw11]
    exact Upd.cell (show Upd (fun k => k = p) w9 ((w9.setCell ⟨p, 3, none⟩ (.int .i64 (min (max A 1) t.H - 1 : Nat))).drew) from (Upd.setCell (p := ⟨p, 3, none⟩) (Upd.refl (fun k => k = p) w9) (.inl rfl) _).drew) l19 hgp
  have hwr2 : IntKind.i64.wrap (min (max (0 : Int) 1) (t.W : Int) - 1) = ((min (max 0 1) t.W - 1 : Nat) : Int) := by
    have := HI.out.w1
    have := HI.out.w2
    rw [wrap_id _ (by omega) (by omega)]
    omega
  have hwr3 : IntKind.i64.wrap (min 1 (t.W : Int) - 1) = ((min (max 0 1) t.W - 1 : Nat) : Int) := hwr2
  simp only [List.take_succ_cons, List.take_zero, List.drop_succ_cons, List.drop_zero]
  clear hw11 l09 l19 T10 d1 d3 df3
  repeat still_step
  refine wpStill_nil ?_
  go_wp2
  go_returns
  exact ⟨rfl, m, HT11.out.trans (col_turn HT11.out.at_ (min (max 0 1) t.W - 1))⟩
theorem carry_H_two (h : At w p t m) (hi : t.Inv) (s : ByteArray) (hs : s.size ≤ 1099511627776) (A B : Nat) (hA5 : A ≤ 65535) (hB5 : B ≤ 65535) (ho : numbers (L s) = some ⟨true, A, B⟩) : Calls Tryd.prog 53 #[.pointer (some ⟨p, 0, none⟩), .int .u8 72, .string s] w fun e w' => e = .returned (.tuple #[]) ∧ ∃ m', Turned w w' p t m (t.carry 72 (L s)) m' := by
  have hr : t.carry 72 (L s) = { t with full := false, row := min (max A 1) t.H - 1, col := min (max B 1) t.W - 1 } := by unfold TS.carry; rw [ho]; rfl
  rw [hr]
  clear hr
  have HA := Lib.hid h
  have HI := Lib.hid hi
  have hN := numbers_ s w hs
  rw [ho] at hN
  have HN := Lib.hid hN
  obtain ⟨A0, cap0, hv0, hc0⟩ := h.rows.own.form
  have HV0 := Lib.hid hv0
  clear h hN ho hv0
  go_enter Tryd.func53, Tryd.ntmps53
  obtain ⟨i0, hi0, hz0, hz1, hz2⟩ := info_parts info_int
  have mx1 : 2 + 1 ≤ maxLen := by unfold maxLen; omega
  have mx2 : (2 + 1) * 8 ≤ 140737488355328 := by omega
  have hone1 : ∀ u ∈ [Value.int .i64 0], u.oneCell' = true := by intro u hu; simp at hu; subst hu; rfl
  go_wp2_with (first | (go_at_call 70; refine HN.out.mono ?_; rintro e w1 ⟨v, rfl, hq⟩; obtain ⟨g, off, c, rfl, -, hgc, -, -⟩ := own_cell hq.own (show 0 < 2 by decide); have HQ := Lib.hid hq.below; have pf5 := (HA.out.below hq.below).blk.frozen 5; have pc5 := (HA.out.below hq.below).blk.cell 5; have g0 := hq.cell.1 0 (.int .i64 (A : Nat)) rfl; rw [Nat.add_zero] at g0; have HM := Lib.hid hq; rw [show (Nums.len _) = 2 from rfl]; clear hq) | (at_builtin; go_loud (have hbx := (Below.refl (w1.setCell ⟨p, 5, none⟩ (.bool false)).heap.size (w1.setCell ⟨p, 5, none⟩ (.bool false))).alloc (Nat.le_refl _) (.cells #[.int .i64 0] 3); have hrd := (OwnS.new (w1.setCell ⟨p, 5, none⟩ (.bool false)) 3 1 1 [.int .i64 0] rfl (by unfold maxLen; omega)).reads; rw [show (w1.setCell ⟨p, 5, none⟩ (.bool false)).heap.size = w1.heap.size from (by simp)] at hrd; have hown : OwnS ((w1.setCell ⟨p, 5, none⟩ (.bool false)).alloc (.cells #[.int .i64 0] 3)) 3 1 (.slice (some ⟨g, off, none⟩) 2 c) 2 [.int .i64 (A : Nat), .int .i64 (B : Nat)] := ((HM.out.own.upd (Upd.setCell (S := fun k => k = p) (p := ⟨p, 5, none⟩) (Upd.refl _ _) (.inl rfl) _) (fun k hk e => by have h1 := HM.out.new k hk; have h2 := HA.out.blk.lt; omega)).keep (fun k hk => hbx.block k (by have := HM.out.own.lt k hk; simpa using this))); refine wpList_append_s (v := .slice (some ⟨g, off, none⟩) 2 c) rfl (.tmp 35) (.tmp 36) _ rfl Tryd.underlying114 hi0 hz0 hz1 hz2 rfl (by omega) rfl hown rfl hrd hone1 mx1 mx2 ?_; intro v8 w8 ho8 hg8 hb8; obtain ⟨g8, o8, c8, rfl, -, hc8, -, -⟩ := own_cell ho8 (by omega); have HBX := Lib.hid hbx; have HO8 := Lib.hid ho8; have HG8 := Lib.hid hg8; have HB8 := Lib.hid hb8; clear ho8 hg8 hb8 hrd hown hbx)))
  have hnew : w.heap.size ≤ g := HM.out.new g (by simp [Value.ownBlock])
  have TF := Turned.from_below HQ.out (full_turn (HA.out.below HQ.out))
  have hu8 : Upd (fun k => k = g) (w1.setCell ⟨p, 5, none⟩ (.bool false)) w8 := (Upd.below HBX.out _).then_ (Upd.grown HG8.out (S := fun k => k = g) (fun k hk => by simpa [Value.ownBlock] using hk.symm)) (fun k hk => .inl hk)
  have hfoot : ∀ k, foot p { t with full := false } m k → ¬ k = g := fun k hk e => by
    have := HA.out.lt k hk
    omega
  have T8 : Turned w w8 p t m { t with full := false } m := ⟨TF.at_.upd hu8 hfoot, TF.upd.then_ hu8 (fun k e => .inr (by omega)), TF.foot⟩
  have HT8 := Lib.hid T8
  have l8 := own_cells HO8.out
  have l0 := l8 0 (.int .i64 (A : Nat)) rfl
  have l1 := l8 1 (.int .i64 (B : Nat)) rfl
  rw [Nat.add_zero] at l0
  have hgp : g8 ≠ p := fun e => by
    have h1 := HA.out.blk.lt
    rcases HB8.out with h2 | h2
    · have : g8 = g := by simpa [Value.ownBlock] using h2
      omega
    · have := h2 g8 (by simp [Value.ownBlock])
      have h3 := HQ.out.size
      simp at this
      omega
  clear TF hu8 hfoot T8 l8 pf5 pc5 g0
  refine still_tail 14 (by kernel_rfl) (by kernel_rfl) (fun w9 hw9 => ?_)
  have HW9 : Hid (Below w8.heap.size w8 w9) := Lib.hid (by rw [hw9]; exact drew_below w8)
  have HT9 := Lib.hid (HT8.out.below HW9.out)
  have d1 : w9.cell? ⟨p, 1, none⟩ = some (.int .i64 t.H) := HT9.out.at_.blk.cell 1
  have d3 : w9.cell? ⟨p, 3, none⟩ = some (.int .i64 t.row) := HT9.out.at_.blk.cell 3
  have df3 := HT9.out.at_.blk.frozen 3
  have l09 : w9.cell? ⟨g8, o8, none⟩ = some (.int .i64 (A : Nat)) := by rw [hw9]; exact l0
  have l19 : w9.cell? ⟨g8, o8 + 1, none⟩ = some (.int .i64 (B : Nat)) := by rw [hw9]; exact l1
  have hwr1 : IntKind.i64.wrap (min (max (A : Int) 1) (t.H : Int) - 1) = ((min (max A 1) t.H - 1 : Nat) : Int) := by
    have := HI.out.h1
    have := HI.out.h2
    rw [wrap_id _ (by omega) (by omega)]
    omega
  simp only [List.take_succ_cons, List.take_zero, List.drop_succ_cons, List.drop_zero]
  clear hw9 l0 l1
  repeat still_step
  refine wpStill_nil ?_
  go_wp2
  refine still_tail 14 (by kernel_rfl) (by kernel_rfl) (fun w11 hw11 => ?_)
  have HW11 : Hid (Below (w9.setCell ⟨p, 3, none⟩ (.int .i64 (min (max A 1) t.H - 1 : Nat))).heap.size (w9.setCell ⟨p, 3, none⟩ (.int .i64 (min (max A 1) t.H - 1 : Nat))) w11) := Lib.hid (by rw [hw11]; exact drew_below _)
  have T10 := HT9.out.trans (row_turn HT9.out.at_ (min (max A 1) t.H - 1))
  have HT11 := Lib.hid (T10.below HW11.out)
  have e0 : w11.cell? ⟨p, 0, none⟩ = some (.int .i64 t.W) := HT11.out.at_.blk.cell 0
  have e4 : w11.cell? ⟨p, 4, none⟩ = some (.int .i64 t.col) := HT11.out.at_.blk.cell 4
  have ef4 := HT11.out.at_.blk.frozen 4
  have l111 : w11.cell? ⟨g8, o8 + 1, none⟩ = some (.int .i64 (B : Nat)) := by
    rw [hw11]
    exact Upd.cell (show Upd (fun k => k = p) w9 ((w9.setCell ⟨p, 3, none⟩ (.int .i64 (min (max A 1) t.H - 1 : Nat))).drew) from (Upd.setCell (p := ⟨p, 3, none⟩) (Upd.refl (fun k => k = p) w9) (.inl rfl) _).drew) l19 hgp
  have hwr2 : IntKind.i64.wrap (min (max (B : Int) 1) (t.W : Int) - 1) = ((min (max B 1) t.W - 1 : Nat) : Int) := by
    have := HI.out.w1
    have := HI.out.w2
    rw [wrap_id _ (by omega) (by omega)]
    omega
  simp only [List.take_succ_cons, List.take_zero, List.drop_succ_cons, List.drop_zero]
  clear hw11 l09 l19 T10 d1 d3 df3
  repeat still_step
  refine wpStill_nil ?_
  go_wp2
  go_returns
  exact ⟨rfl, m, HT11.out.trans (col_turn HT11.out.at_ (min (max B 1) t.W - 1))⟩
theorem carry_o_none (h : At w p t m) (hi : t.Inv) (s : ByteArray) (hs : s.size ≤ 1099511627776) (ec : Nat) (he : ec < 256) (n74 : ec ≠ 74) (n75 : ec ≠ 75) (n109 : ec ≠ 109) (n72 : ec ≠ 72) (ho : numbers (L s) = none) : Calls Tryd.prog 53 #[.pointer (some ⟨p, 0, none⟩), .int .u8 (ec : Nat), .string s] w fun e w' => e = .returned (.tuple #[]) ∧ ∃ m', Turned w w' p t m (t.carry ec (L s)) m' := by
  have hr : t.carry ec (L s) = { t with full := false } := by unfold TS.carry; rw [if_neg n74, if_neg n75, if_neg n109, if_neg n72]
  rw [hr]
  clear hr
  have HA := Lib.hid h
  have HI := Lib.hid hi
  have hN := numbers_ s w hs
  rw [ho] at hN
  have HN := Lib.hid hN
  obtain ⟨A0, cap0, hv0, hc0⟩ := h.rows.own.form
  have HV0 := Lib.hid hv0
  clear h hN ho hv0
  have z74 : ((ec : Int) == 74) = false := by rw [beq_eq_false_iff_ne]; omega
  have y74 : ¬ (ec : Int) = 74 := by omega
  have z75 : ((ec : Int) == 75) = false := by rw [beq_eq_false_iff_ne]; omega
  have y75 : ¬ (ec : Int) = 75 := by omega
  have z109 : ((ec : Int) == 109) = false := by rw [beq_eq_false_iff_ne]; omega
  have y109 : ¬ (ec : Int) = 109 := by omega
  have z72 : ((ec : Int) == 72) = false := by rw [beq_eq_false_iff_ne]; omega
  have y72 : ¬ (ec : Int) = 72 := by omega
  go_enter Tryd.func53, Tryd.ntmps53
  go_wp2_with (go_at_call 70; refine HN.out.mono ?_; rintro e w1 ⟨rfl, hq⟩; have HQ := Lib.hid hq; have pf5 := (HA.out.below hq).blk.frozen 5; have pc5 := (HA.out.below hq).blk.cell 5; clear hq)
  go_returns
  exact ⟨rfl, m, Turned.from_below HQ.out (full_turn (HA.out.below HQ.out))⟩
theorem carry_o_zero (h : At w p t m) (hi : t.Inv) (s : ByteArray) (hs : s.size ≤ 1099511627776) (ec : Nat) (he : ec < 256) (n74 : ec ≠ 74) (n75 : ec ≠ 75) (n109 : ec ≠ 109) (n72 : ec ≠ 72) (A B : Nat) (hA5 : A ≤ 65535) (hB5 : B ≤ 65535) (ho : numbers (L s) = some ⟨false, 0, B⟩) : Calls Tryd.prog 53 #[.pointer (some ⟨p, 0, none⟩), .int .u8 (ec : Nat), .string s] w fun e w' => e = .returned (.tuple #[]) ∧ ∃ m', Turned w w' p t m (t.carry ec (L s)) m' := by
  have hr : t.carry ec (L s) = { t with full := false } := by unfold TS.carry; rw [if_neg n74, if_neg n75, if_neg n109, if_neg n72]
  rw [hr]
  clear hr
  have HA := Lib.hid h
  have HI := Lib.hid hi
  have hN := numbers_ s w hs
  rw [ho] at hN
  have HN := Lib.hid hN
  obtain ⟨A0, cap0, hv0, hc0⟩ := h.rows.own.form
  have HV0 := Lib.hid hv0
  clear h hN ho hv0
  have z74 : ((ec : Int) == 74) = false := by rw [beq_eq_false_iff_ne]; omega
  have y74 : ¬ (ec : Int) = 74 := by omega
  have z75 : ((ec : Int) == 75) = false := by rw [beq_eq_false_iff_ne]; omega
  have y75 : ¬ (ec : Int) = 75 := by omega
  have z109 : ((ec : Int) == 109) = false := by rw [beq_eq_false_iff_ne]; omega
  have y109 : ¬ (ec : Int) = 109 := by omega
  have z72 : ((ec : Int) == 72) = false := by rw [beq_eq_false_iff_ne]; omega
  have y72 : ¬ (ec : Int) = 72 := by omega
  go_enter Tryd.func53, Tryd.ntmps53
  go_wp2_with (go_at_call 70; refine HN.out.mono ?_; rintro e w1 ⟨v, rfl, hq⟩; obtain ⟨g, off, c, rfl, -, hgc, -, -⟩ := own_cell hq.own (show 0 < 1 by decide); have HQ := Lib.hid hq.below; have pf5 := (HA.out.below hq.below).blk.frozen 5; have pc5 := (HA.out.below hq.below).blk.cell 5; have g0 := hq.cell.1 0 (.int .i64 (0 : Nat)) rfl; rw [Nat.add_zero] at g0; have HM := Lib.hid hq; rw [show (Nums.len _) = 1 from rfl]; clear hq)
  go_returns
  exact ⟨rfl, m, Turned.from_below HQ.out (full_turn (HA.out.below HQ.out))⟩
theorem carry_o_one (h : At w p t m) (hi : t.Inv) (s : ByteArray) (hs : s.size ≤ 1099511627776) (ec : Nat) (he : ec < 256) (n74 : ec ≠ 74) (n75 : ec ≠ 75) (n109 : ec ≠ 109) (n72 : ec ≠ 72) (A B : Nat) (hA : A ≠ 0) (hA5 : A ≤ 65535) (hB5 : B ≤ 65535) (ho : numbers (L s) = some ⟨false, A, B⟩) : Calls Tryd.prog 53 #[.pointer (some ⟨p, 0, none⟩), .int .u8 (ec : Nat), .string s] w fun e w' => e = .returned (.tuple #[]) ∧ ∃ m', Turned w w' p t m (t.carry ec (L s)) m' := by
  have hr : t.carry ec (L s) = { t with full := false } := by unfold TS.carry; rw [if_neg n74, if_neg n75, if_neg n109, if_neg n72]
  rw [hr]
  clear hr
  have HA := Lib.hid h
  have HI := Lib.hid hi
  have hN := numbers_ s w hs
  rw [ho] at hN
  have HN := Lib.hid hN
  obtain ⟨A0, cap0, hv0, hc0⟩ := h.rows.own.form
  have HV0 := Lib.hid hv0
  clear h hN ho hv0
  have z74 : ((ec : Int) == 74) = false := by rw [beq_eq_false_iff_ne]; omega
  have y74 : ¬ (ec : Int) = 74 := by omega
  have z75 : ((ec : Int) == 75) = false := by rw [beq_eq_false_iff_ne]; omega
  have y75 : ¬ (ec : Int) = 75 := by omega
  have z109 : ((ec : Int) == 109) = false := by rw [beq_eq_false_iff_ne]; omega
  have y109 : ¬ (ec : Int) = 109 := by omega
  have z72 : ((ec : Int) == 72) = false := by rw [beq_eq_false_iff_ne]; omega
  have y72 : ¬ (ec : Int) = 72 := by omega
  go_enter Tryd.func53, Tryd.ntmps53
  have zA : ((A : Int) == 0) = false := by rw [beq_eq_false_iff_ne]; omega
  have yA : ¬ (A : Int) = 0 := by omega
  clear hA
  go_wp2_with (go_at_call 70; refine HN.out.mono ?_; rintro e w1 ⟨v, rfl, hq⟩; obtain ⟨g, off, c, rfl, -, hgc, -, -⟩ := own_cell hq.own (show 0 < 1 by decide); have HQ := Lib.hid hq.below; have pf5 := (HA.out.below hq.below).blk.frozen 5; have pc5 := (HA.out.below hq.below).blk.cell 5; have g0 := hq.cell.1 0 (.int .i64 (A : Nat)) rfl; rw [Nat.add_zero] at g0; have HM := Lib.hid hq; rw [show (Nums.len _) = 1 from rfl]; clear hq)
  go_returns
  exact ⟨rfl, m, Turned.from_below HQ.out (full_turn (HA.out.below HQ.out))⟩
theorem carry_o_two (h : At w p t m) (hi : t.Inv) (s : ByteArray) (hs : s.size ≤ 1099511627776) (ec : Nat) (he : ec < 256) (n74 : ec ≠ 74) (n75 : ec ≠ 75) (n109 : ec ≠ 109) (n72 : ec ≠ 72) (A B : Nat) (hA5 : A ≤ 65535) (hB5 : B ≤ 65535) (ho : numbers (L s) = some ⟨true, A, B⟩) : Calls Tryd.prog 53 #[.pointer (some ⟨p, 0, none⟩), .int .u8 (ec : Nat), .string s] w fun e w' => e = .returned (.tuple #[]) ∧ ∃ m', Turned w w' p t m (t.carry ec (L s)) m' := by
  have hr : t.carry ec (L s) = { t with full := false } := by unfold TS.carry; rw [if_neg n74, if_neg n75, if_neg n109, if_neg n72]
  rw [hr]
  clear hr
  have HA := Lib.hid h
  have HI := Lib.hid hi
  have hN := numbers_ s w hs
  rw [ho] at hN
  have HN := Lib.hid hN
  obtain ⟨A0, cap0, hv0, hc0⟩ := h.rows.own.form
  have HV0 := Lib.hid hv0
  clear h hN ho hv0
  have z74 : ((ec : Int) == 74) = false := by rw [beq_eq_false_iff_ne]; omega
  have y74 : ¬ (ec : Int) = 74 := by omega
  have z75 : ((ec : Int) == 75) = false := by rw [beq_eq_false_iff_ne]; omega
  have y75 : ¬ (ec : Int) = 75 := by omega
  have z109 : ((ec : Int) == 109) = false := by rw [beq_eq_false_iff_ne]; omega
  have y109 : ¬ (ec : Int) = 109 := by omega
  have z72 : ((ec : Int) == 72) = false := by rw [beq_eq_false_iff_ne]; omega
  have y72 : ¬ (ec : Int) = 72 := by omega
  go_enter Tryd.func53, Tryd.ntmps53
  go_wp2_with (go_at_call 70; refine HN.out.mono ?_; rintro e w1 ⟨v, rfl, hq⟩; obtain ⟨g, off, c, rfl, -, hgc, -, -⟩ := own_cell hq.own (show 0 < 2 by decide); have HQ := Lib.hid hq.below; have pf5 := (HA.out.below hq.below).blk.frozen 5; have pc5 := (HA.out.below hq.below).blk.cell 5; have g0 := hq.cell.1 0 (.int .i64 (A : Nat)) rfl; rw [Nat.add_zero] at g0; have HM := Lib.hid hq; rw [show (Nums.len _) = 2 from rfl]; clear hq)
  go_returns
  exact ⟨rfl, m, Turned.from_below HQ.out (full_turn (HA.out.below HQ.out))⟩
theorem carry_ (h : At w p t m) (hi : t.Inv) (s : ByteArray) (hs : s.size ≤ 1099511627776) (ec : Nat) (he : ec < 256) : Calls Tryd.prog 53 #[.pointer (some ⟨p, 0, none⟩), .int .u8 (ec : Nat), .string s] w fun e w' => e = .returned (.tuple #[]) ∧ ∃ m', Turned w w' p t m (t.carry ec (L s)) m' := by
  cases ho : numbers (L s) with
  | none =>
    by_cases e1 : ec = 74
    · subst e1; exact carry_J_none h hi s hs ho
    by_cases e2 : ec = 75
    · subst e2; exact carry_K_none h hi s hs ho
    by_cases e3 : ec = 109
    · subst e3; exact carry_m_none h hi s hs ho
    by_cases e4 : ec = 72
    · subst e4; exact carry_H_none h hi s hs ho
    exact carry_o_none h hi s hs ec he e1 e2 e3 e4 ho
  | some n =>
    obtain ⟨ha, hb⟩ := numN_le (L s) _ _ ho (Nat.zero_le _) (Nat.zero_le _)
    obtain ⟨tw, A, B⟩ := n
    dsimp only at ha hb
    by_cases e4 : ec = 72
    · subst e4
      cases tw with
      | true => exact carry_H_two h hi s hs A B ha hb ho
      | false => exact carry_H_one h hi s hs A B ha hb ho
    cases tw with
    | true =>
      by_cases e1 : ec = 74
      · subst e1; exact carry_J_two h hi s hs A B ha hb ho
      by_cases e2 : ec = 75
      · subst e2; exact carry_K_two h hi s hs A B ha hb ho
      by_cases e3 : ec = 109
      · subst e3; exact carry_m_two h hi s hs A B ha hb ho
      exact carry_o_two h hi s hs ec he e1 e2 e3 e4 A B ha hb ho
    | false =>
      by_cases hA : A = 0
      · subst hA
        by_cases e1 : ec = 74
        · subst e1; exact carry_J_zero h hi s hs 0 B ha hb ho
        by_cases e2 : ec = 75
        · subst e2; exact carry_K_zero h hi s hs 0 B ha hb ho
        by_cases e3 : ec = 109
        · subst e3; exact carry_m_zero h hi s hs 0 B ha hb ho
        exact carry_o_zero h hi s hs ec he e1 e2 e3 e4 0 B ha hb ho
      · by_cases e1 : ec = 74
        · subst e1; exact carry_J_one h hi s hs A B hA ha hb ho
        by_cases e2 : ec = 75
        · subst e2; exact carry_K_one h hi s hs A B hA ha hb ho
        by_cases e3 : ec = 109
        · subst e3; exact carry_m_one h hi s hs A B hA ha hb ho
        exact carry_o_one h hi s hs ec he e1 e2 e3 e4 A B hA ha hb ho
end
end U
end Go.Proofs.YtceomobdolkfgaaDoor
/- The screen's escape. -/
set_option linter.unusedVariables false
namespace Go.Proofs.YtceomobdolkfgaaDoor
open Go.RowKit Go.Proofs.YtceomobdolkfgaaDoorW.PrintWords Go.Proofs.YtceomobdolkfgaaDoor.Sep Go.Lib
namespace U
theorem unmark_turn {w : World} {p : Nat} {t : TS} {m : Mem} (h : At w p t m) : Turned w (w.setCell ⟨p, 8, none⟩ (.bool false)) p t m t.unmark m :=
  Turned.top h rfl ((Upd.refl (fun k => k = p) w).setCell (p := ⟨p, 8, none⟩) (.inl rfl) _) (Blk.eq_ (h.blk.set_ 8 (.bool false)) rfl)
theorem ins_in (x : UInt8) (l : Bs) (h : 32 ≤ x.toNat ∧ x.toNat ≤ 63) : ins (x :: l) = ins l + 1 := by
  conv => lhs; unfold ins
  rw [if_pos h]
theorem ins_out (x : UInt8) (l : Bs) (h : ¬ (32 ≤ x.toNat ∧ x.toNat ≤ 63)) : ins (x :: l) = 0 := by
  unfold ins
  rw [if_neg h]
section
variable {w w' : World} {p : Nat} {t : TS} {m : Mem}
set_option maxHeartbeats 4000000
set_option maxRecDepth 100000
theorem escape_ (h : At w p t m) (hi : t.Inv) (s : ByteArray) (hs : s.size ≤ 1099511627776) (h0 : 0 < s.size) : Calls Tryd.prog 37 #[.pointer (some ⟨p, 0, none⟩), .string s] w fun e w' => e = .returned (.int .i64 ((t.escape (L s)).1 : Nat)) ∧ ∃ m', Turned w w' p t m (t.escape (L s)).2 m' := by
  have hl := L_len s
  have HT := Lib.hid (unmark_turn h)
  have HA := Lib.hid h
  have HI := Lib.hid (unmark_inv hi)
  have c8 : w.cell? ⟨p, 8, none⟩ = some (.bool t.marks) := h.blk.cell 8
  have cf8 := h.blk.frozen 8
  have hp := h.blk.lt
  clear h hi
  by_cases h1 : s.size = 1
  · have e0 : t.escape (L s) = (0, t) := by unfold TS.escape; rw [if_pos (by rw [hl]; exact h1)]
    rw [e0]
    have hq : (s.size : Int) = 1 := by omega
    clear e0 hl
    go_enter Tryd.func37, Tryd.ntmps37
    go_wp2
    go_ret
    exact ⟨rfl, m, Turned.refl HA.out⟩
  have hq : ((s.size : Int) == 1) = false := by rw [beq_eq_false_iff_ne]; omega
  have hq1 : (1 : Int) < (s.size : Int) := by omega
  have hq2 : 1 < s.size := by omega
  obtain ⟨x1, hx1⟩ : ∃ x, (L s).getD 1 0 = x := ⟨_, rfl⟩
  have hs1 : s[1]'hq2 = x1 := by rw [← hx1]; exact (getL s 1 hq2).symm
  have l1 := x1.toNat_lt
  by_cases h27 : x1.toNat = 27
  · have e0 : t.escape (L s) = (1, t.unmark) := by unfold TS.escape; rw [if_neg (by rw [hl]; exact h1), hx1, if_pos h27]
    rw [e0]
    have q27 : (x1.toNat : Int) = 27 := by omega
    clear e0 hl hx1
    go_enter Tryd.func37, Tryd.ntmps37
    go_wp2
    go_ret
    exact ⟨rfl, m, HT.out⟩
  have q27 : ((x1.toNat : Int) == 27) = false := by rw [beq_eq_false_iff_ne]; omega
  by_cases h91 : x1.toNat = 91
  rotate_left
  · have e0 : t.escape (L s) = (2, t.unmark) := by unfold TS.escape; rw [if_neg (by rw [hl]; exact h1), hx1, if_neg h27, if_pos h91]
    rw [e0]
    have q91 : ((x1.toNat : Int) == 91) = false := by rw [beq_eq_false_iff_ne]; omega
    have q91n : ¬ (x1.toNat : Int) = 91 := by omega
    clear e0 hl hx1
    go_enter Tryd.func37, Tryd.ntmps37
    go_wp2
    go_ret
    exact ⟨rfl, m, HT.out⟩
  have q91 : (x1.toNat : Int) = 91 := by omega
  have e0 : t.escape (L s) = if escEnd (L s) = s.size then (0, t) else if ((L s).getD (escEnd (L s)) 0).toNat < 64 ∨ 126 < ((L s).getD (escEnd (L s)) 0).toNat then (escEnd (L s), t.unmark) else (escEnd (L s) + 1, t.unmark.carry ((L s).getD (escEnd (L s)) 0).toNat (((L s).take (escEnd (L s))).drop 2)) := by
    conv => lhs; unfold TS.escape
    rw [if_neg (by rw [hl]; exact h1), hx1, if_neg h27, if_neg (by simp [h91]), hl]
  have HE0 := Lib.hid e0
  have HL := Lib.hid hl
  obtain ⟨res, hres⟩ : ∃ r, t.escape (L s) = r := ⟨_, rfl⟩
  rw [hres] at HE0 ⊢
  clear e0 hl hx1 hres h91 h27 h1
  go_enter Tryd.func37, Tryd.ntmps37
  go_wp2
  go_loopg [5] (s.size - 2) (fun k v5 w' => ∃ j : Nat, v5 = .int .i64 j ∧ j + k = s.size ∧ 2 ≤ j ∧ Hid (escEnd (L s) = j + ins ((L s).drop j)) ∧ w' = w)
  case atStart => exact ⟨2, rfl, by omega, Nat.le_refl _, Lib.hid rfl, rfl⟩
  case round =>
    obtain ⟨j, rfl, hjk, hj2, HR, rfl⟩ := hrel
    cases gk with
    | zero =>
      obtain rfl : j = s.size := by omega
      have e1 : decide ((s.size : Int) < (s.size : Int)) = false := decide_eq_false (by omega)
      have HE : Hid (res = (0, t)) := Lib.hid (by
        have e2 : escEnd (L s) = s.size := by rw [HR.out, List.drop_eq_nil_of_le (by rw [HL.out]; omega)]; rfl
        rw [HE0.out, if_pos e2])
      clear HR
      go_wp2
      go_ret
      rw [HE.out]
      exact ⟨rfl, m, Turned.refl HA.out⟩
    | succ k1 =>
      have hjs : j < s.size := by omega
      have hin : (j : Int) < (s.size : Int) := by omega
      have hd : decide ((j : Int) < (s.size : Int)) = true := decide_eq_true hin
      have hR := HR.out
      rw [drop_at _ _ (by rw [HL.out]; exact hjs)] at hR
      obtain ⟨x, hx⟩ : ∃ x, (L s).getD j 0 = x := ⟨_, rfl⟩
      have hsx : s[j]'hjs = x := by rw [← hx]; exact (getL s j hjs).symm
      have lx := x.toNat_lt
      rw [hx] at hR
      clear HR
      by_cases hb : 32 ≤ x.toNat ∧ x.toNat ≤ 63
      · rw [ins_in _ _ hb] at hR
        have HR := Lib.hid hR
        have b1 : (32 : Int) ≤ (x.toNat : Int) := by omega
        have b2 : (x.toNat : Int) ≤ 63 := by omega
        have b1n := hb.1
        have b2n := hb.2
        clear hR hx hb
        go_wp2
        go_roundg k1
        case measure => omega
        case rel => exact ⟨j + 1, by simp, by omega, by omega, Lib.hid (by rw [HR.out]; omega), rfl⟩
      · rw [ins_out _ _ hb, Nat.add_zero] at hR
        have HE0' := HE0.out
        rw [hR, if_neg (by omega), hx] at HE0'
        have hq3 : ((j : Int) == (s.size : Int)) = false := by rw [beq_eq_false_iff_ne]; omega
        have hq3n : ¬ j = s.size := by omega
        clear hR hx
        by_cases hc : x.toNat < 64 ∨ 126 < x.toNat
        · rw [if_pos hc] at HE0'
          have HE := Lib.hid HE0'
          clear HE0'
          by_cases b1 : 32 ≤ x.toNat
          · have b2 : ¬ x.toNat ≤ 63 := by omega
            have b2i : ¬ (x.toNat : Int) ≤ 63 := by omega
            have b1i : (32 : Int) ≤ (x.toNat : Int) := by omega
            have b3 : (126 : Int) < (x.toNat : Int) := by omega
            have b3n : 126 < x.toNat := by omega
            have b4 : ¬ (x.toNat : Int) < 64 := by omega
            have b4n : ¬ x.toNat < 64 := by omega
            clear hb hc
            go_wp2
            go_ret
            rw [HE.out]
            exact ⟨rfl, m, HT.out⟩
          · have b1i : ¬ (32 : Int) ≤ (x.toNat : Int) := by omega
            have b4 : (x.toNat : Int) < 64 := by omega
            have b4n : x.toNat < 64 := by omega
            clear hb hc
            go_wp2
            go_ret
            rw [HE.out]
            exact ⟨rfl, m, HT.out⟩
        · rw [if_neg hc] at HE0'
          have HE := Lib.hid HE0'
          have b1 : 32 ≤ x.toNat := by omega
          have b1i : (32 : Int) ≤ (x.toNat : Int) := by omega
          have b2 : ¬ x.toNat ≤ 63 := by omega
          have b2i : ¬ (x.toNat : Int) ≤ 63 := by omega
          have b4 : ¬ (x.toNat : Int) < 64 := by omega
          have b4n : ¬ x.toNat < 64 := by omega
          have b3 : ¬ (126 : Int) < (x.toNat : Int) := by omega
          have b3n : ¬ 126 < x.toNat := by omega
          clear hb hc HE0'
          go_wp2
          refine still_tail 7 (by kernel_rfl) (by kernel_rfl) (fun w2 hw2 => ?_)
          have HW2 : Hid (Below (wr.setCell ⟨p, 8, none⟩ (.bool false)).heap.size (wr.setCell ⟨p, 8, none⟩ (.bool false)) w2) := Lib.hid (by rw [hw2]; exact drew_below _)
          have HT2 := Lib.hid (HT.out.below HW2.out)
          have hj2i : (2 : Int) ≤ (j : Int) := by omega
          have hji : (j : Int) ≤ (s.size : Int) := by omega
          have hes : (s.extract 2 j).size ≤ 1099511627776 := by rw [ByteArray.size_extract]; omega
          have HC := Lib.hid (carry_ HT2.out.at_ HI.out (s.extract 2 j) hes x.toNat (by omega))
          have HLE : Hid (L (s.extract 2 j) = ((L s).take j).drop 2) := Lib.hid (by rw [L_take, List.drop_take])
          simp only [List.take_succ_cons, List.take_zero, List.drop_succ_cons, List.drop_zero]
          clear hw2 c8 cf8
          repeat still_step
          refine wpStill_nil ?_
          go_wp2_with (go_at_call 53; refine HC.out.mono ?_; rintro e w3 ⟨rfl, m3, ht3⟩; have HT3 := Lib.hid ht3; clear ht3)
          go_ret
          rw [HE.out]
          refine ⟨by simp, m3, ?_⟩
          have := HT2.out.trans HT3.out
          rw [HLE.out] at this
          exact this
end
end U
end Go.Proofs.YtceomobdolkfgaaDoor
/- The screen's step. -/
set_option linter.unusedVariables false
namespace Go.Proofs.YtceomobdolkfgaaDoor
open Go.RowKit Go.Proofs.YtceomobdolkfgaaDoorW.PrintWords Go.Proofs.YtceomobdolkfgaaDoor.Sep Go.Lib
namespace U
/-- A screen that lies beside the tables. -/
structure Off (p : Nat) (t : TS) (m : Mem) : Prop where
  a : ¬ foot p t m 0
  b : ¬ foot p t m 1
section
variable {w w' w1 : World} {p : Nat} {t t' : TS} {m m' : Mem}
theorem Turned.tabs (h : Turned w w' p t m t' m') (hT : Tabs w) (ho : Off p t m) : Tabs w' := hT.upd h.upd ho.a ho.b
theorem Turned.off (h : Turned w w' p t m t' m') (hT : Tabs w) (ho : Off p t m) : Off p t' m' :=
  ⟨fun e => (h.foot _ e).elim ho.a (fun e => by have := hT.two.1; omega), fun e => (h.foot _ e).elim ho.b (fun e => by have := hT.two.2; omega)⟩
theorem RowsAt.touch {rows : List Row} (h : RowsAt w m rows) {i : Nat} (hi : i < rows.length) (hu : Upd (fun k => (m.v i).ownBlock = some k) w w1) {r' : Row} (ho : OwnS w1 32 2 (m.v i) r'.length (flat r')) : RowsAt w1 m (rows.set i r') := by
  refine ⟨?_, fun j hj => ?_, fun j j2 k hj hj2 hne hk => ?_⟩
  · rw [List.length_set]
    exact h.own.upd hu (fun k hk e => h.ne_rv hi e hk)
  · rw [List.length_set] at hj
    rw [getD_set _ _ _ _ hi]
    by_cases e : i = j
    · subst e
      rw [if_pos rfl]
      exact ho
    · rw [if_neg e]
      exact (h.row j hj).upd hu (fun k hk e2 => h.sep i j k hi hj e e2 hk)
  · rw [List.length_set] at hj hj2
    exact h.sep j j2 k hj hj2 hne hk
theorem flat_text (r : Row) (i : Nat) (h : i < r.length) (s : ByteArray) : flat (r.set i (s, (r.getD i cz).2)) = (flat r).set (i * 2) (.string s) := by
  rw [flat_set]
  obtain ⟨f0, f1⟩ := flat_at r i h
  apply List.ext_getElem?
  intro j
  rw [List.getElem?_set]
  by_cases e : i * 2 + 1 = j
  · subst e
    rw [if_pos rfl, if_pos (by rw [List.length_set]; exact (List.getElem?_eq_some_iff.1 f1).1), List.getElem?_set, if_neg (by omega), f1]
  · rw [if_neg e]
theorem lay_turn (h : At w p t m) (hi : t.Inv) (hm : t.marks = true) (s : ByteArray) {g6 off6 c6 : Nat} (hv : m.v t.lr = .slice (some ⟨g6, off6, none⟩) (t.rows.getD t.lr []).length c6) :
    Turned w (w.setCell ⟨g6, off6 + t.lc * 2, none⟩ (.string (((t.rows.getD t.lr []).getD t.lc cz).1 ++ s))) p t m (t.lay s) m := by
  obtain ⟨m1, m2⟩ := hi.mark hm
  have hrow := h.rows.row t.lr m1
  rw [hv] at hrow
  have hob : (m.v t.lr).ownBlock = some g6 := by rw [hv]; simp [Value.ownBlock]
  have hu : Upd (fun k => (m.v t.lr).ownBlock = some k) w (w.setCell ⟨g6, off6 + t.lc * 2, none⟩ (.string (((t.rows.getD t.lr []).getD t.lc cz).1 ++ s))) := Upd.setCell (p := ⟨g6, off6 + t.lc * 2, none⟩) (Upd.refl _ _) (.inl hob) _
  have ho := own_set hrow (t.lc * 2) (by omega) (.string (((t.rows.getD t.lr []).getD t.lc cz).1 ++ s))
  rw [← flat_text _ _ m2] at ho
  have hpg : p ≠ g6 := fun e => h.pne (.inr ⟨t.lr, m1, by rw [hob, e]⟩)
  have hr := h.rows.touch m1 hu (r' := (t.rows.getD t.lr []).set t.lc (((t.rows.getD t.lr []).getD t.lc cz).1 ++ s, ((t.rows.getD t.lr []).getD t.lc cz).2)) (by rw [hv, List.length_set]; exact ho)
  refine ⟨⟨(h.blk.far (by show p ≠ g6; exact hpg) _), hr⟩, hu.mono (fun k hk => .inr (.inr ⟨t.lr, m1, hk⟩)), fun k hk => .inl (foot_rows (by show (t.rows.set _ _).length = _; rw [List.length_set]) hk)⟩
end
theorem L_ba (s : ByteArray) (n : Nat) : ba ((L s).take n) = s.extract 0 n := by
  have : L (s.extract 0 n) = (L s).take n := by rw [L_take, List.drop_zero, Nat.sub_zero]
  rw [← this]
  unfold ba L
  rfl
section
variable {w w' : World} {p : Nat} {t : TS} {m : Mem}
set_option maxHeartbeats 4000000
set_option maxRecDepth 100000
theorem step_ (h : At w p t m) (hi : t.Inv) (hT : Tabs w) (s : ByteArray) (hs : s.size ≤ 1099511627776) (h0 : 0 < s.size) {B : Nat} (hB : TxB B t.rows) (hB2 : B ≤ 1125899906842624) :
    Calls Tryd.prog 20 #[.pointer (some ⟨p, 0, none⟩), .string s] w fun e w' => e = .returned (.int .i64 ((t.step (L s)).1 : Nat)) ∧ ∃ m', Turned w w' p t m (t.step (L s)).2 m' := by
  have hl := L_len s
  have HA := Lib.hid h
  have HI := Lib.hid hi
  have HT := Lib.hid hT
  have HTX := Lib.hid hB
  obtain ⟨x0, hx0⟩ : ∃ x, (L s).getD 0 0 = x := ⟨_, rfl⟩
  have hs0 : s[0]'h0 = x0 := by rw [← hx0]; exact (getL s 0 h0).symm
  have l0 := x0.toNat_lt
  have hpos : (0 : Int) < (s.size : Int) := by omega
  obtain ⟨res, hres⟩ : ∃ r, t.step (L s) = r := ⟨_, rfl⟩
  have hR := hres
  unfold TS.step at hR
  rw [hx0] at hR
  rw [hres]
  clear h hi hT hB hx0 hres
  by_cases h27 : x0.toNat = 27
  · rw [if_pos h27] at hR
    have HR := Lib.hid hR
    have HE := Lib.hid (escape_ HA.out HI.out s hs h0)
    have q27 : (x0.toNat : Int) = 27 := by omega
    clear hR hl
    go_enter Tryd.func20, Tryd.ntmps20
    go_wp2_with (go_at_call 37; refine HE.out.mono ?_; rintro e w1 ⟨rfl, m1, ht⟩; have HT1 := Lib.hid ht; clear ht)
    go_ret
    rw [← HR.out]
    exact ⟨rfl, m1, HT1.out⟩
  rw [if_neg h27] at hR
  have q27 : ((x0.toNat : Int) == 27) = false := by rw [beq_eq_false_iff_ne]; omega
  have q27n : ¬ (x0.toNat : Int) = 27 := by omega
  by_cases hc : x0.toNat < 32 ∨ x0.toNat = 127
  · rw [if_pos hc] at hR
    have HR := Lib.hid hR
    have HE := Lib.hid (control_ HA.out HI.out x0.toNat (by omega))
    by_cases h32 : x0.toNat < 32
    · have q32 : (x0.toNat : Int) < 32 := by omega
      clear hR hl hc
      go_enter Tryd.func20, Tryd.ntmps20
      go_wp2_with (go_at_call 38; refine HE.out.mono ?_; rintro e w1 ⟨rfl, m1, ht⟩; have HT1 := Lib.hid ht; clear ht)
      go_ret
      rw [← HR.out]
      exact ⟨rfl, m1, HT1.out⟩
    · have q32 : ¬ (x0.toNat : Int) < 32 := by omega
      have q127 : (x0.toNat : Int) = 127 := by omega
      have e127 : x0.toNat = 127 := by omega
      rw [e127] at HR
      have HE : Hid (Calls Tryd.prog 38 #[.pointer (some ⟨p, 0, none⟩), .int .u8 127] w fun e w' => e = .returned (.tuple #[]) ∧ ∃ m', Turned w w' p t m (t.control 127) m') := Lib.hid (control_ HA.out HI.out 127 (by decide))
      clear hR hl hc e127
      go_enter Tryd.func20, Tryd.ntmps20
      go_wp2_with (go_at_call 38; refine HE.out.mono ?_; rintro e w1 ⟨rfl, m1, ht⟩; have HT1 := Lib.hid ht; clear ht)
      go_ret
      rw [← HR.out]
      exact ⟨rfl, m1, HT1.out⟩
  rw [if_neg hc] at hR
  have q32 : ¬ (x0.toNat : Int) < 32 := by omega
  have q32n : ¬ x0.toNat < 32 := by omega
  have q127 : ((x0.toNat : Int) == 127) = false := by rw [beq_eq_false_iff_ne]; omega
  have q127n : ¬ (x0.toNat : Int) = 127 := by omega
  have HBG := Lib.hid (begun_ s w HT.out)
  clear hc
  cases hb : begun (L s) with
  | true =>
    rw [hb, if_pos rfl] at hR
    have HR := Lib.hid hR
    rw [hb] at HBG
    clear hR hl hb
    go_enter Tryd.func20, Tryd.ntmps20
    go_wp2_with (go_at_call 39; refine HBG.out.mono ?_; rintro e w1 ⟨rfl, hq⟩; have HQ := Lib.hid hq; clear hq)
    go_ret
    rw [← HR.out]
    exact ⟨rfl, m, (Turned.refl HA.out).below HQ.out⟩
  | false =>
    rw [hb, if_neg (by decide)] at hR
    rw [hb] at HBG
    have HAT := Lib.hid (fun w1 (hq : Below w.heap.size w w1) => by have := at_ s 0 w1 (HT.out.below hq) hs h0 (bd_zero _); rw [List.drop_zero] at this; exact this)
    obtain ⟨n, hn⟩ : ∃ n, sz (L s) = n := ⟨_, rfl⟩
    have hne : L s ≠ [] := fun e => by rw [e] at hl; simp at hl; omega
    have hn4 : n ≤ 4 := by rw [← hn]; exact sz_four _ hne
    have hns : n ≤ s.size := by rw [← hn, ← hl]; exact sz_le _
    have hnsi : (n : Int) ≤ (s.size : Int) := by omega
    obtain ⟨ch, hch⟩ : ∃ ch, chr (L s) = ch := ⟨_, rfl⟩
    rw [hn, hch] at HAT hR
    obtain ⟨k, hk⟩ : ∃ k, cls ch = k := ⟨_, rfl⟩
    have HCL := Lib.hid (fun w => class_ ch w)
    rw [hk] at HCL hR
    rw [L_ba] at hR
    obtain ⟨tx, htx⟩ : ∃ tx, s.extract 0 n = tx := ⟨_, rfl⟩
    have htl : tx.size ≤ 4 := by rw [← htx, ByteArray.size_extract]; omega
    rw [htx] at hR
    unfold TS.shown at hR
    clear hl hb hn hch hk hne
    by_cases k3 : k = 3
    · subst k3
      rw [if_pos rfl] at hR
      cases hm : t.marks with
      | false =>
        rw [hm, if_neg (by decide)] at hR
        have HR := Lib.hid hR
        clear hR
        go_enter Tryd.func20, Tryd.ntmps20
        go_wp2_with (first
          | (go_at_call 39; refine HBG.out.mono ?_; rintro e w1 ⟨rfl, hq⟩; have HQ := Lib.hid hq; clear hq)
          | (go_at_call 40; refine (HAT.out _ HQ.out).mono ?_; rintro e w2 ⟨rfl, hq⟩; have HQ2 := Lib.hid (below_then HQ.out hq); have HU2 := Lib.hid (Blk.new w2 86 #[.int .i32 ch, .int .i64 n]); clear hq)
          | (go_at_call 41; go_loud (refine (HCL.out _).mono ?_; rintro e w3 ⟨rfl, hq⟩; have hu3 := Blk.below HU2.out hq; have HB3 := Lib.hid (below_then HQ2.out (below_alloc hq)); have HA3 := Lib.hid (HA.out.below HB3.out); have a8 : w3.cell? ⟨p, 8, none⟩ = some (.bool false) := (by rw [← hm]; exact HA3.out.blk.cell 8); have a0 : w3.cell? ⟨p, 0, none⟩ = some (.int .i64 t.W) := HA3.out.blk.cell 0; have a5 : w3.cell? ⟨p, 5, none⟩ = some (.bool t.full) := HA3.out.blk.cell 5; have af := fun j => HA3.out.blk.frozen j; have u1 := Blk.cell hu3 1; have HU3 := Lib.hid hu3; have hup : w2.heap.size ≠ p := (fun e => by have h1 := HA.out.blk.lt; have h2 := HQ2.out.size; omega); have hpu : p ≠ w2.heap.size := fun e => hup e.symm; clear hq hu3)))
        go_ret
        rw [← HR.out]
        exact ⟨rfl, m, (Turned.refl HA.out).below HB3.out⟩
      | true =>
        rw [hm, if_pos rfl] at hR
        have HR := Lib.hid hR
        obtain ⟨m1, m2⟩ := HI.out.mark hm
        obtain ⟨r, hr⟩ : ∃ r, t.rows.getD t.lr [] = r := ⟨_, rfl⟩
        obtain ⟨x, hx⟩ : ∃ x, r.getD t.lc cz = x := ⟨_, rfl⟩
        have hxs : x.1.size ≤ B := by rw [← hx, ← hr]; exact (HTX.out.row t.lr).at_ t.lc
        have HM := Lib.hid hm
        have HX := Lib.hid hx
        have HRW := Lib.hid hr
        rw [hr] at m2
        clear hR hm hx hr
        go_enter Tryd.func20, Tryd.ntmps20
        go_wp2_with (first
          | (go_at_call 39; refine HBG.out.mono ?_; rintro e w1 ⟨rfl, hq⟩; have HQ := Lib.hid hq; clear hq)
          | (go_at_call 40; refine (HAT.out _ HQ.out).mono ?_; rintro e w2 ⟨rfl, hq⟩; have HQ2 := Lib.hid (below_then HQ.out hq); have HU2 := Lib.hid (Blk.new w2 86 #[.int .i32 ch, .int .i64 n]); clear hq)
          | (go_at_call 41; go_loud (refine (HCL.out _).mono ?_; rintro e w3 ⟨rfl, hq⟩; have hu3 := Blk.below HU2.out hq; have HB3 := Lib.hid (below_then HQ2.out (below_alloc hq)); have HA3 := Lib.hid (HA.out.below HB3.out); have a8 : w3.cell? ⟨p, 8, none⟩ = some (.bool true) := (by rw [← HM.out]; exact HA3.out.blk.cell 8); have a0 : w3.cell? ⟨p, 0, none⟩ = some (.int .i64 t.W) := HA3.out.blk.cell 0; have a5 : w3.cell? ⟨p, 5, none⟩ = some (.bool t.full) := HA3.out.blk.cell 5; have af := fun j => HA3.out.blk.frozen j; have u1 := Blk.cell hu3 1; have HU3 := Lib.hid hu3; have hup : w2.heap.size ≠ p := (fun e => by have h1 := HA.out.blk.lt; have h2 := HQ2.out.size; omega); have hpu : p ≠ w2.heap.size := fun e => hup e.symm; clear hq hu3)))
        refine still_tail 23 (by kernel_rfl) (by kernel_rfl) (fun w4 hw4 => ?_)
        have HW4 : Hid (Below w3.heap.size w3 w4) := Lib.hid (by rw [hw4]; exact drew_below _)
        have HA4 := Lib.hid (HA3.out.below HW4.out)
        have u4 := Blk.cell (Blk.below HU3.out HW4.out) 1
        have HU4 := Lib.hid (Blk.below HU3.out HW4.out)
        obtain ⟨g, off, cap, hv, hg, hcg, hcell, -⟩ := own_cell HA4.out.rows.own (show 0 < t.rows.length by omega)
        have e2 : w4.cell? ⟨p, 2, none⟩ = some (.slice (some ⟨g, off, none⟩) t.rows.length cap) := by rw [← hv]; exact HA4.out.blk.cell 2
        have e6 : w4.cell? ⟨p, 6, none⟩ = some (.int .i64 t.lr) := HA4.out.blk.cell 6
        have e7 : w4.cell? ⟨p, 7, none⟩ = some (.int .i64 t.lc) := HA4.out.blk.cell 7
        have r0 := hcell t.lr (m.v t.lr) (by unfold Mem.v; rw [List.getD_eq_getElem?_getD, List.getElem?_eq_getElem (by have := HA4.out.rows.vlen; omega)]; rfl)
        have horow := HA4.out.rows.row t.lr m1
        rw [HRW.out] at horow
        obtain ⟨g6, off6, c6, hv6, hg6, hc6, hcell6, hfz6⟩ := own_cell horow (show 0 < r.length by omega)
        rw [hv6] at r0
        obtain ⟨f0, f1⟩ := flat_at r t.lc m2
        have x0c := hcell6 _ _ f0
        rw [HX.out] at x0c
        have hi1 : (t.lr : Int) < (t.rows.length : Int) := by omega
        have hi2 : (t.lc : Int) < (r.length : Int) := by omega
        have HV6 := Lib.hid hv6
        have hcat : ¬ 9223372036854775807 < x.1.size + tx.size := by omega
        have hug6 : w2.heap.size ≠ g6 := fun e => by
          have h1 := (HA.out.lt g6 (.inr (.inr ⟨t.lr, m1, by rw [hv6]; simp [Value.ownBlock]⟩)))
          have h2 := HQ2.out.size
          omega
        have hgu6 : g6 ≠ w2.heap.size := fun e => hug6 e.symm
        simp only [List.take_succ_cons, List.take_zero, List.drop_succ_cons, List.drop_zero]
        clear hw4 hv hv6 hcell horow hcell6 f0 f1 a8 a0 a5 af u1
        repeat still_step
        refine wpStill_nil ?_
        go_wp2
        go_ret
        rw [← HR.out]
        have TL := lay_turn HA4.out HI.out HM.out tx (by rw [HRW.out]; exact HV6.out)
        rw [HRW.out, HX.out] at TL
        exact ⟨rfl, m, Turned.from_below (below_then HB3.out HW4.out) TL⟩
    rw [if_neg k3] at hR
    have z3 : (k == 3) = false := by rw [beq_eq_false_iff_ne]; exact k3
    by_cases k0 : k = 0
    · subst k0
      rw [if_pos rfl] at hR
      have HR := Lib.hid hR
      clear hR
      go_enter Tryd.func20, Tryd.ntmps20
      go_wp2_with (first
        | (go_at_call 39; refine HBG.out.mono ?_; rintro e w1 ⟨rfl, hq⟩; have HQ := Lib.hid hq; clear hq)
        | (go_at_call 40; refine (HAT.out _ HQ.out).mono ?_; rintro e w2 ⟨rfl, hq⟩; have HQ2 := Lib.hid (below_then HQ.out hq); have HU2 := Lib.hid (Blk.new w2 86 #[.int .i32 ch, .int .i64 n]); clear hq)
        | (go_at_call 41; go_loud (refine (HCL.out _).mono ?_; rintro e w3 ⟨rfl, hq⟩; have hu3 := Blk.below HU2.out hq; have HB3 := Lib.hid (below_then HQ2.out (below_alloc hq)); have HA3 := Lib.hid (HA.out.below HB3.out); have a8 : w3.cell? ⟨p, 8, none⟩ = some (.bool t.marks) := HA3.out.blk.cell 8; have a0 : w3.cell? ⟨p, 0, none⟩ = some (.int .i64 t.W) := HA3.out.blk.cell 0; have a5 : w3.cell? ⟨p, 5, none⟩ = some (.bool t.full) := HA3.out.blk.cell 5; have af := fun j => HA3.out.blk.frozen j; have u1 := Blk.cell hu3 1; have HU3 := Lib.hid hu3; have hup : w2.heap.size ≠ p := (fun e => by have h1 := HA.out.blk.lt; have h2 := HQ2.out.size; omega); have hpu : p ≠ w2.heap.size := fun e => hup e.symm; clear hq hu3))
        | (go_at_call 42; refine (write_ HA3.out HI.out tx 1 (.inl rfl)).mono ?_; rintro e w4 ⟨rfl, m4, ht⟩; have u4 := Blk.cell (Blk.upd HU3.out ht.upd (fun e => by have h1 := HA.out.lt _ e; have h2 := HQ2.out.size; omega)) 1; have HT4 := Lib.hid ht; clear ht u1))
      go_ret
      rw [← HR.out]
      exact ⟨rfl, m4, Turned.from_below HB3.out HT4.out⟩
    rw [if_neg k0] at hR
    have z0 : (k == 0) = false := by rw [beq_eq_false_iff_ne]; exact k0
    by_cases k5 : k = 5
    · subst k5
      rw [if_pos rfl] at hR
      have HR := Lib.hid hR
      clear hR
      go_enter Tryd.func20, Tryd.ntmps20
      go_wp2_with (first
        | (go_at_call 39; refine HBG.out.mono ?_; rintro e w1 ⟨rfl, hq⟩; have HQ := Lib.hid hq; clear hq)
        | (go_at_call 40; refine (HAT.out _ HQ.out).mono ?_; rintro e w2 ⟨rfl, hq⟩; have HQ2 := Lib.hid (below_then HQ.out hq); have HU2 := Lib.hid (Blk.new w2 86 #[.int .i32 ch, .int .i64 n]); clear hq)
        | (go_at_call 41; go_loud (refine (HCL.out _).mono ?_; rintro e w3 ⟨rfl, hq⟩; have hu3 := Blk.below HU2.out hq; have HB3 := Lib.hid (below_then HQ2.out (below_alloc hq)); have HA3 := Lib.hid (HA.out.below HB3.out); have a8 : w3.cell? ⟨p, 8, none⟩ = some (.bool t.marks) := HA3.out.blk.cell 8; have a0 : w3.cell? ⟨p, 0, none⟩ = some (.int .i64 t.W) := HA3.out.blk.cell 0; have a5 : w3.cell? ⟨p, 5, none⟩ = some (.bool t.full) := HA3.out.blk.cell 5; have af := fun j => HA3.out.blk.frozen j; have u1 := Blk.cell hu3 1; have HU3 := Lib.hid hu3; have hup : w2.heap.size ≠ p := (fun e => by have h1 := HA.out.blk.lt; have h2 := HQ2.out.size; omega); have hpu : p ≠ w2.heap.size := fun e => hup e.symm; clear hq hu3))
        | (go_at_call 42; refine (write_ HA3.out HI.out bad3 1 (.inl rfl)).mono ?_; rintro e w4 ⟨rfl, m4, ht⟩; have u4 := Blk.cell (Blk.upd HU3.out ht.upd (fun e => by have h1 := HA.out.lt _ e; have h2 := HQ2.out.size; omega)) 1; have HT4 := Lib.hid ht; clear ht u1))
      go_ret
      rw [← HR.out]
      exact ⟨rfl, m4, Turned.from_below HB3.out HT4.out⟩
    rw [if_neg k5] at hR
    have z5 : (k == 5) = false := by rw [beq_eq_false_iff_ne]; exact k5
    by_cases k4 : k = 4
    · subst k4
      rw [if_pos rfl] at hR
      by_cases hw1 : t.W = 1
      · rw [if_pos hw1] at hR
        have HR := Lib.hid hR
        have qw : (t.W : Int) = 1 := by omega
        clear hR
        go_enter Tryd.func20, Tryd.ntmps20
        go_wp2_with (first
          | (go_at_call 39; refine HBG.out.mono ?_; rintro e w1 ⟨rfl, hq⟩; have HQ := Lib.hid hq; clear hq)
          | (go_at_call 40; refine (HAT.out _ HQ.out).mono ?_; rintro e w2 ⟨rfl, hq⟩; have HQ2 := Lib.hid (below_then HQ.out hq); have HU2 := Lib.hid (Blk.new w2 86 #[.int .i32 ch, .int .i64 n]); clear hq)
          | (go_at_call 41; go_loud (refine (HCL.out _).mono ?_; rintro e w3 ⟨rfl, hq⟩; have hu3 := Blk.below HU2.out hq; have HB3 := Lib.hid (below_then HQ2.out (below_alloc hq)); have HA3 := Lib.hid (HA.out.below HB3.out); have a8 : w3.cell? ⟨p, 8, none⟩ = some (.bool t.marks) := HA3.out.blk.cell 8; have a0 : w3.cell? ⟨p, 0, none⟩ = some (.int .i64 t.W) := HA3.out.blk.cell 0; have a5 : w3.cell? ⟨p, 5, none⟩ = some (.bool t.full) := HA3.out.blk.cell 5; have af := fun j => HA3.out.blk.frozen j; have u1 := Blk.cell hu3 1; have HU3 := Lib.hid hu3; have hup : w2.heap.size ≠ p := (fun e => by have h1 := HA.out.blk.lt; have h2 := HQ2.out.size; omega); have hpu : p ≠ w2.heap.size := fun e => hup e.symm; clear hq hu3))
          | (go_at_call 42; refine (write_ HA3.out HI.out bad3 1 (.inl rfl)).mono ?_; rintro e w4 ⟨rfl, m4, ht⟩; have u4 := Blk.cell (Blk.upd HU3.out ht.upd (fun e => by have h1 := HA.out.lt _ e; have h2 := HQ2.out.size; omega)) 1; have HT4 := Lib.hid ht; clear ht u1))
        go_ret
        rw [← HR.out]
        exact ⟨rfl, m4, Turned.from_below HB3.out HT4.out⟩
      · rw [if_neg hw1] at hR
        have HR := Lib.hid hR
        have qw : ((t.W : Int) == 1) = false := by rw [beq_eq_false_iff_ne]; omega
        have qwn : ¬ (t.W : Int) = 1 := by omega
        have hw2 : 2 ≤ t.W := by have := HI.out.w1; omega
        clear hR
        go_enter Tryd.func20, Tryd.ntmps20
        go_wp2_with (first
          | (go_at_call 39; refine HBG.out.mono ?_; rintro e w1 ⟨rfl, hq⟩; have HQ := Lib.hid hq; clear hq)
          | (go_at_call 40; refine (HAT.out _ HQ.out).mono ?_; rintro e w2 ⟨rfl, hq⟩; have HQ2 := Lib.hid (below_then HQ.out hq); have HU2 := Lib.hid (Blk.new w2 86 #[.int .i32 ch, .int .i64 n]); clear hq)
          | (go_at_call 41; go_loud (refine (HCL.out _).mono ?_; rintro e w3 ⟨rfl, hq⟩; have hu3 := Blk.below HU2.out hq; have HB3 := Lib.hid (below_then HQ2.out (below_alloc hq)); have HA3 := Lib.hid (HA.out.below HB3.out); have a8 : w3.cell? ⟨p, 8, none⟩ = some (.bool t.marks) := HA3.out.blk.cell 8; have a0 : w3.cell? ⟨p, 0, none⟩ = some (.int .i64 t.W) := HA3.out.blk.cell 0; have a5 : w3.cell? ⟨p, 5, none⟩ = some (.bool t.full) := HA3.out.blk.cell 5; have af := fun j => HA3.out.blk.frozen j; have u1 := Blk.cell hu3 1; have HU3 := Lib.hid hu3; have hup : w2.heap.size ≠ p := (fun e => by have h1 := HA.out.blk.lt; have h2 := HQ2.out.size; omega); have hpu : p ≠ w2.heap.size := fun e => hup e.symm; clear hq hu3))
          | (go_at_call 42; refine (write_ HA3.out HI.out tx 2 (.inr ⟨rfl, hw2⟩)).mono ?_; rintro e w4 ⟨rfl, m4, ht⟩; have u4 := Blk.cell (Blk.upd HU3.out ht.upd (fun e => by have h1 := HA.out.lt _ e; have h2 := HQ2.out.size; omega)) 1; have HT4 := Lib.hid ht; clear ht u1))
        go_ret
        rw [← HR.out]
        exact ⟨rfl, m4, Turned.from_below HB3.out HT4.out⟩
    rw [if_neg k4] at hR
    have z4 : (k == 4) = false := by rw [beq_eq_false_iff_ne]; exact k4
    have HR := Lib.hid hR
    clear hR
    go_enter Tryd.func20, Tryd.ntmps20
    go_wp2_with (first
      | (go_at_call 39; refine HBG.out.mono ?_; rintro e w1 ⟨rfl, hq⟩; have HQ := Lib.hid hq; clear hq)
      | (go_at_call 40; refine (HAT.out _ HQ.out).mono ?_; rintro e w2 ⟨rfl, hq⟩; have HQ2 := Lib.hid (below_then HQ.out hq); have HU2 := Lib.hid (Blk.new w2 86 #[.int .i32 ch, .int .i64 n]); clear hq)
      | (go_at_call 41; go_loud (refine (HCL.out _).mono ?_; rintro e w3 ⟨rfl, hq⟩; have hu3 := Blk.below HU2.out hq; have HB3 := Lib.hid (below_then HQ2.out (below_alloc hq)); have HA3 := Lib.hid (HA.out.below HB3.out); have a8 : w3.cell? ⟨p, 8, none⟩ = some (.bool t.marks) := HA3.out.blk.cell 8; have a0 : w3.cell? ⟨p, 0, none⟩ = some (.int .i64 t.W) := HA3.out.blk.cell 0; have a5 : w3.cell? ⟨p, 5, none⟩ = some (.bool t.full) := HA3.out.blk.cell 5; have af := fun j => HA3.out.blk.frozen j; have u1 := Blk.cell hu3 1; have HU3 := Lib.hid hu3; have hup : w2.heap.size ≠ p := (fun e => by have h1 := HA.out.blk.lt; have h2 := HQ2.out.size; omega); have hpu : p ≠ w2.heap.size := fun e => hup e.symm; clear hq hu3)))
    go_ret
    rw [← HR.out]
    exact ⟨rfl, m, Turned.from_below HB3.out (plain_turn HA3.out)⟩
end
end U
end Go.Proofs.YtceomobdolkfgaaDoor
