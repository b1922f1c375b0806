/- WidthWithin returns true for every list of numbers: a character has a class that has ranges just where one of them holds it. No condition. -/
import Derived.Test.YtdcbgaikakhadaaPWidthWithinx3
import Derived.Test.YtdcbgaikakhadaaCore
namespace Go.Proofs.Ytdcbgaikakhadaa.Pure
open Go.RowKit Go.Proofs.Ytdcbgaikakhadaa.PWidthWithin Go.Proofs.YtdcbgaikakhadaaW.PrintWords Go.Proofs.YtdcbgaikakhadaaW.PrintLast

open Go.Proofs.Ytdcbgaikakhadaa.Within Go.Proofs.Ytdcbgaikakhadaa.Core

theorem up {α : Type} (f : Nat → Option α) (h : ∀ k, LeO (f k) (f (k + 1))) (k : Nat) : ∀ d r, f k = some r → f (k + d) = some r
  | 0, _, hr => hr
  | d + 1, r, hr => h _ r (up f h k d r hr)
theorem wM (c : Int) : width_within_rune.f tabM c = some (inside tabM c) := by
  unfold width_within_rune.f
  rw [if_pos (by decide), withinF_eq _ _ okM]
theorem wW (c : Int) : width_within_rune.f tabW c = some (inside tabW c) := by
  unfold width_within_rune.f
  rw [if_pos (by decide), withinF_eq _ _ okW]
theorem marksEq : width_marks.f = some tabM := rfl
theorem widesEq : width_wides.f = some tabW := rfl
theorem j1P (k : Nat) (c : Int) (b : Bool) : width_Class.j1 (k + 1) c b = some (if b = true then 2 else if inside tabM c = true then 3 else if inside tabW c = true then 4 else 0) := by
  simp only [width_Class.j1, marksEq, widesEq, Option.bind_some, wM, wW]
  split
  · rfl
  · split
    · rfl
    · split <;> rfl
theorem j0P (k : Nat) (c : Int) (b : Bool) : width_Class.j0 (k + 2) c b = some (if b = true then 5 else if c = 10 then 1 else if c < 32 ∨ (127 ≤ c ∧ c ≤ 159) then 2 else if inside tabM c = true then 3 else if inside tabW c = true then 4 else 0) := by
  simp only [width_Class.j0, j1P]
  cases b <;> by_cases h1 : c = 10 <;> by_cases h2 : c < 32 <;> by_cases h3 : 127 ≤ c <;> by_cases h4 : c ≤ 159 <;> simp [h1, h2, h3, h4]
theorem classP (k : Nat) (c : Int) (hk : 2 ≤ k) : width_Class.f k c = some (cls c) := by
  obtain ⟨k, rfl⟩ : ∃ m, k = m + 2 := ⟨k - 2, by omega⟩
  simp only [width_Class.f, j0P]
  unfold cls
  by_cases h1 : c < 0 <;> by_cases h2 : 1114111 < c <;> by_cases h3 : 55296 ≤ c <;> by_cases h4 : c ≤ 57343 <;> simp [h1, h2, h3, h4]
theorem cellsP (k : Nat) (c : Int) (hk : 2 ≤ k) : width_Cells.f k c = some (cel c) := by
  simp only [width_Cells.f, classP k c hk, Option.bind_some]
  unfold cel
  by_cases h1 : cls c = 1 <;> by_cases h2 : cls c = 4 <;> by_cases h3 : cls c = 2 <;> by_cases h4 : c ≤ 127 <;> simp [h1, h2, h3, h4]
theorem awakeP (k : Nat) (hk : 100 ≤ k) : bodkinlaw02_awake.f k = some true := by
  obtain ⟨d, rfl⟩ : ∃ d, k = 100 + d := ⟨k - 100, by omega⟩
  exact up _ bodkinlaw02_awake.mono 100 d _ (by decide +kernel)
theorem rd_wf (l : List Int) (i : Int) (h : ∀ x ∈ l, (Lit.int .i32 x).wf = true) : (Lit.int .i32 (rd l i)).wf = true := by
  unfold rd
  rw [List.getD_eq_getElem?_getD]
  by_cases hi : i.toNat < l.length
  · rw [List.getElem?_eq_getElem hi]; exact h _ (List.getElem_mem hi)
  · rw [List.getElem?_eq_none (by omega)]; decide

def sOf (p : Int × Int) : S32 := ⟨p.1, p.2⟩
def tabN : List Int := [10, 10]
def tabC : List Int := [0, 9, 11, 31, 127, 159]
theorem heldR (l : List S32) (c : Int) (hl : l.length ≤ 1000) : ∀ (d k : Nat) (i : Int), 0 ≤ i → i ≤ (l.length : Int) → (l.length : Int) - i = (d : Int) → d < k →
    bodkinlaw02_held.l0 k l c i = some ((l.drop i.toNat).any fun p => decide (p.f0 ≤ c) && decide (c ≤ p.f1)) := by
  intro d
  induction d with
  | zero =>
    intro k i h0 h1 hd hk
    obtain ⟨k, rfl⟩ : ∃ m, k = m + 1 := ⟨k - 1, by omega⟩
    simp only [bodkinlaw02_held.l0]
    rw [if_neg (by omega), List.drop_eq_nil_of_le (by omega)]
    rfl
  | succ d ih =>
    intro k i h0 h1 hd hk
    obtain ⟨k, rfl⟩ : ∃ m, k = m + 1 := ⟨k - 1, by omega⟩
    have hlt : i < (l.length : Int) := by omega
    have hn : i.toNat < l.length := by omega
    have hw : wrap64 (i + 1) = i + 1 := by unfold wrap64; omega
    have hrd : rd_T32 l i = l[i.toNat] := by unfold rd_T32; rw [List.getD_eq_getElem?_getD, List.getElem?_eq_getElem hn]; rfl
    have hdrop : l.drop i.toNat = l[i.toNat] :: l.drop (i + 1).toNat := by rw [List.drop_eq_getElem_cons hn]; congr 2; omega
    simp only [bodkinlaw02_held.l0]
    rw [if_pos hlt, if_pos h0, hw, ih k (i + 1) (by omega) (by omega) (by omega) (by omega), hrd, hdrop, List.any_cons]
    by_cases a : l[i.toNat].f0 ≤ c
    · rw [if_pos a]
      by_cases b : c ≤ l[i.toNat].f1
      · rw [if_pos b, decide_eq_true a, decide_eq_true b]; rfl
      · rw [if_neg b, decide_eq_false b, Bool.and_false, Bool.false_or]
    · rw [if_neg a, decide_eq_false a, Bool.false_and, Bool.false_or]
theorem heldT (l : List Int) (c : Int) (k : Nat) (hl : (pairs l).length ≤ 100) (hk : 200 ≤ k) : bodkinlaw02_held.f k ((pairs l).map sOf) c = some (inside l c) := by
  unfold bodkinlaw02_held.f
  rw [heldR ((pairs l).map sOf) c (by simp; omega) (pairs l).length k 0 (by omega) (by omega) (by simp) (by omega)]
  simp only [Int.toNat_zero, List.drop_zero, inside, List.any_map]
  rfl
theorem ranges1 (k : Nat) (h : 200 ≤ k) : width_Ranges.f k 1 = some ((pairs tabN).map sOf) := by
  obtain ⟨d, rfl⟩ : ∃ d, k = 200 + d := ⟨k - 200, by omega⟩
  exact up _ (width_Ranges.mono 1) 200 d _ (by kernel_rfl)
theorem ranges2 (k : Nat) (h : 200 ≤ k) : width_Ranges.f k 2 = some ((pairs tabC).map sOf) := by
  obtain ⟨d, rfl⟩ : ∃ d, k = 200 + d := ⟨k - 200, by omega⟩
  exact up _ (width_Ranges.mono 2) 200 d _ (by kernel_rfl)
theorem ranges3 (k : Nat) (h : 200 ≤ k) : width_Ranges.f k 3 = some ((pairs tabM).map sOf) := by
  obtain ⟨d, rfl⟩ : ∃ d, k = 200 + d := ⟨k - 200, by omega⟩
  exact up _ (width_Ranges.mono 3) 200 d _ (by kernel_rfl)
theorem ranges4 (k : Nat) (h : 200 ≤ k) : width_Ranges.f k 4 = some ((pairs tabW).map sOf) := by
  obtain ⟨d, rfl⟩ : ∃ d, k = 200 + d := ⟨k - 200, by omega⟩
  exact up _ (width_Ranges.mono 4) 200 d _ (by kernel_rfl)

/-- What the classes are, by the tables. -/
theorem cls_cases (c : Int) :
    (cls c = 5 ∧ (c < 0 ∨ c > 1114111 ∨ (55296 ≤ c ∧ c ≤ 57343)) ∧ inside tabN c = false ∧ inside tabC c = false ∧ inside tabM c = false ∧ inside tabW c = false) ∨
    (¬ (c < 0 ∨ c > 1114111 ∨ (55296 ≤ c ∧ c ≤ 57343)) ∧
      ((cls c = 1 ∧ inside tabN c = true ∧ inside tabC c = false ∧ inside tabM c = false ∧ inside tabW c = false) ∨
       (cls c = 2 ∧ inside tabN c = false ∧ inside tabC c = true ∧ inside tabM c = false ∧ inside tabW c = false) ∨
       (cls c = 3 ∧ inside tabN c = false ∧ inside tabC c = false ∧ inside tabM c = true ∧ inside tabW c = false) ∨
       (cls c = 4 ∧ inside tabN c = false ∧ inside tabC c = false ∧ inside tabM c = false ∧ inside tabW c = true) ∨
       (cls c = 0 ∧ inside tabN c = false ∧ inside tabC c = false ∧ inside tabM c = false ∧ inside tabW c = false))) := by
  have hN : inside tabN c = decide (c = 10) := by
    rw [Bool.eq_iff_iff, decide_eq_true_eq]
    simp only [inside, tabN, pairs, List.any_cons, List.any_nil, Bool.or_false, Bool.and_eq_true, decide_eq_true_eq]
    omega
  have hC : inside tabC c = decide ((0 ≤ c ∧ c ≤ 9) ∨ (11 ≤ c ∧ c ≤ 31) ∨ (127 ≤ c ∧ c ≤ 159)) := by
    rw [Bool.eq_iff_iff, decide_eq_true_eq]
    simp only [inside, tabC, pairs, List.any_cons, List.any_nil, Bool.or_false, Bool.or_eq_true, Bool.and_eq_true, decide_eq_true_eq]
  have hM := inM c
  have hW := inW c
  have hB := notBoth c
  by_cases h5 : c < 0 ∨ c > 1114111 ∨ (55296 ≤ c ∧ c ≤ 57343)
  · left
    have m : inside tabM c = false := by rw [Bool.eq_false_iff]; intro h; have := hM h; omega
    have w : inside tabW c = false := by rw [Bool.eq_false_iff]; intro h; have := hW h; omega
    refine ⟨by unfold cls; rw [if_pos h5], h5, ?_, ?_, m, w⟩
    · rw [hN]; exact decide_eq_false (by omega)
    · rw [hC]; exact decide_eq_false (by omega)
  right
  refine ⟨h5, ?_⟩
  by_cases h1 : c = 10
  · left
    have m : inside tabM c = false := by rw [Bool.eq_false_iff]; intro h; have := hM h; omega
    have w : inside tabW c = false := by rw [Bool.eq_false_iff]; intro h; have := hW h; omega
    refine ⟨by unfold cls; rw [if_neg h5, if_pos h1], ?_, ?_, m, w⟩
    · rw [hN]; exact decide_eq_true h1
    · rw [hC]; exact decide_eq_false (by omega)
  right
  have n : inside tabN c = false := by rw [hN]; exact decide_eq_false h1
  by_cases h2 : c < 32 ∨ (127 ≤ c ∧ c ≤ 159)
  · left
    have m : inside tabM c = false := by rw [Bool.eq_false_iff]; intro h; have := hM h; omega
    have w : inside tabW c = false := by rw [Bool.eq_false_iff]; intro h; have := hW h; omega
    refine ⟨by unfold cls; rw [if_neg h5, if_neg h1, if_pos h2], n, ?_, m, w⟩
    rw [hC]; exact decide_eq_true (by omega)
  right
  have k : inside tabC c = false := by rw [hC]; exact decide_eq_false (by omega)
  by_cases m : inside tabM c = true
  · left
    refine ⟨by unfold cls; rw [if_neg h5, if_neg h1, if_neg h2, if_pos m], n, k, m, ?_⟩
    rw [Bool.eq_false_iff]; exact fun h => hB m h
  right
  by_cases w : inside tabW c = true
  · left
    exact ⟨by unfold cls; rw [if_neg h5, if_neg h1, if_neg h2, if_neg m, if_pos w], n, k, by simpa using m, w⟩
  · right
    exact ⟨by unfold cls; rw [if_neg h5, if_neg h1, if_neg h2, if_neg m, if_neg w], n, k, by simpa using m, by simpa using w⟩

theorem step (l : List Int) (i c v n : Int) (k : Nat) (j : Int) (b : Bool) (hj : j ≤ 4) (hr : (width_Ranges.f k j).bind (fun t => bodkinlaw02_held.f k t c) = some b) (hb : b = (v == j)) :
    bodkinlaw02_WidthWithin.l1 (k + 1) l i c v n j = if b = true then bodkinlaw02_WidthWithin.l1 k l i c v (wrap64 (n + 1)) (wrap64 (j + 1)) else bodkinlaw02_WidthWithin.l1 k l i c v n (wrap64 (j + 1)) := by
  conv => lhs; unfold bodkinlaw02_WidthWithin.l1
  rw [if_pos hj]
  obtain ⟨t, ht, hh⟩ := Option.bind_eq_some_iff.1 hr
  rw [ht, Option.bind_some, hh, Option.bind_some, hb]
  simp

theorem fin3 (l : List Int) (i c : Int) (k : Nat) (hk : 10 ≤ k) (hl : l.length ≤ maxLen) (h0 : 0 ≤ i) (h1 : i < l.length) : bodkinlaw02_WidthWithin.j3 (k + 1) l i c (cls c) false = bodkinlaw02_WidthWithin.l0 k l (i + 1) := by
  unfold maxLen at hl
  have hw : wrap64 (i + 1) = i + 1 := by unfold wrap64; omega
  conv => lhs; unfold bodkinlaw02_WidthWithin.j3
  rw [if_neg (by decide), cellsP k c (by omega), Option.bind_some, hw]
  unfold cel
  rcases cls_cases c with ⟨e, _⟩ | ⟨_, ⟨e, _⟩ | ⟨e, _⟩ | ⟨e, _⟩ | ⟨e, _⟩ | ⟨e, _⟩⟩ <;> rw [e] <;> (try simp)
  by_cases h : c ≤ 127 <;> simp [h]

theorem fin2 (l : List Int) (i c n : Int) (k : Nat) (hk : 10 ≤ k) (hl : l.length ≤ maxLen) (h0 : 0 ≤ i) (h1 : i < l.length) (hn : n = if 1 ≤ cls c ∧ cls c ≤ 4 then 1 else 0) (b : Bool) (hb : b = (cls c == 5)) :
    bodkinlaw02_WidthWithin.j2 (k + 2) l i c (cls c) n b = bodkinlaw02_WidthWithin.l0 k l (i + 1) := by
  have f3 := fin3 l i c k hk hl h0 h1
  have d : bodkinlaw02_WidthWithin.j2 (k + 1 + 1) l i c (cls c) n b = bodkinlaw02_WidthWithin.j3 (k + 1) l i c (cls c) false := by
    conv => lhs; unfold bodkinlaw02_WidthWithin.j2
    rcases cls_cases c with ⟨e, _⟩ | ⟨_, ⟨e, _⟩ | ⟨e, _⟩ | ⟨e, _⟩ | ⟨e, _⟩ | ⟨e, _⟩⟩ <;> rw [e] at hn hb ⊢ <;> simp at hn hb <;> subst hn hb <;> simp
  rw [← f3, ← d]

theorem bad_eq (c : Int) (h : ¬ c < 0) (h' : ¬ c > 1114111) (h'' : c ≥ 55296) : decide (c < 57344) = (cls c == 5) := by
  rcases cls_cases c with ⟨e, hb, _⟩ | ⟨hb, ⟨e, _⟩ | ⟨e, _⟩ | ⟨e, _⟩ | ⟨e, _⟩ | ⟨e, _⟩⟩ <;> rw [e] <;> first | (rw [decide_eq_true (by omega)]; rfl) | (rw [decide_eq_false (by omega)]; rfl)

theorem fin1 (l : List Int) (i c n : Int) (k : Nat) (hk : 10 ≤ k) (hl : l.length ≤ maxLen) (h0 : 0 ≤ i) (h1 : i < l.length) (hn : n = if 1 ≤ cls c ∧ cls c ≤ 4 then 1 else 0) :
    bodkinlaw02_WidthWithin.l1 (k + 3) l i c (cls c) n 5 = bodkinlaw02_WidthWithin.l0 k l (i + 1) := by
  have f2 := fun b hb => fin2 l i c n k hk hl h0 h1 hn b hb
  conv => lhs; unfold bodkinlaw02_WidthWithin.l1
  rw [if_neg (by decide)]
  by_cases a : c < 0
  · rw [if_pos a]; refine f2 true ?_
    rcases cls_cases c with ⟨e, hb, _⟩ | ⟨hb, _⟩
    · rw [e]; rfl
    · omega
  rw [if_neg a]
  by_cases b : c > 1114111
  · rw [if_pos b]; refine f2 true ?_
    rcases cls_cases c with ⟨e, hb, _⟩ | ⟨hb, _⟩
    · rw [e]; rfl
    · omega
  rw [if_neg b]
  by_cases d : c ≥ 55296
  · rw [if_pos d]; exact f2 _ (bad_eq c a b d)
  · rw [if_neg d]; refine f2 false ?_
    rcases cls_cases c with ⟨e, hb, _⟩ | ⟨hb, ⟨e, _⟩ | ⟨e, _⟩ | ⟨e, _⟩ | ⟨e, _⟩ | ⟨e, _⟩⟩ <;> first | omega | (rw [e]; rfl)

theorem four (l : List Int) (i c : Int) (k : Nat) (hk : 300 ≤ k) (hl : l.length ≤ maxLen) (h0 : 0 ≤ i) (h1 : i < l.length) : bodkinlaw02_WidthWithin.l1 (k + 7) l i c (cls c) 0 1 = bodkinlaw02_WidthWithin.l0 k l (i + 1) := by
  have r1 : ∀ m, 300 ≤ m → (width_Ranges.f m 1).bind (fun t => bodkinlaw02_held.f m t c) = some (inside tabN c) := fun m hm => by rw [ranges1 m (by omega), Option.bind_some, heldT _ _ _ (by decide) (by omega)]
  have r2 : ∀ m, 300 ≤ m → (width_Ranges.f m 2).bind (fun t => bodkinlaw02_held.f m t c) = some (inside tabC c) := fun m hm => by rw [ranges2 m (by omega), Option.bind_some, heldT _ _ _ (by decide) (by omega)]
  have r3 : ∀ m, 300 ≤ m → (width_Ranges.f m 3).bind (fun t => bodkinlaw02_held.f m t c) = some (inside tabM c) := fun m hm => by rw [ranges3 m (by omega), Option.bind_some, heldT _ _ _ (by decide) (by omega)]
  have r4 : ∀ m, 300 ≤ m → (width_Ranges.f m 4).bind (fun t => bodkinlaw02_held.f m t c) = some (inside tabW c) := fun m hm => by rw [ranges4 m (by omega), Option.bind_some, heldT _ _ _ (by decide) (by omega)]
  have f1 := fun n hn => fin1 l i c n k (by omega) hl h0 h1 hn
  have w1 : wrap64 (0 + 1) = 1 := by unfold wrap64; omega
  have w2 : wrap64 (1 + 1) = 2 := by unfold wrap64; omega
  have w3 : wrap64 (2 + 1) = 3 := by unfold wrap64; omega
  have w4 : wrap64 (3 + 1) = 4 := by unfold wrap64; omega
  have w5 : wrap64 (4 + 1) = 5 := by unfold wrap64; omega
  rcases cls_cases c with ⟨e, _, a, b, d, f⟩ | ⟨_, ⟨e, a, b, d, f⟩ | ⟨e, a, b, d, f⟩ | ⟨e, a, b, d, f⟩ | ⟨e, a, b, d, f⟩ | ⟨e, a, b, d, f⟩⟩
  all_goals
    rw [step l i c (cls c) 0 (k + 6) 1 _ (by decide) (r1 _ (by omega)) (by rw [e, a]; rfl), a]
    simp only [if_true, Bool.false_eq_true, if_false, w1, w2]
    rw [step l i c (cls c) _ (k + 5) 2 _ (by decide) (r2 _ (by omega)) (by rw [e, b]; rfl), b]
    simp only [if_true, Bool.false_eq_true, if_false, w1, w3]
    rw [step l i c (cls c) _ (k + 4) 3 _ (by decide) (r3 _ (by omega)) (by rw [e, d]; rfl), d]
    simp only [if_true, Bool.false_eq_true, if_false, w1, w4]
    rw [step l i c (cls c) _ (k + 3) 4 _ (by decide) (r4 _ (by omega)) (by rw [e, f]; rfl), f]
    simp only [if_true, Bool.false_eq_true, if_false, w1, w5]
    exact f1 _ (by rw [e]; rfl)

theorem loop (l : List Int) (hl : l.length ≤ maxLen) : ∀ (d k : Nat) (i : Int), 0 ≤ i → i ≤ (l.length : Int) → (l.length : Int) - i = (d : Int) → 9 * d + 400 ≤ k → bodkinlaw02_WidthWithin.l0 k l i = some true := by
  intro d
  induction d with
  | zero =>
    intro k i h0 h1 hd hk
    obtain ⟨k, rfl⟩ : ∃ m, k = m + 1 := ⟨k - 1, by omega⟩
    simp only [bodkinlaw02_WidthWithin.l0]
    rw [if_neg (by omega)]
  | succ d ih =>
    intro k i h0 h1 hd hk
    obtain ⟨k, rfl⟩ : ∃ m, k = m + 7 + 1 := ⟨k - 8, by omega⟩
    simp only [bodkinlaw02_WidthWithin.l0]
    rw [if_pos (by omega), if_pos h0, classP _ _ (by omega)]
    simp only [Option.bind_some]
    rw [four l i (rd l i) k (by omega) hl h0 (by omega)]
    exact ih k (i + 1) (by omega) (by omega) (by omega) (by omega)

theorem WidthWithin : bodkinlaw02_WidthWithin.Pure := by
  intro l h _ _
  refine ⟨9 * l.length + 500, ?_⟩
  unfold bodkinlaw02_WidthWithin.f
  rw [awakeP _ (by omega)]
  simp only [Option.bind_some, if_true]
  exact loop l h l.length _ 0 (by omega) (by omega) (by omega) (by omega)

end Go.Proofs.Ytdcbgaikakhadaa.Pure
