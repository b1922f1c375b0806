/- WidthClasses returns true for every list of numbers: each one's class and cells are the document's. No condition. -/
import Derived.Test.YtdcbgaikakhadaaPWidthClassesx3
import Derived.Test.YtdcbgaikakhadaaCore
namespace Go.Proofs.Ytdcbgaikakhadaa.Pure
open Go.RowKit Go.Proofs.Ytdcbgaikakhadaa.PWidthClasses Go.Proofs.YtdcbgaikakhadaaW.PrintWords Go.Proofs.YtdcbgaikakhadaaW.PrintLast

open Go.Proofs.Ytdcbgaikakhadaa.Within Go.Proofs.Ytdcbgaikakhadaa.Core

theorem up {α : Type} (f : Nat → Option α) (h : ∀ k, LeO (f k) (f (k + 1))) (k : Nat) : ∀ d r, f k = some r → f (k + d) = some r
  | 0, _, hr => hr
  | d + 1, r, hr => h _ r (up f h k d r hr)
theorem wM (c : Int) : width_within_rune.f tabM c = some (inside tabM c) := by
  unfold width_within_rune.f
  rw [if_pos (by decide), withinF_eq _ _ okM]
theorem wW (c : Int) : width_within_rune.f tabW c = some (inside tabW c) := by
  unfold width_within_rune.f
  rw [if_pos (by decide), withinF_eq _ _ okW]
theorem marksEq : width_marks.f = some tabM := rfl
theorem widesEq : width_wides.f = some tabW := rfl
theorem j1P (k : Nat) (c : Int) (b : Bool) : width_Class.j1 (k + 1) c b = some (if b = true then 2 else if inside tabM c = true then 3 else if inside tabW c = true then 4 else 0) := by
  simp only [width_Class.j1, marksEq, widesEq, Option.bind_some, wM, wW]
  split
  · rfl
  · split
    · rfl
    · split <;> rfl
theorem j0P (k : Nat) (c : Int) (b : Bool) : width_Class.j0 (k + 2) c b = some (if b = true then 5 else if c = 10 then 1 else if c < 32 ∨ (127 ≤ c ∧ c ≤ 159) then 2 else if inside tabM c = true then 3 else if inside tabW c = true then 4 else 0) := by
  simp only [width_Class.j0, j1P]
  cases b <;> by_cases h1 : c = 10 <;> by_cases h2 : c < 32 <;> by_cases h3 : 127 ≤ c <;> by_cases h4 : c ≤ 159 <;> simp [h1, h2, h3, h4]
theorem classP (k : Nat) (c : Int) (hk : 2 ≤ k) : width_Class.f k c = some (cls c) := by
  obtain ⟨k, rfl⟩ : ∃ m, k = m + 2 := ⟨k - 2, by omega⟩
  simp only [width_Class.f, j0P]
  unfold cls
  by_cases h1 : c < 0 <;> by_cases h2 : 1114111 < c <;> by_cases h3 : 55296 ≤ c <;> by_cases h4 : c ≤ 57343 <;> simp [h1, h2, h3, h4]
theorem cellsP (k : Nat) (c : Int) (hk : 2 ≤ k) : width_Cells.f k c = some (cel c) := by
  simp only [width_Cells.f, classP k c hk, Option.bind_some]
  unfold cel
  by_cases h1 : cls c = 1 <;> by_cases h2 : cls c = 4 <;> by_cases h3 : cls c = 2 <;> by_cases h4 : c ≤ 127 <;> simp [h1, h2, h3, h4]
theorem awakeP (k : Nat) (hk : 100 ≤ k) : bodkinlaw02_awake.f k = some true := by
  obtain ⟨d, rfl⟩ : ∃ d, k = 100 + d := ⟨k - 100, by omega⟩
  exact up _ bodkinlaw02_awake.mono 100 d _ (by decide +kernel)
theorem rd_wf (l : List Int) (i : Int) (h : ∀ x ∈ l, (Lit.int .i32 x).wf = true) : (Lit.int .i32 (rd l i)).wf = true := by
  unfold rd
  rw [List.getD_eq_getElem?_getD]
  by_cases hi : i.toNat < l.length
  · rw [List.getElem?_eq_getElem hi]; exact h _ (List.getElem_mem hi)
  · rw [List.getElem?_eq_none (by omega)]; decide

def sOf (p : Int × Int) : S32 := ⟨p.1, p.2⟩
def textM : ByteArray := ⟨#[51, 48, 48, 32, 51, 54, 70, 44, 32, 52, 56, 51, 32, 52, 56, 57, 44, 32, 53, 57, 49, 32, 53, 66, 68, 44, 32, 53, 66, 70, 32, 53, 66, 70, 44, 32, 53, 67, 49, 32, 53, 67, 50, 44, 32, 54, 49, 48, 32, 54, 49, 65, 44, 32, 54, 52, 66, 32, 54, 53, 70, 44, 32, 54, 55, 48, 32, 54, 55, 48, 44, 32, 54, 68, 54, 32, 54, 68, 67, 44, 32, 57, 48, 48, 32, 57, 48, 50, 44, 32, 57, 51, 67, 32, 57, 51, 67, 44, 32, 57, 52, 68, 32, 57, 52, 68, 44, 32, 69, 51, 49, 32, 69, 51, 49, 44, 32, 69, 51, 52, 32, 69, 51, 65, 44, 32, 69, 52, 55, 32, 69, 52, 69, 44, 32, 49, 51, 53, 68, 32, 49, 51, 53, 70, 44, 32, 49, 65, 66, 48, 32, 49, 65, 70, 70, 44, 32, 49, 68, 67, 48, 32, 49, 68, 70, 70, 44, 32, 50, 48, 48, 67, 32, 50, 48, 48, 68, 44, 32, 50, 48, 68, 48, 32, 50, 48, 70, 70, 44, 32, 51, 48, 50, 65, 32, 51, 48, 50, 70, 44, 32, 51, 48, 57, 57, 32, 51, 48, 57, 65, 44, 32, 70, 69, 48, 48, 32, 70, 69, 48, 70, 44, 32, 70, 69, 50, 48, 32, 70, 69, 50, 70, 44, 32, 49, 70, 51, 70, 66, 32, 49, 70, 51, 70, 70, 44, 32, 69, 48, 49, 48, 48, 32, 69, 48, 49, 69, 70]⟩
def textW : ByteArray := ⟨#[49, 49, 48, 48, 32, 49, 49, 53, 70, 44, 32, 50, 51, 49, 65, 32, 50, 51, 49, 66, 44, 32, 50, 51, 50, 57, 32, 50, 51, 50, 65, 44, 32, 50, 51, 69, 57, 32, 50, 51, 69, 67, 44, 32, 50, 53, 70, 68, 32, 50, 53, 70, 69, 44, 32, 50, 54, 49, 52, 32, 50, 54, 49, 53, 44, 32, 50, 54, 52, 56, 32, 50, 54, 53, 51, 44, 32, 50, 54, 65, 65, 32, 50, 54, 65, 66, 44, 32, 50, 69, 56, 48, 32, 51, 48, 50, 57, 44, 32, 51, 48, 51, 48, 32, 51, 48, 51, 69, 44, 32, 51, 48, 52, 49, 32, 51, 48, 57, 56, 44, 32, 51, 48, 57, 66, 32, 52, 68, 66, 70, 44, 32, 52, 69, 48, 48, 32, 65, 52, 67, 70, 44, 32, 65, 57, 54, 48, 32, 65, 57, 55, 70, 44, 32, 65, 67, 48, 48, 32, 68, 55, 65, 51, 44, 32, 70, 57, 48, 48, 32, 70, 65, 70, 70, 44, 32, 70, 69, 51, 48, 32, 70, 69, 54, 70, 44, 32, 70, 70, 48, 49, 32, 70, 70, 54, 48, 44, 32, 70, 70, 69, 48, 32, 70, 70, 69, 54, 44, 32, 49, 54, 70, 69, 48, 32, 49, 56, 65, 70, 70, 44, 32, 49, 66, 48, 48, 48, 32, 49, 66, 50, 70, 70, 44, 32, 49, 70, 51, 48, 48, 32, 49, 70, 51, 70, 65, 44, 32, 49, 70, 52, 48, 48, 32, 49, 70, 54, 52, 70, 44, 32, 49, 70, 54, 56, 48, 32, 49, 70, 54, 70, 70, 44, 32, 49, 70, 57, 48, 48, 32, 49, 70, 57, 70, 70, 44, 32, 50, 48, 48, 48, 48, 32, 50, 70, 70, 70, 68, 44, 32, 51, 48, 48, 48, 48, 32, 51, 70, 70, 70, 68]⟩
theorem tableM (k : Nat) (h : 1000 ≤ k) : bodkinref02_Table.f k textM = some ((pairs tabM).map sOf) := by
  obtain ⟨d, rfl⟩ : ∃ d, k = 1000 + d := ⟨k - 1000, by omega⟩
  exact up _ (bodkinref02_Table.mono textM) 1000 d _ (by kernel_rfl)
theorem tableW (k : Nat) (h : 1000 ≤ k) : bodkinref02_Table.f k textW = some ((pairs tabW).map sOf) := by
  obtain ⟨d, rfl⟩ : ∃ d, k = 1000 + d := ⟨k - 1000, by omega⟩
  exact up _ (bodkinref02_Table.mono textW) 1000 d _ (by kernel_rfl)
theorem j1D (k : Nat) (c : Int) (b : Bool) : bodkinref02_Class.j1 (k + 1) c b = if b = true then (some 2) else (if c < 768 then (some 0) else ((bodkinref02_Table.f k textM).bind fun t132 => ((bodkinref02_Within.f k t132 c).bind fun t135 => (if t135 = true then (some 3) else ((bodkinref02_Table.f k textW).bind fun t136 => ((bodkinref02_Within.f k t136 c).bind fun t139 => (if t139 = true then (some 4) else (some 0)))))))) := rfl
theorem withinR (l : List S32) (c : Int) (hl : l.length ≤ 1000) : ∀ (d k : Nat) (i : Int), 0 ≤ i → i ≤ (l.length : Int) → (l.length : Int) - i = (d : Int) → d < k →
    bodkinref02_Within.l0 k l c i = some ((l.drop i.toNat).any fun p => decide (p.f0 ≤ c) && decide (c ≤ p.f1)) := by
  intro d
  induction d with
  | zero =>
    intro k i h0 h1 hd hk
    obtain ⟨k, rfl⟩ : ∃ m, k = m + 1 := ⟨k - 1, by omega⟩
    simp only [bodkinref02_Within.l0]
    rw [if_neg (by omega), List.drop_eq_nil_of_le (by omega)]
    rfl
  | succ d ih =>
    intro k i h0 h1 hd hk
    obtain ⟨k, rfl⟩ : ∃ m, k = m + 1 := ⟨k - 1, by omega⟩
    have hlt : i < (l.length : Int) := by omega
    have hn : i.toNat < l.length := by omega
    have hw : wrap64 (i + 1) = i + 1 := by unfold wrap64; omega
    have hrd : rd_T32 l i = l[i.toNat] := by unfold rd_T32; rw [List.getD_eq_getElem?_getD, List.getElem?_eq_getElem hn]; rfl
    have hdrop : l.drop i.toNat = l[i.toNat] :: l.drop (i + 1).toNat := by rw [List.drop_eq_getElem_cons hn]; congr 2; omega
    simp only [bodkinref02_Within.l0]
    rw [if_pos hlt, if_pos h0, hw, ih k (i + 1) (by omega) (by omega) (by omega) (by omega), hrd, hdrop, List.any_cons]
    by_cases a : c ≥ l[i.toNat].f0
    · rw [if_pos a]
      by_cases b : c ≤ l[i.toNat].f1
      · rw [if_pos b, decide_eq_true a, decide_eq_true b]; rfl
      · rw [if_neg b, decide_eq_false b, Bool.and_false, Bool.false_or]
    · rw [if_neg a, decide_eq_false (show ¬ l[i.toNat].f0 ≤ c by omega), Bool.false_and, Bool.false_or]
theorem withinT (l : List Int) (c : Int) (k : Nat) (hl : (pairs l).length ≤ 100) (hk : 200 ≤ k) : bodkinref02_Within.f k ((pairs l).map sOf) c = some (inside l c) := by
  unfold bodkinref02_Within.f
  rw [withinR ((pairs l).map sOf) c (by simp; omega) (pairs l).length k 0 (by omega) (by omega) (by simp) (by omega)]
  simp only [Int.toNat_zero, List.drop_zero, inside, List.any_map]
  rfl
theorem j1R (k : Nat) (c : Int) (b : Bool) (hk : 1000 ≤ k) : bodkinref02_Class.j1 (k + 1) c b = some (if b = true then 2 else if c < 768 then 0 else if inside tabM c = true then 3 else if inside tabW c = true then 4 else 0) := by
  rw [j1D, tableM k hk, tableW k hk]
  simp only [Option.bind_some]
  rw [withinT tabM c k (by decide) (by omega), withinT tabW c k (by decide) (by omega)]
  simp only [Option.bind_some]
  split
  · rfl
  · split
    · rfl
    · split
      · rfl
      · split <;> rfl
theorem j0R (k : Nat) (c : Int) (b : Bool) (hk : 1000 ≤ k) : bodkinref02_Class.j0 (k + 2) c b = some (if b = true then 5 else if c = 10 then 1 else if c < 32 ∨ (127 ≤ c ∧ c ≤ 159) then 2 else if inside tabM c = true then 3 else if inside tabW c = true then 4 else 0) := by
  have key : (if c < 768 then (0 : Int) else if inside tabM c = true then 3 else if inside tabW c = true then 4 else 0) = if inside tabM c = true then 3 else if inside tabW c = true then 4 else 0 := by
    by_cases h : c < 768
    · rw [if_pos h, if_neg (fun hm => by have := inM c hm; omega), if_neg (fun hm => by have := inW c hm; omega)]
    · rw [if_neg h]
  show bodkinref02_Class.j0 (k + 1 + 1) c b = _
  simp only [bodkinref02_Class.j0, j1R k _ _ hk, key]
  by_cases h2 : c < 32
  · have h2' : c ≤ 31 := by omega
    cases b <;> by_cases h1 : c = 10 <;> simp [h1, h2, h2']
  · have h2' : ¬ c ≤ 31 := by omega
    cases b <;> by_cases h1 : c = 10 <;> by_cases h3 : 127 ≤ c <;> by_cases h4 : c ≤ 159 <;> simp [h1, h2, h2', h3, h4]
theorem classR (k : Nat) (c : Int) (hk : 1002 ≤ k) : bodkinref02_Class.f k c = some (cls c) := by
  obtain ⟨k, rfl⟩ : ∃ m, k = m + 2 := ⟨k - 2, by omega⟩
  simp only [bodkinref02_Class.f, j0R k _ _ (by omega)]
  unfold cls
  by_cases h1 : c < 0 <;> by_cases h2 : 1114111 < c <;> by_cases h3 : 55296 ≤ c <;> by_cases h4 : c ≤ 57343 <;> simp [h1, h2, h3, h4]
theorem cellsR (k : Nat) (c : Int) (hk : 1002 ≤ k) : bodkinref02_Cells.f k c = some (cel c) := by
  simp only [bodkinref02_Cells.f, classR k c hk, Option.bind_some]
  unfold cel
  by_cases h1 : cls c = 1 <;> by_cases h2 : cls c = 4 <;> by_cases h3 : cls c = 2 <;> by_cases h4 : c ≤ 127 <;> simp [h1, h2, h3, h4]
theorem loop (l : List Int) (hl : l.length ≤ maxLen) : ∀ (d k : Nat) (i : Int), 0 ≤ i → i ≤ (l.length : Int) → (l.length : Int) - i = (d : Int) → d + 1100 ≤ k → bodkinlaw02_WidthClasses.l0 k l i = some true := by
  unfold maxLen at hl
  intro d
  induction d with
  | zero =>
    intro k i h0 h1 hd hk
    obtain ⟨k, rfl⟩ : ∃ m, k = m + 1 := ⟨k - 1, by omega⟩
    simp only [bodkinlaw02_WidthClasses.l0]
    rw [if_neg (by omega)]
  | succ d ih =>
    intro k i h0 h1 hd hk
    obtain ⟨k, rfl⟩ : ∃ m, k = m + 1 := ⟨k - 1, by omega⟩
    have hw : wrap64 (i + 1) = i + 1 := by unfold wrap64; omega
    simp only [bodkinlaw02_WidthClasses.l0]
    rw [if_pos (by omega), if_pos h0, classP _ _ (by omega), classR _ _ (by omega), cellsP _ _ (by omega), cellsR _ _ (by omega)]
    simp only [Option.bind_some, if_true]
    rw [hw, ih k (i + 1) (by omega) (by omega) (by omega) (by omega)]

theorem WidthClasses : bodkinlaw02_WidthClasses.Pure := by
  intro l h _ _
  refine ⟨l.length + 1200, ?_⟩
  unfold bodkinlaw02_WidthClasses.f
  rw [awakeP _ (by omega)]
  simp only [Option.bind_some, if_true]
  exact loop l h l.length _ 0 (by omega) (by omega) (by omega) (by omega)

end Go.Proofs.Ytdcbgaikakhadaa.Pure
