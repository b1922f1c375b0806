/- WidthRanges returns true for every number of a class: the ranges are the document's, and answers are new memory. No condition. -/
import Derived.Test.YtdcbgaikakhadaaPWidthRangesx5
namespace Go.Proofs.Ytdcbgaikakhadaa.Pure
open Go.RowKit Go.Proofs.Ytdcbgaikakhadaa.PWidthRanges Go.Proofs.YtdcbgaikakhadaaW.PrintWords Go.Proofs.YtdcbgaikakhadaaW.PrintLast

theorem rangesP (a k) (h : a ≠ 1 ∧ a ≠ 2 ∧ a ≠ 3 ∧ a ≠ 4) : width_Ranges.f k a = width_Ranges.f k 0 := by
  unfold width_Ranges.f
  simp only [if_neg h.1, if_neg h.2.1, if_neg h.2.2.1, if_neg h.2.2.2, if_neg (show ¬ (0 : Int) = 1 by decide), if_neg (show ¬ (0 : Int) = 2 by decide), if_neg (show ¬ (0 : Int) = 3 by decide), if_neg (show ¬ (0 : Int) = 4 by decide)]
set_option maxRecDepth 100000 in
theorem rangesR (a k) (h : a ≠ 1 ∧ a ≠ 2 ∧ a ≠ 3 ∧ a ≠ 4) : bodkinref02_Ranges.f k a = bodkinref02_Ranges.f k 0 := by
  unfold bodkinref02_Ranges.f
  simp only [if_neg h.1, if_neg h.2.1, if_neg h.2.2.1, if_neg h.2.2.2, if_neg (show ¬ (0 : Int) = 1 by decide), if_neg (show ¬ (0 : Int) = 2 by decide), if_neg (show ¬ (0 : Int) = 3 by decide), if_neg (show ¬ (0 : Int) = 4 by decide)]
theorem l1_same (a : Int) (h : a ≠ 1 ∧ a ≠ 2 ∧ a ≠ 3 ∧ a ≠ 4) : ∀ k x3 x4 x5 x7, bodkinlaw02_WidthRanges.l1 k a x3 x4 x5 x7 = bodkinlaw02_WidthRanges.l1 k 0 x3 x4 x5 x7
  | 0, _, _, _, _ => rfl
  | k + 1, x3, x4, x5, x7 => by
    simp only [bodkinlaw02_WidthRanges.l1, l1_same a h k, rangesP a k h]
theorem l0_same (a : Int) (h : a ≠ 1 ∧ a ≠ 2 ∧ a ≠ 3 ∧ a ≠ 4) : ∀ k x3 x4 x5 x6, bodkinlaw02_WidthRanges.l0 k a x3 x4 x5 x6 = bodkinlaw02_WidthRanges.l0 k 0 x3 x4 x5 x6
  | 0, _, _, _, _ => rfl
  | k + 1, x3, x4, x5, x6 => by
    simp only [bodkinlaw02_WidthRanges.l0, l0_same a h k, l1_same a h k]
theorem j0_same (a : Int) (h : a ≠ 1 ∧ a ≠ 2 ∧ a ≠ 3 ∧ a ≠ 4) : ∀ k x3 x4 x5 x6, bodkinlaw02_WidthRanges.j0 k a x3 x4 x5 x6 = bodkinlaw02_WidthRanges.j0 k 0 x3 x4 x5 x6
  | 0, _, _, _, _ => rfl
  | k + 1, x3, x4, x5, x6 => by
    simp only [bodkinlaw02_WidthRanges.j0, l0_same a h k]
theorem f_same (a : Int) (k : Nat) (h : a ≠ 1 ∧ a ≠ 2 ∧ a ≠ 3 ∧ a ≠ 4) : bodkinlaw02_WidthRanges.f k a = bodkinlaw02_WidthRanges.f k 0 := by
  unfold bodkinlaw02_WidthRanges.f
  simp only [rangesP a k h, rangesR a k h, j0_same a h k]

theorem WidthRanges : bodkinlaw02_WidthRanges.Pure := by
  intro a _
  refine ⟨3000, ?_⟩
  by_cases h1 : a = 1
  · subst h1; decide +kernel
  by_cases h2 : a = 2
  · subst h2; decide +kernel
  by_cases h3 : a = 3
  · subst h3; decide +kernel
  by_cases h4 : a = 4
  · subst h4; decide +kernel
  rw [f_same a 3000 ⟨h1, h2, h3, h4⟩]
  decide +kernel

end Go.Proofs.Ytdcbgaikakhadaa.Pure
