/- WidthTables returns true: in each table the ranges rise and leave a gap, and at their ends the classes change. No condition. -/
import Derived.Test.YtdcbgaikakhadaaPWidthTablesx3
namespace Go.Proofs.Ytdcbgaikakhadaa.Pure
open Go.RowKit Go.Proofs.Ytdcbgaikakhadaa.PWidthTables Go.Proofs.YtdcbgaikakhadaaW.PrintWords Go.Proofs.YtdcbgaikakhadaaW.PrintLast

/-- YOURS: ∃ k, bodkinlaw02_WidthTables.f k  = some true
What it reaches (each with k first where it has rounds; `.mono`: more rounds tell the same; `.l0`, ..: its loops, with `.mono_l`): sort_Search.f, width_within_rune.f, width_marks.f, width_wides.f, width_Class.f, width_Cells.f, bodkinlaw02_awake.f, width_Ranges.f, bodkinlaw02_WidthTables.f -/
theorem WidthTables : bodkinlaw02_WidthTables.Pure := by
  exact ⟨3000, by decide +kernel⟩

end Go.Proofs.Ytdcbgaikakhadaa.Pure
