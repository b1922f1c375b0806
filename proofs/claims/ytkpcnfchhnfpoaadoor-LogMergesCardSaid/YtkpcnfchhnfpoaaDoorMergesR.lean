/- LogMerges, as its row wants it. -/
import Derived.Test.YtkpcnfchhnfpoaaDoorMergesF
import Derived.Test.YtkpcnfchhnfpoaaDoorMergesT
import Derived.Test.YtkpcnfchhnfpoaaDoorArgs
set_option linter.unusedVariables false
namespace Go.Proofs.YtkpcnfchhnfpoaaDoor
open Go.RowKit Go.Proofs.YtkpcnfchhnfpoaaDoor.Sep Log
namespace Log
theorem merges_row (W : World) (t : ByteArray) (ht : t.size ≤ reachBytes) (x : Edit) (hx : x.2.2.size ≤ reachBytes) (y : Edit) (hy : y.2.2.size ≤ reachBytes) :
    Calls Tryd.prog 4 #[.string t, .agg #[.int .i64 x.1, .int .i64 x.2.1, .string x.2.2], .agg #[.int .i64 y.1, .int .i64 y.2.1, .string y.2.2]] W fun e w' => e = .returned (.bool true) ∧ Below W.heap.size W w' := by
  have e : reachBytes = 140737488351232 := by rfl
  rw [e] at ht hx hy
  cases hm : mB (cutD t x) (cutD (apDo t (cutD t x)) y) with
  | true => exact merges_w_t W t x y (by omega) (by omega) (by omega) hm
  | false => exact merges_w_f W t x y (by omega) (by omega) (by omega) hm
end Log
end Go.Proofs.YtkpcnfchhnfpoaaDoor
