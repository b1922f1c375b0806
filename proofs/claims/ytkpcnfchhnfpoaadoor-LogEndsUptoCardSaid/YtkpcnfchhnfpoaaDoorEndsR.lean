/- LogEnds, as its row wants it. -/
import Derived.Test.YtkpcnfchhnfpoaaDoorEndsW
set_option linter.unusedVariables false
namespace Go.Proofs.YtkpcnfchhnfpoaaDoor
open Go.RowKit Go.Proofs.YtkpcnfchhnfpoaaDoor.Sep Log
namespace Log
theorem ends_row (W : World) (A : Option Addr) (l c : Nat) {H : Type} (us : List (OpV × DataW H)) (hr : ReadsO W W.heap.size A l (us.map (·.1))) (hc : l ≤ c) (ho : ∀ u ∈ us, oOk W u) (y : l * 40 ≤ reachBytes) (hl : us.length = l) {d : DataW H} (hd : (l = 0 ∧ d = .nil) ∨ ∃ sp, d = .slice (us.map (·.2)) sp) (hb : Rows.uptoBulk d ≤ 1048576)
    (x : Delta) (hx : i64 x.1) (hs : x.2.1.size ≤ 1048576 ∧ x.2.2.size ≤ 1048576) :
    Calls Tryd.prog 9 #[.slice A l c, dagg x] W fun e W' => e = .returned (.bool true) ∧ Below W.heap.size W W' := by
  refine ends_w W A l c _ hr ?_ x
  have h := bulk_ops hl ho hd hb
  omega
end Log
end Go.Proofs.YtkpcnfchhnfpoaaDoor
