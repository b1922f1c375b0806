/- LogBacks, as its row wants it. -/
import Derived.Test.YtkpcnfchhnfpoaaDoorBacksW
set_option linter.unusedVariables false
namespace Go.Proofs.YtkpcnfchhnfpoaaDoor
open Go.RowKit Go.Proofs.YtkpcnfchhnfpoaaDoor.Sep Log
namespace Log
theorem backs_row (W : World) (n : Int) (wn : (Lit.int .i64 n).wf = true) (t : ByteArray) (ht : t.size ≤ 1048576) (A : Option Addr) (l c : Nat) {H : Type} (us : List (GV × DataW H)) (hr : ReadsG W W.heap.size A l (us.map (·.1))) (hc : l ≤ c) (ho : ∀ u ∈ us, gOk W u) (y : l * 24 ≤ reachBytes) (hl : us.length = l) {d : DataW H} (hd : (l = 0 ∧ d = .nil) ∨ ∃ sp, d = .slice (us.map (·.2)) sp) (hb : Rows.uptoBulk d ≤ 1048576) :
    Calls Tryd.prog 5 #[.int .i64 n, .string t, .slice A l c] W fun e W' => e = .returned (.bool true) ∧ Below W.heap.size W W' := by
  refine backs_w W n t A l c _ hr ?_
  have h := bulk_groups hl ho hd hb
  unfold tot
  rw [List.length_map]
  omega
end Log
end Go.Proofs.YtkpcnfchhnfpoaaDoor
