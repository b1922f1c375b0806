/- The bound of the second form, told of each argument: the letters of its texts are few. -/
import Derived.Test.YtceomobdolkfgaaDoorRows
import Derived.Test.YtceomobdolkfgaaDoorOpen
set_option linter.unusedVariables false
namespace Go.Proofs.YtceomobdolkfgaaDoor.Bulk
open Go.Proofs.YtceomobdolkfgaaDoor
theorem one_le {H : Type} (d : DataW H) : 1 ≤ Rows.uptoBulk d := by
  cases d with
  | lit l => cases l <;> simp [Rows.uptoBulk]
  | _ => simp [Rows.uptoBulk]
theorem part_le {H : Type} {d : DataW H} {l : List (DataW H)} (h : d ∈ l) : Rows.uptoBulk d ≤ Rows.uptoBulkAll l := by
  induction l with
  | nil => cases h
  | cons x l ih =>
    simp only [Rows.uptoBulkAll]
    rcases List.mem_cons.1 h with rfl | h
    · omega
    · have := ih h; omega
theorem bound {H : Type} {l : List (DataW H)} (hk : Rows.uptoSmall H l = true) : Rows.uptoBulkAll l ≤ 1048576 := of_decide_eq_true hk
theorem arg {H : Type} {d : DataW H} {l : List (DataW H)} (hk : Rows.uptoSmall H l = true) (h : d ∈ l) : Rows.uptoBulk d ≤ 1048576 := Nat.le_trans (part_le h) (bound hk)
theorem all_map {H α : Type} (f : α → DataW H) (n : α → Nat) (hn : ∀ u, n u ≤ Rows.uptoBulk (f u)) : ∀ us : List α, (us.map n).sum ≤ Rows.uptoBulkAll (us.map f)
  | [] => by simp
  | u :: us => by
    have := all_map f n hn us
    have := hn u
    simp only [List.map_cons, List.sum_cons, Rows.uptoBulkAll]
    omega
/-- The weights of a slice's elements, together. -/
theorem elems {H α : Type} (f : α → DataW H) (n : α → Nat) (hn : ∀ u, n u ≤ Rows.uptoBulk (f u)) {us : List α} {len : Nat} {d : DataW H} (hl : us.length = len) (h : (len = 0 ∧ d = .nil) ∨ ∃ sp, d = .slice (us.map f) sp) (hd : Rows.uptoBulk d ≤ 1048576) :
    (us.map n).sum ≤ 1048576 := by
  rcases h with ⟨h0, _⟩ | ⟨sp, rfl⟩
  · obtain rfl : us = [] := List.eq_nil_of_length_eq_zero (by omega)
    exact Nat.zero_le _
  · have := all_map f n hn us
    simp only [Rows.uptoBulk] at hd
    omega
theorem str_le {H : Type} (u : ByteArray) : u.size + 1 ≤ Rows.uptoBulk (Opens.strLit (H := H) u) := by
  show u.size + 1 ≤ u.data.toList.length + 1
  rw [Array.length_toList]
  exact Nat.le_refl _
theorem texts {H : Type} {us : List ByteArray} {len : Nat} {d : DataW H} (hl : us.length = len) (h : (len = 0 ∧ d = .nil) ∨ ∃ sp, d = .slice (us.map Opens.strLit) sp) (hd : Rows.uptoBulk d ≤ 1048576) : (us.map fun u => u.size + 1).sum ≤ 1048576 :=
  elems Opens.strLit (fun u => u.size + 1) str_le hl h hd
end Go.Proofs.YtceomobdolkfgaaDoor.Bulk
