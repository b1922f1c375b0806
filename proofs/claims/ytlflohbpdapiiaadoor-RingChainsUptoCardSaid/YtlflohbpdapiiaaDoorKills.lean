/- cluster.Next at the text 'a', and the document's example. -/
import Derived.Test.YtlflohbpdapiiaaDoorRing2
import Derived.Test.YtlflohbpdapiiaaDoorRef3
set_option linter.unusedVariables false
namespace Go.Proofs.YtlflohbpdapiiaaDoor.Ring
open Go.RowKit Go.Proofs.YtlflohbpdapiiaaDoorW.PrintWords Go.Proofs.YtlflohbpdapiiaaDoor.Sep Go.Proofs.YtlflohbpdapiiaaDoor.Libs

theorem first_a (w : World) : Calls Tryd.prog 51 #[.string ⟨#[97]⟩] w fun e w' => e = .returned (.agg #[.int .i32 97, .int .i64 1]) ∧ Below w.heap.size w w' := by
  have HD := fun o : Obj => Lib.hid (Any.utf8_DecodeRuneInString_ascii decLays ⟨#[97]⟩ 97 (w.alloc o) rfl (by decide))
  go_enter Tryd.func51, Tryd.ntmps51
  go_wp2_with (go_at_call 55; refine (show Calls Tryd.prog 55 _ _ _ from (HD _).out).mono ?_; rintro e w' ⟨rfl, hq⟩; subst hq)
  go_returns
  exact ⟨rfl, (Below.refl _ _).alloc (Nat.le_refl _) _⟩
theorem field65 (w : World) : (Instr.field 65 (.agg #[.int .i32 97, .int .i64 1]) 1).run Tryd.prog w = .ok (.int .i64 1) w := by kernel_rfl
theorem around_a (w : World) : Calls Tryd.prog 44 #[.string ⟨#[97]⟩, .int .i64 0] w fun e w' => e = .returned (.tuple #[.int .i64 0, .int .i64 1]) ∧ Below w.heap.size w w' := by
  go_enter Tryd.func44, Tryd.ntmps44
  go_wp2
  go_loopg [6] 0 (fun k v w' => v = .int .i64 0 ∧ w' = w)
  case atStart => exact ⟨rfl, rfl⟩
  case round =>
   obtain ⟨rfl, rfl⟩ := hrel
   have hfl := field65
   go_wp2_with (go_at_call 51; refine (first_a _).mono ?_; rintro e w' ⟨rfl, hb⟩; have HW := Lib.hid hb; clear hb)
   go_ret2
   exact ⟨rfl, HW.out⟩
theorem next_a1 (w : World) : Calls Tryd.prog 40 #[.string ⟨#[97]⟩, .int .i64 0] w fun e w' => e = .returned (.int .i64 1) ∧ Below w.heap.size w w' := by
  go_enter Tryd.func40, Tryd.ntmps40
  go_wp2_with (go_at_call 44; refine (around_a _).mono ?_; rintro e w' ⟨rfl, hb⟩; have HW := Lib.hid hb; clear hb)
  go_ret
  exact ⟨rfl, HW.out⟩
theorem bound_a (w : World) : Calls Tryd.prog 41 #[.string ⟨#[97]⟩, .int .i64 1] w fun e w' => e = .returned (.bool true) ∧ w = w' := by
  go_enter Tryd.func41, Tryd.ntmps41
  go_wp2
  go_ret
  exact ⟨rfl, rfl⟩
theorem next_a (w : World) : Calls Tryd.prog 27 #[.string ⟨#[97]⟩, .int .i64 0] w fun e w' => e = .returned (.int .i64 1) ∧ Below w.heap.size w w' := by
  go_enter Tryd.func27, Tryd.ntmps27
  go_wp2
  go_loopg [1] 0 (fun k v w' => v = .int .i64 0 ∧ w' = w)
  case atStart => exact ⟨rfl, rfl⟩
  case round =>
   obtain ⟨rfl, rfl⟩ := hrel
   go_wp2_with (first | (go_at_call 40; refine (next_a1 _).mono ?_; rintro e w' ⟨rfl, hb⟩; have HW := Lib.hid hb; clear hb) | (go_at_call 41; refine (bound_a _).mono ?_; rintro e w' ⟨rfl, rfl⟩))
   go_ret
   exact ⟨rfl, HW.out⟩
end Go.Proofs.YtlflohbpdapiiaaDoor.Ring
