/- A log's small methods: what is asked of it, Begin, Clear, close, Resume. -/
import Derived.Test.YtkpcnfchhnfpoaaDoorLogISt
import Derived.Handy
import Derived.WalkSpells
import Derived.WalkLawsBesides
import Derived.Deep.RegionHeld3
import Derived.LoopTactic
import Derived.BigQuiet
import Derived.IntWalk
import Derived.StillTailTactics
set_option linter.unusedVariables false
namespace Go.Proofs.YtkpcnfchhnfpoaaDoor
open Go.RowKit Go.Proofs.YtkpcnfchhnfpoaaDoorW.PrintWords Go.Proofs.YtkpcnfchhnfpoaaDoor.Sep Log
namespace LogI
section
variable {w w' : World} {p : Nat} {s s' : LS} {S : Nat → Prop}
set_option maxHeartbeats 1600000
set_option maxRecDepth 100000
theorem bound_ (h : At w p s) : Calls Tryd.prog 22 #[.pointer (some ⟨p, 0, none⟩)] w fun e w' => e = .returned (.int .i64 (s.bound : Int)) ∧ w = w' := by
  obtain ⟨c0, -⟩ := h.cells
  clear h
  go_enter Tryd.func22, Tryd.ntmps22
  go_wp2
  go_ret
  exact ⟨rfl, rfl⟩
theorem undos (h : At w p s) : Calls Tryd.prog 23 #[.pointer (some ⟨p, 0, none⟩)] w fun e w' => e = .returned (.int .i64 (s.undo.length : Int)) ∧ w = w' := by
  obtain ⟨_, c1, -⟩ := h.cells
  obtain ⟨A, c, hv, _⟩ := h.u.form
  rw [hv] at c1
  clear h
  go_enter Tryd.func23, Tryd.ntmps23
  go_wp2
  go_ret
  exact ⟨rfl, rfl⟩
theorem redos (h : At w p s) : Calls Tryd.prog 24 #[.pointer (some ⟨p, 0, none⟩)] w fun e w' => e = .returned (.int .i64 (s.redo.length : Int)) ∧ w = w' := by
  obtain ⟨_, _, c2, -⟩ := h.cells
  obtain ⟨A, c, hv, _⟩ := h.r.form
  rw [hv] at c2
  clear h
  go_enter Tryd.func24, Tryd.ntmps24
  go_wp2
  go_ret
  exact ⟨rfl, rfl⟩
theorem open_ (h : At w p s) : Calls Tryd.prog 55 #[.pointer (some ⟨p, 0, none⟩)] w fun e w' => e = .returned (.bool s.op) ∧ w = w' := by
  obtain ⟨_, _, _, _, _, _, c6, -⟩ := h.cells
  clear h
  go_enter Tryd.func55, Tryd.ntmps55
  go_wp2
  go_ret
  exact ⟨rfl, rfl⟩
theorem new_ (w : World) (n : Int) : Calls Tryd.prog 20 #[.int .i64 n] w fun e w' => ∃ p s', e = .returned (.pointer (some ⟨p, 0, none⟩)) ∧ At w' p s' ∧ s'.abs = AS.new (min (max n 0) 1000).toNat ∧ (∀ k, foot p s' k → w.heap.size ≤ k) ∧ Below w.heap.size w w' := by
  go_enter Tryd.func20, Tryd.ntmps20
  go_wp2
  go_ret
  have hb : (((min (max n 0) 1000).toNat : Nat) : Int) = min (max n 0) 1000 := by omega
  refine ⟨w.heap.size, ⟨(min (max n 0) 1000).toNat, .slice none 0 0, .slice none 0 0, [], [], g0, false, false, 0⟩, rfl, ⟨?_, OwnS.nil _ _ _, OwnS.nil _ _ _, (fun k h => by cases h), fun g hg => ?_, ?_⟩, rfl, ?_, (Below.refl _ _).alloc (Nat.le_refl _) _⟩
  · unfold LS.cells
    rw [hb]
    exact Blk.new _ _ _
  · simp [LS.groups] at hg
    subst hg
    exact OwnS.nil _ _ _
  · simp [blocks, LS.groups, g0, Value.ownBlock]
  · rintro k (rfl | hk | hk | ⟨g, hg, hk⟩)
    · exact Nat.le_refl _
    · cases hk
    · cases hk
    · simp [LS.groups] at hg
      subst hg
      cases hk
theorem begin_no (h : At w p s) (ho : s.op = true) (x : A) : Calls Tryd.prog 33 #[.pointer (some ⟨p, 0, none⟩), .int .i64 x] w fun e w' => e = .returned (.bool false) ∧ w = w' := by
  obtain ⟨_, _, _, _, _, _, c6, -⟩ := h.cells
  rw [ho] at c6
  clear h ho
  go_enter Tryd.func33, Tryd.ntmps33
  go_wp2
  go_ret
  exact ⟨rfl, rfl⟩
theorem begin_yes (h : At w p s) (ho : s.op = false) (x : A) : Calls Tryd.prog 33 #[.pointer (some ⟨p, 0, none⟩), .int .i64 x] w fun e w' => e = .returned (.bool true) ∧ ∃ s', At w' p s' ∧ s'.abs = s.abs.begin_ zA x ∧ Upd (foot p s) w w' ∧ Fr w p s s' := by
  obtain ⟨c0, c1, c2, c3, n0, n1, c6, c7, c8, cf⟩ := h.cells
  have HA := Lib.hid h
  have HS : Hid (s.abs.begin_ zA x = (⟨s.bound, s.uv, s.rv, s.undo, s.redo, ⟨.slice none 0 0, [], x, zA⟩, true, false, 0⟩ : LS).abs) := Lib.hid (by unfold LS.abs AS.begin_; rw [ho]; rfl)
  rw [ho] at c6
  have hbw := h.blk.lt
  clear h ho
  go_enter Tryd.func33, Tryd.ntmps33
  go_wp2
  go_ret
  refine ⟨rfl, ⟨s.bound, s.uv, s.rv, s.undo, s.redo, ⟨.slice none 0 0, [], x, zA⟩, true, false, 0⟩, ?_, HS.out.symm, ?_, Fr.top rfl rfl rfl rfl (.inr rfl)⟩
  · refine HA.out.top_ ?_ ?_ rfl rfl rfl rfl (.inr ⟨rfl, rfl⟩)
    · (repeat' (first | with_reducible exact Upd.refl _ _ | with_reducible refine Upd.drewN ?_ _ | with_reducible refine Upd.drew ?_ | with_reducible refine Upd.alloc ?_ _ | (with_reducible refine Upd.setCell ?_ ?_ _; rotate_left; first | exact Or.inl rfl | exact Or.inl (foot_p _ _))))
    · (apply Blk.eq_; (focus (repeat' (first | with_reducible exact HA.out.blk | with_reducible apply Blk.drewN | with_reducible apply Blk.drew | with_reducible apply Blk.set_ | with_reducible apply Blk.alloc))); all_goals (simp only [LS.cells, List.setIfInBounds_toArray, List.set_cons_succ, List.set_cons_zero] <;> rfl))
  · (repeat' (first | with_reducible exact Upd.refl _ _ | with_reducible refine Upd.drewN ?_ _ | with_reducible refine Upd.drew ?_ | with_reducible refine Upd.alloc ?_ _ | (with_reducible refine Upd.setCell ?_ ?_ _; rotate_left; first | exact Or.inl rfl | exact Or.inl (foot_p _ _))))
end
end LogI
end Go.Proofs.YtkpcnfchhnfpoaaDoor
