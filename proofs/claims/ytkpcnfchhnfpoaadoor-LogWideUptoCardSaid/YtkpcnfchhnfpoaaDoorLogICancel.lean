/- A log's Cancel. -/
import Derived.Test.YtkpcnfchhnfpoaaDoorLogICommit
import Derived.Test.YtkpcnfchhnfpoaaDoorLogIRedo
import Derived.Handy
import Derived.WalkSpells
import Derived.WalkLawsBesides
import Derived.Deep.RegionHeld3
import Derived.LoopTactic
import Derived.BigQuiet
import Derived.IntWalk
import Derived.StillTailTactics
set_option linter.unusedVariables false
namespace Go.Proofs.YtkpcnfchhnfpoaaDoor
open Go.RowKit Go.Proofs.YtkpcnfchhnfpoaaDoorW.PrintWords Go.Proofs.YtkpcnfchhnfpoaaDoor.Sep Log
namespace LogI
section
variable {w w' w1 w5 W : World} {p : Nat} {s s' : LS} {S : Nat → Prop} {init : List Gr} {g : Gr} {v5 : Value}
set_option maxHeartbeats 3200000
set_option maxRecDepth 100000
theorem cancel_no (h : At w p s) (ho : s.op = false) : Calls Tryd.prog 46 #[.pointer (some ⟨p, 0, none⟩)] w fun e w' => e = .returned (.tuple #[.slice none 0 0, .bool false]) ∧ w = w' := by
  obtain ⟨_, _, _, _, _, _, c6, -⟩ := h.cells
  rw [ho] at c6
  clear h ho
  go_enter Tryd.func46, Tryd.ntmps46
  go_wp2
  go_ret2
  exact ⟨rfl, rfl⟩
theorem flat_take : ∀ (ds : List Delta) (n : Nat), (ds.flatMap dcells).take (n * 3) = (ds.take n).flatMap dcells
  | [], n => by simp
  | d :: ds, 0 => by simp
  | d :: ds, n + 1 => by
    rw [List.flatMap_cons, List.take_succ_cons, List.flatMap_cons, ← flat_take ds n, show (n + 1) * 3 = 3 + n * 3 by omega]
    exact List.take_length_add_append (l₁ := dcells d) (n * 3)
theorem flat_drop : ∀ (ds : List Delta) (n : Nat), (ds.flatMap dcells).drop (n * 3) = (ds.drop n).flatMap dcells
  | [], n => by simp
  | d :: ds, 0 => by simp
  | d :: ds, n + 1 => by
    rw [List.flatMap_cons, List.drop_succ_cons, ← flat_drop ds n, show (n + 1) * 3 = 3 + n * 3 by omega]
    exact List.drop_length_add_append (l₁ := dcells d) (n * 3)
/-- What was cancelled goes back to undo, cut off. -/
def LS.back (s : LS) (v5 : Value) (A3 : Option Addr) : LS := { s with now := g0, op := false, uv := v5, undo := s.undo ++ [⟨.slice A3 s.fst s.fst, s.now.ds.take s.fst, s.now.ah, s.now.be⟩] }
theorem At.cancelled (h : At w p s) {A3 : Option Addr} {cd : Nat} (hdv : s.now.dv = .slice A3 s.now.ds.length cd) (hf : s.fst ≤ s.now.ds.length) (hW : Upd (fun k => k = p) w W)
    (hB : Blk W p 83 ({ s with now := g0, op := false } : LS).cells)
    (ho5 : OwnS w5 81 3 v5 (s.undo.length + 1) (s.undo.flatMap Gr.cells ++ (⟨.slice A3 s.fst s.fst, s.now.ds.take s.fst, s.now.ah, s.now.be⟩ : Gr).cells)) (hg5 : W.grownBy w5 s.uv.ownBlock) (hb5 : v5.ownBlock = s.uv.ownBlock ∨ ∀ k, v5.ownBlock = some k → W.heap.size ≤ k) :
    At (w5.setCell ⟨p, 1, none⟩ v5) p (s.back v5 A3) ∧ Upd (top p s) w (w5.setCell ⟨p, 1, none⟩ v5) ∧ Fr w p s (s.back v5 A3) ∧ ∀ k, foot p (s.back v5 A3) k → foot p s k ∨ W.heap.size ≤ k := by
  have hnm : s.now ∈ s.groups := by simp [LS.groups]
  have hu5 : Upd (fun k => k = p ∨ s.uv.ownBlock = some k) w w5 := (hW.mono (fun k e => .inl e)).then_ (Upd.grown (S := fun k => s.uv.ownBlock = some k) hg5 (fun k e => e)) (fun k hk => .inl (.inr hk))
  have hB5 : Blk w5 p 83 ({ s with now := g0, op := false } : LS).cells := hB.upd (Upd.grown (S := fun k => s.uv.ownBlock = some k) hg5 (fun k e => e)) h.up
  have hB6 : Blk (w5.setCell ⟨p, 1, none⟩ v5) p 83 (s.back v5 A3).cells := by
    unfold LS.back
    (apply Blk.eq_; (focus (repeat' (first | with_reducible exact hB5 | with_reducible apply Blk.drewN | with_reducible apply Blk.drew | with_reducible apply Blk.set_ | with_reducible apply Blk.alloc))); all_goals (simp only [LS.cells, List.setIfInBounds_toArray, List.set_cons_succ, List.set_cons_zero] <;> rfl))
  have hu6 : Upd (fun k => k = p ∨ s.uv.ownBlock = some k) w (w5.setCell ⟨p, 1, none⟩ v5) := hu5.setCell (.inl (.inl rfl)) _
  have hut : Upd (top p s) w (w5.setCell ⟨p, 1, none⟩ v5) := hu6.mono (fun k hk => hk.elim .inl (fun e => .inr (.inl e)))
  have hbl : (Value.slice A3 s.fst s.fst).ownBlock = s.now.dv.ownBlock := by rw [hdv]; cases A3 <;> rfl
  have hgrp : (s.back v5 A3).groups = g0 :: (s.undo ++ [⟨.slice A3 s.fst s.fst, s.now.ds.take s.fst, s.now.ah, s.now.be⟩] ++ s.redo) := rfl
  have hD := h.dKeep hut (fun k hk => hk)
  have hfo : ∀ k, foot p (s.back v5 A3) k → foot p s k ∨ W.heap.size ≤ k := by
    rintro k (hk | hk | hk | ⟨g, hg, hk⟩)
    · exact .inl (.inl hk)
    · rcases hb5 with hb | hb
      · exact .inl (.inr (.inl (by rw [← hb]; exact hk)))
      · exact .inr (hb k hk)
    · exact .inl (.inr (.inr (.inl hk)))
    · rw [hgrp] at hg
      simp only [List.mem_cons, List.mem_append, List.not_mem_nil, or_false] at hg
      rcases hg with rfl | (hg | rfl) | hg
      · cases hk
      · exact .inl (.inr (.inr (.inr ⟨g, by simp [LS.groups, hg], hk⟩)))
      · exact .inl (.inr (.inr (.inr ⟨s.now, hnm, by rw [← hbl]; exact hk⟩)))
      · exact .inl (.inr (.inr (.inr ⟨g, by simp [LS.groups, hg], hk⟩)))
  refine ⟨⟨hB6, ?_, ?_, fun k hk => ?_, fun g hg => ?_, ?_⟩, hut, fun k hk => (hfo k hk).imp id (fun e => Nat.le_trans hW.size e), hfo⟩
  · show OwnS _ _ _ v5 (s.undo ++ [_]).length ((s.undo ++ [_]).flatMap Gr.cells)
    rw [flat_push, List.length_append]
    exact ho5.keep (fun k hk => Below.heap_setCell _ _ _ _ (fun e => ho5.ne_blk hB5 (by decide) (by rw [hk, e])))
  · refine h.r.upd hu6 (fun k hk e => ?_)
    rcases e with rfl | e
    · exact h.rp hk
    · exact h.ur k e hk
  · intro hr
    rcases hb5 with hb | hb
    · exact h.ur k (by rw [← hb]; exact hk) hr
    · have h1 := hb k hk
      have h2 := h.r.lt k hr
      have h3 := hW.size
      omega
  · rw [hgrp] at hg
    simp only [List.mem_cons, List.mem_append, List.not_mem_nil, or_false] at hg
    rcases hg with rfl | (hg | rfl) | hg
    · exact OwnS.nil _ _ _
    · exact hD g (by simp [LS.groups, hg])
    · have h1 := hD s.now hnm
      unfold OwnD at h1 ⊢
      rw [hdv] at h1
      have h2 := OwnS.clip h1 s.fst hf
      dsimp only
      rw [List.length_take, Nat.min_eq_left hf]
      have h3 : (s.now.ds.flatMap dcells).take (s.fst * 3) = (s.now.ds.take s.fst).flatMap dcells := flat_take _ _
      rw [h3] at h2
      exact h2
    · exact hD g (by simp [LS.groups, hg])
  · rw [hgrp]
    have h1 := h.ap
    unfold blocks LS.groups at h1
    unfold blocks
    rw [List.filterMap_cons]
    simp only [g0, Value.ownBlock]
    have h3 : (List.filterMap (fun g : Gr => g.dv.ownBlock) ((⟨.slice A3 s.fst s.fst, s.now.ds.take s.fst, s.now.ah, s.now.be⟩ : Gr) :: (s.undo ++ s.redo))).Nodup := by
      rw [List.filterMap_cons] at h1 ⊢
      rw [hbl]
      exact h1
    refine List.Perm.nodup (List.Perm.filterMap _ ?_) h3
    rw [List.append_assoc, List.singleton_append]
    exact List.perm_middle.symm
end
end LogI
end Go.Proofs.YtkpcnfchhnfpoaaDoor
