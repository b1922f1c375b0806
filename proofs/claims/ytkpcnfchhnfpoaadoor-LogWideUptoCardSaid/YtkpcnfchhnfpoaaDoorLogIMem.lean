/- A log's memory turned: a group goes from one row to another. -/
import Derived.Test.YtkpcnfchhnfpoaaDoorLogISmall
import Derived.Handy
import Derived.WalkSpells
import Derived.WalkLawsBesides
import Derived.Deep.RegionHeld3
import Derived.LoopTactic
import Derived.BigQuiet
import Derived.IntWalk
import Derived.StillTailTactics
set_option linter.unusedVariables false
namespace Go.Proofs.YtkpcnfchhnfpoaaDoor
open Go.RowKit Go.Proofs.YtkpcnfchhnfpoaaDoorW.PrintWords Go.Proofs.YtkpcnfchhnfpoaaDoor.Sep Log
namespace LogI
theorem blk_new_set (w : World) (q : Addr) (x : Value) (t : TypeId) (cs : Array Value) : Blk ((w.setCell q x).alloc (.cells cs t)) w.heap.size t cs := by
  have h := Blk.new (w.setCell q x) t cs
  rwa [show (w.setCell q x).heap.size = w.heap.size by simp [World.setCell]] at h
theorem below_undrew {w w' : World} (h : Below w.drew.heap.size w.drew w') : Below w.heap.size w w' := ⟨h.os, h.tape, h.output, h.size, h.block⟩
theorem flat_init (init : List Gr) (g : Gr) : ((init ++ [g]).flatMap Gr.cells).take (init.length * 3) = init.flatMap Gr.cells := by
  rw [List.flatMap_append, List.take_append_of_le_length (by rw [flat_glen]; exact Nat.le_refl _), List.take_of_length_le (by rw [flat_glen]; exact Nat.le_refl _)]
theorem flat_push (l : List Gr) (g : Gr) : (l ++ [g]).flatMap Gr.cells = l.flatMap Gr.cells ++ g.cells := by simp
theorem one_g (g : Gr) (A : Option Addr) (n c : Nat) (hv : g.dv = .slice A n c) : ∀ u ∈ g.cells, u.oneCell' = true := by
  intro u hu
  simp [Gr.cells] at hu
  rw [hv] at hu
  rcases hu with rfl | rfl | rfl <;> rfl
theorem reads_g (w : World) (g : Gr) : Reads (w.alloc (.cells #[g.dv, .int .i64 g.ah, .int .i64 g.be] 81)) (w.heap.size + 1) 3 (some ⟨w.heap.size, 0, none⟩) 1 g.cells := by
  have := (OwnS.new w 81 3 1 g.cells rfl (by unfold maxLen; omega)).reads
  simpa [Gr.cells] using this
section
variable {w w' w5 W : World} {p : Nat} {s s' : LS} {S : Nat → Prop} {init : List Gr} {g : Gr} {v5 : Value}
theorem At.build (h : At w p s) (u : Upd (top p s) w w') (hb : Blk w' p 83 s'.cells) (hU : OwnS w' 81 3 s'.uv s'.undo.length (s'.undo.flatMap Gr.cells)) (hR : OwnS w' 81 3 s'.rv s'.redo.length (s'.redo.flatMap Gr.cells))
    (hur : ∀ k, s'.uv.ownBlock = some k → s'.rv.ownBlock ≠ some k) (hg : ∀ g ∈ s'.groups, (∃ g1 ∈ s.groups, g.dv = g1.dv ∧ g.ds = g1.ds) ∨ (g.dv = .slice none 0 0 ∧ g.ds = [])) (hap : (blocks s'.groups).Nodup) : At w' p s' := by
  refine ⟨hb, hU, hR, hur, fun g hgm => ?_, hap⟩
  rcases hg g hgm with ⟨g1, h1, e1, e2⟩ | ⟨e1, e2⟩
  · rw [e1, e2]
    exact h.dKeep u (fun k hk => hk) g1 h1
  · rw [e1, e2]
    exact OwnS.nil _ _ _
theorem Fr.build (hu : ∀ k, s'.uv.ownBlock = some k → s.uv.ownBlock = some k ∨ w.heap.size ≤ k) (hr : ∀ k, s'.rv.ownBlock = some k → s.rv.ownBlock = some k ∨ w.heap.size ≤ k)
    (hg : ∀ g ∈ s'.groups, (∃ g1 ∈ s.groups, g.dv = g1.dv ∧ g.ds = g1.ds) ∨ (g.dv = .slice none 0 0 ∧ g.ds = [])) : Fr w p s s' := by
  rintro k (hk | hk | hk | ⟨g, hgm, hk⟩)
  · exact .inl (.inl hk)
  · exact (hu k hk).imp (fun e => .inr (.inl e)) id
  · exact (hr k hk).imp (fun e => .inr (.inr (.inl e))) id
  · rcases hg g hgm with ⟨g1, h1, e1, e2⟩ | ⟨e1, e2⟩
    · exact .inl (.inr (.inr (.inr ⟨g1, h1, by rw [← e1]; exact hk⟩)))
    · rw [e1] at hk
      cases hk
/-- The newest of undo goes to redo. -/
theorem At.undone (h : At w p s) {A : Option Addr} {c : Nat} (hu : s.undo = init ++ [g]) (hv : s.uv = .slice A (init.length + 1) c) (hW : Upd (fun k => k = p) w W) (hB : Blk W p 83 ({ s with uv := .slice A init.length c } : LS).cells)
    (ho5 : OwnS w5 81 3 v5 (s.redo.length + 1) (s.redo.flatMap Gr.cells ++ g.cells)) (hg5 : W.grownBy w5 s.rv.ownBlock) (hb5 : v5.ownBlock = s.rv.ownBlock ∨ ∀ k, v5.ownBlock = some k → W.heap.size ≤ k) :
    At (w5.setCell ⟨p, 2, none⟩ v5) p { s with uv := .slice A init.length c, rv := v5, undo := init, redo := s.redo ++ [g] } ∧ Upd (foot p s) w (w5.setCell ⟨p, 2, none⟩ v5) ∧ Fr w p s { s with uv := .slice A init.length c, rv := v5, undo := init, redo := s.redo ++ [g] } := by
  have hu5 : Upd (fun k => k = p ∨ s.rv.ownBlock = some k) w w5 := (hW.mono (fun k e => .inl e)).then_ (Upd.grown (S := fun k => s.rv.ownBlock = some k) hg5 (fun k e => e)) (fun k hk => .inl (.inr hk))
  have hB5 : Blk w5 p 83 ({ s with uv := .slice A init.length c } : LS).cells := hB.upd (Upd.grown (S := fun k => s.rv.ownBlock = some k) hg5 (fun k e => e)) h.rp
  have hB6 : Blk (w5.setCell ⟨p, 2, none⟩ v5) p 83 ({ s with uv := .slice A init.length c, rv := v5, undo := init, redo := s.redo ++ [g] } : LS).cells := by (apply Blk.eq_; (focus (repeat' (first | with_reducible exact hB5 | with_reducible apply Blk.drewN | with_reducible apply Blk.drew | with_reducible apply Blk.set_ | with_reducible apply Blk.alloc))); all_goals (simp only [LS.cells, List.setIfInBounds_toArray, List.set_cons_succ, List.set_cons_zero] <;> rfl))
  have hu6 : Upd (fun k => k = p ∨ s.rv.ownBlock = some k) w (w5.setCell ⟨p, 2, none⟩ v5) := hu5.setCell (.inl (.inl rfl)) _
  have hbl : (Value.slice A init.length c).ownBlock = s.uv.ownBlock := by rw [hv]; cases A <;> rfl
  have hU : OwnS w 81 3 (.slice A init.length c) init.length (init.flatMap Gr.cells) := by
    have h1 := h.u
    rw [hv, hu, List.length_append] at h1
    have h2 := OwnS.take h1 init.length (by omega)
    rw [flat_init] at h2
    exact h2
  have hgr : ∀ x ∈ ({ s with uv := .slice A init.length c, rv := v5, undo := init, redo := s.redo ++ [g] } : LS).groups, (∃ g1 ∈ s.groups, x.dv = g1.dv ∧ x.ds = g1.ds) ∨ (x.dv = .slice none 0 0 ∧ x.ds = []) := by
    intro x hx
    refine .inl ⟨x, ?_, rfl, rfl⟩
    unfold LS.groups at hx ⊢
    rw [hu]
    simp at hx ⊢
    rcases hx with rfl | hx | hx | rfl <;> simp_all
  refine ⟨h.build (hu6.mono (fun k hk => hk.elim .inl (fun e => .inr (.inr e)))) hB6 ?_ ?_ ?_ hgr ?_, hu6.mono (fun k hk => hk.elim .inl (fun e => .inr (.inr (.inl e)))), Fr.build ?_ ?_ hgr⟩
  · refine hU.upd hu6 (fun k hk e => ?_)
    rw [hbl] at hk
    rcases e with rfl | e
    · exact h.up hk
    · exact h.ur k hk e
  · show OwnS _ _ _ v5 (s.redo ++ [g]).length ((s.redo ++ [g]).flatMap Gr.cells)
    rw [flat_push, List.length_append]
    exact ho5.keep (fun k hk => Below.heap_setCell _ _ _ _ (fun e => ho5.ne_blk hB5 (by decide) (by rw [hk, e])))
  · intro k hk e
    rw [hbl] at hk
    rcases hb5 with hb | hb
    · exact h.ur k hk (by rw [← hb]; exact e)
    · have h1 := hb k e
      have h2 := h.u.lt k hk
      have h3 := hW.size
      omega
  · refine List.Perm.nodup (l := blocks s.groups) ?_ h.ap
    unfold blocks LS.groups
    rw [hu]
    refine List.Perm.filterMap _ (List.Perm.cons _ ?_)
    show (init ++ [g] ++ s.redo).Perm (init ++ (s.redo ++ [g]))
    rw [List.append_assoc]
    exact List.Perm.append_left init List.perm_append_comm
  · intro k hk
    exact .inl (by rw [← hbl]; exact hk)
  · intro k hk
    rcases hb5 with hb | hb
    · exact .inl (by rw [← hb]; exact hk)
    · exact .inr (Nat.le_trans hW.size (hb k hk))
/-- The newest of redo goes to undo. -/
theorem At.redone (h : At w p s) {A : Option Addr} {c : Nat} (hu : s.redo = init ++ [g]) (hv : s.rv = .slice A (init.length + 1) c) (hW : Upd (fun k => k = p) w W) (hB : Blk W p 83 ({ s with rv := .slice A init.length c } : LS).cells)
    (ho5 : OwnS w5 81 3 v5 (s.undo.length + 1) (s.undo.flatMap Gr.cells ++ g.cells)) (hg5 : W.grownBy w5 s.uv.ownBlock) (hb5 : v5.ownBlock = s.uv.ownBlock ∨ ∀ k, v5.ownBlock = some k → W.heap.size ≤ k) :
    At (w5.setCell ⟨p, 1, none⟩ v5) p { s with rv := .slice A init.length c, uv := v5, redo := init, undo := s.undo ++ [g] } ∧ Upd (foot p s) w (w5.setCell ⟨p, 1, none⟩ v5) ∧ Fr w p s { s with rv := .slice A init.length c, uv := v5, redo := init, undo := s.undo ++ [g] } := by
  have hu5 : Upd (fun k => k = p ∨ s.uv.ownBlock = some k) w w5 := (hW.mono (fun k e => .inl e)).then_ (Upd.grown (S := fun k => s.uv.ownBlock = some k) hg5 (fun k e => e)) (fun k hk => .inl (.inr hk))
  have hB5 : Blk w5 p 83 ({ s with rv := .slice A init.length c } : LS).cells := hB.upd (Upd.grown (S := fun k => s.uv.ownBlock = some k) hg5 (fun k e => e)) h.up
  have hB6 : Blk (w5.setCell ⟨p, 1, none⟩ v5) p 83 ({ s with rv := .slice A init.length c, uv := v5, redo := init, undo := s.undo ++ [g] } : LS).cells := by (apply Blk.eq_; (focus (repeat' (first | with_reducible exact hB5 | with_reducible apply Blk.drewN | with_reducible apply Blk.drew | with_reducible apply Blk.set_ | with_reducible apply Blk.alloc))); all_goals (simp only [LS.cells, List.setIfInBounds_toArray, List.set_cons_succ, List.set_cons_zero] <;> rfl))
  have hu6 : Upd (fun k => k = p ∨ s.uv.ownBlock = some k) w (w5.setCell ⟨p, 1, none⟩ v5) := hu5.setCell (.inl (.inl rfl)) _
  have hbl : (Value.slice A init.length c).ownBlock = s.rv.ownBlock := by rw [hv]; cases A <;> rfl
  have hU : OwnS w 81 3 (.slice A init.length c) init.length (init.flatMap Gr.cells) := by
    have h1 := h.r
    rw [hv, hu, List.length_append] at h1
    have h2 := OwnS.take h1 init.length (by omega)
    rw [flat_init] at h2
    exact h2
  have hgr : ∀ x ∈ ({ s with rv := .slice A init.length c, uv := v5, redo := init, undo := s.undo ++ [g] } : LS).groups, (∃ g1 ∈ s.groups, x.dv = g1.dv ∧ x.ds = g1.ds) ∨ (x.dv = .slice none 0 0 ∧ x.ds = []) := by
    intro x hx
    refine .inl ⟨x, ?_, rfl, rfl⟩
    unfold LS.groups at hx ⊢
    rw [hu]
    simp at hx ⊢
    rcases hx with rfl | hx | rfl | hx <;> simp_all
  refine ⟨h.build (hu6.mono (fun k hk => hk.elim .inl (fun e => .inr (.inl e)))) hB6 ?_ ?_ ?_ hgr ?_, hu6.mono (fun k hk => hk.elim .inl (fun e => .inr (.inl e))), Fr.build ?_ ?_ hgr⟩
  · show OwnS _ _ _ v5 (s.undo ++ [g]).length ((s.undo ++ [g]).flatMap Gr.cells)
    rw [flat_push, List.length_append]
    exact ho5.keep (fun k hk => Below.heap_setCell _ _ _ _ (fun e => ho5.ne_blk hB5 (by decide) (by rw [hk, e])))
  · refine hU.upd hu6 (fun k hk e => ?_)
    rw [hbl] at hk
    rcases e with rfl | e
    · exact h.rp hk
    · exact h.ur k e hk
  · intro k e hk
    have hk : (Value.slice A init.length c).ownBlock = some k := hk
    rw [hbl] at hk
    rcases hb5 with hb | hb
    · exact h.ur k (by rw [← hb]; exact e) hk
    · have h1 := hb k e
      have h2 := h.r.lt k hk
      have h3 := hW.size
      omega
  · refine List.Perm.nodup (l := blocks s.groups) ?_ h.ap
    unfold blocks LS.groups
    rw [hu]
    refine List.Perm.filterMap _ (List.Perm.cons _ ?_)
    show (s.undo ++ (init ++ [g])).Perm (s.undo ++ [g] ++ init)
    rw [List.append_assoc]
    exact List.Perm.append_left s.undo List.perm_append_comm
  · intro k hk
    rcases hb5 with hb | hb
    · exact .inl (by rw [← hb]; exact hk)
    · exact .inr (Nat.le_trans hW.size (hb k hk))
  · intro k hk
    exact .inl (by rw [← hbl]; exact hk)
end
end LogI
end Go.Proofs.YtkpcnfchhnfpoaaDoor
