/- A log's close, Clear, Resume. -/
import Derived.Test.YtkpcnfchhnfpoaaDoorLogIMem
import Derived.Handy
import Derived.WalkSpells
import Derived.WalkLawsBesides
import Derived.Deep.RegionHeld3
import Derived.LoopTactic
import Derived.BigQuiet
import Derived.IntWalk
import Derived.StillTailTactics
set_option linter.unusedVariables false
namespace Go.Proofs.YtkpcnfchhnfpoaaDoor
open Go.RowKit Go.Proofs.YtkpcnfchhnfpoaaDoorW.PrintWords Go.Proofs.YtkpcnfchhnfpoaaDoor.Sep Log
namespace LogI
section
variable {w w' W : World} {p : Nat} {s s' : LS} {S : Nat → Prop} {init : List Gr} {g : Gr}
set_option maxHeartbeats 1600000
set_option maxRecDepth 100000
theorem Upd.foot1 (u : Upd (fun k => k = p) w w') : Upd (foot p s) w w' := u.mono (fun k hk => by subst hk; exact foot_p _ _)
theorem Upd.top1 (u : Upd (fun k => k = p) w w') : Upd (top p s) w w' := u.mono (fun k hk => .inl hk)
theorem close_ (h : At w p s) : Calls Tryd.prog 68 #[.pointer (some ⟨p, 0, none⟩)] w fun e w' => e = .returned (.agg #[s.now.dv, .int .i64 s.now.ah, .int .i64 s.now.be]) ∧ Blk w' p 83 ({ s with now := g0, op := false } : LS).cells ∧ Upd (fun k => k = p) w w' := by
  obtain ⟨c0, c1, c2, c3, n0, n1, c6, c7, c8, cf⟩ := h.cells
  have hbw := h.blk.lt
  obtain ⟨A3, cd, hdv, hdl⟩ := (h.d s.now (by simp [LS.groups])).len
  have HB := Lib.hid h.blk
  have HDV := Lib.hid hdv
  rw [hdv] at c3
  generalize hn : s.now = n at *
  obtain ⟨nv, nd, na, ne⟩ := n
  dsimp only at hdv n0 n1 c3 hdl ⊢
  clear h
  have HNW := Lib.hid hn
  subst hdv
  clear hn
  go_enter Tryd.func68, Tryd.ntmps68
  go_wp2
  go_returns
  refine ⟨rfl, ?_, ?_⟩
  · (apply Blk.eq_; (focus (repeat' (first | with_reducible exact HB.out | with_reducible apply Blk.drewN | with_reducible apply Blk.drew | with_reducible apply Blk.set_ | with_reducible apply Blk.alloc))); all_goals (simp only [LS.cells, List.setIfInBounds_toArray, List.set_cons_succ, List.set_cons_zero] <;> rfl))
  · (repeat' (first | with_reducible exact Upd.refl _ _ | with_reducible refine Upd.drewN ?_ _ | with_reducible refine Upd.drew ?_ | with_reducible refine Upd.alloc ?_ _ | (with_reducible refine Upd.setCell ?_ ?_ _; rotate_left; first | exact Or.inl rfl | exact Or.inl (foot_p _ _))))
theorem clear_ (h : At w p s) : Calls Tryd.prog 50 #[.pointer (some ⟨p, 0, none⟩)] w fun e w' => e = .returned (.tuple #[]) ∧ ∃ s', At w' p s' ∧ s'.abs = s.abs.clear ∧ Upd (foot p s) w w' ∧ Fr w p s s' := by
  obtain ⟨c0, c1, c2, c3, n0, n1, c6, c7, c8, cf⟩ := h.cells
  have hbw := h.blk.lt
  have HA := Lib.hid h
  clear h
  go_enter Tryd.func50, Tryd.ntmps50
  go_wp2
  go_returns
  refine ⟨rfl, ⟨s.bound, .slice none 0 0, .slice none 0 0, [], [], g0, false, false, 0⟩, ⟨?_, OwnS.nil _ _ _, OwnS.nil _ _ _, (fun k h => by cases h), fun g hg => ?_, ?_⟩, rfl, Upd.foot1 ?_, ?_⟩
  · (apply Blk.eq_; (focus (repeat' (first | with_reducible exact HA.out.blk | with_reducible apply Blk.drewN | with_reducible apply Blk.drew | with_reducible apply Blk.set_ | with_reducible apply Blk.alloc))); all_goals (simp only [LS.cells, List.setIfInBounds_toArray, List.set_cons_succ, List.set_cons_zero] <;> rfl))
  · simp [LS.groups] at hg
    subst hg
    exact OwnS.nil _ _ _
  · simp [blocks, LS.groups, g0, Value.ownBlock]
  · (repeat' (first | with_reducible exact Upd.refl _ _ | with_reducible refine Upd.drewN ?_ _ | with_reducible refine Upd.drew ?_ | with_reducible refine Upd.alloc ?_ _ | (with_reducible refine Upd.setCell ?_ ?_ _; rotate_left; first | exact Or.inl rfl | exact Or.inl (foot_p _ _))))
  · rintro k (rfl | hk | hk | ⟨g, hg, hk⟩)
    · exact .inl (foot_p _ _)
    · cases hk
    · cases hk
    · simp [LS.groups] at hg
      subst hg
      cases hk
theorem resume_open (h : At w p s) (ho : s.op = true) : Calls Tryd.prog 37 #[.pointer (some ⟨p, 0, none⟩)] w fun e w' => e = .returned (.bool false) ∧ w = w' := by
  obtain ⟨_, _, _, _, _, _, c6, -⟩ := h.cells
  rw [ho] at c6
  clear h ho
  go_enter Tryd.func37, Tryd.ntmps37
  go_wp2
  go_ret
  exact ⟨rfl, rfl⟩
theorem resume_redo (h : At w p s) (ho : s.op = false) (hr : 0 < s.redo.length) : Calls Tryd.prog 37 #[.pointer (some ⟨p, 0, none⟩)] w fun e w' => e = .returned (.bool false) ∧ w = w' := by
  obtain ⟨_, _, c2, _, _, _, c6, -⟩ := h.cells
  obtain ⟨A, c, hv, _⟩ := h.r.form
  rw [hv] at c2
  rw [ho] at c6
  generalize s.redo.length = n at *
  clear h ho hv
  go_enter Tryd.func37, Tryd.ntmps37
  go_wp2
  go_ret
  exact ⟨rfl, rfl⟩
theorem resume_none (h : At w p s) (ho : s.op = false) (hr : s.redo = []) (hu : s.undo = []) : Calls Tryd.prog 37 #[.pointer (some ⟨p, 0, none⟩)] w fun e w' => e = .returned (.bool false) ∧ w = w' := by
  obtain ⟨_, c1, c2, _, _, _, c6, -⟩ := h.cells
  obtain ⟨A, c, hv, _⟩ := h.r.form
  obtain ⟨A', c', hv', _⟩ := h.u.form
  rw [hv, hr] at c2
  rw [hv', hu] at c1
  rw [ho] at c6
  clear h ho hv hv' hr hu
  go_enter Tryd.func37, Tryd.ntmps37
  go_wp2
  go_ret
  exact ⟨rfl, rfl⟩
theorem At.resumed (h : At w p s) (ho : s.op = false) (hu : s.undo = init ++ [g]) (hr : s.redo = []) {A : Option Addr} {c : Nat} (hv : s.uv = .slice A (init.length + 1) c) (u : Upd (fun k => k = p) w w')
    (hb : Blk w' p 83 (⟨s.bound, .slice A init.length c, s.rv, init, s.redo, g, true, true, g.ds.length⟩ : LS).cells) :
    At w' p ⟨s.bound, .slice A init.length c, s.rv, init, s.redo, g, true, true, g.ds.length⟩ ∧ (⟨s.bound, .slice A init.length c, s.rv, init, s.redo, g, true, true, g.ds.length⟩ : LS).abs = s.abs.resume ∧ Upd (foot p s) w w' ∧ Fr w p s ⟨s.bound, .slice A init.length c, s.rv, init, s.redo, g, true, true, g.ds.length⟩ := by
  have hbl : (Value.slice A init.length c).ownBlock = s.uv.ownBlock := by rw [hv]; cases A <;> rfl
  have hU : OwnS w 81 3 (.slice A init.length c) init.length (init.flatMap Gr.cells) := by
    have h1 := h.u
    rw [hv, hu, List.length_append] at h1
    have h2 := OwnS.take h1 init.length (by omega)
    rw [flat_init] at h2
    exact h2
  have hgr : ∀ x ∈ (⟨s.bound, .slice A init.length c, s.rv, init, s.redo, g, true, true, g.ds.length⟩ : LS).groups, (∃ g1 ∈ s.groups, x.dv = g1.dv ∧ x.ds = g1.ds) ∨ (x.dv = .slice none 0 0 ∧ x.ds = []) := by
    intro x hx
    refine .inl ⟨x, ?_, rfl, rfl⟩
    unfold LS.groups at hx ⊢
    rw [hu, hr]
    rw [hr] at hx
    simp at hx ⊢
    rcases hx with rfl | hx <;> simp_all
  refine ⟨h.build (Upd.top1 u) hb (hU.upd u (fun k hk e => ?_)) (h.r.upd u (fun k hk e => h.rp (by rw [← e]; exact hk))) ?_ hgr ?_, ?_, Upd.foot1 u, Fr.build ?_ (fun k hk => .inl hk) hgr⟩
  · rw [hbl, e] at hk
    exact h.up hk
  · intro k hk
    rw [hbl] at hk
    exact h.ur k hk
  · have h1 := h.ap
    unfold blocks LS.groups at h1 ⊢
    rw [hu, hr] at h1
    rw [hr]
    refine List.Perm.nodup (l := List.filterMap (fun g => g.dv.ownBlock) (init ++ [g])) (List.Perm.filterMap _ ?_) ?_
    · simp
    · rw [List.filterMap_cons] at h1
      simp only [List.append_nil] at h1
      split at h1
      · exact h1
      · exact (List.nodup_cons.1 h1).2
  · unfold LS.abs AS.resume AS.resumeG
    simp [ho, hu, hr, Gr.abs]
  · intro k hk
    exact .inl (by rw [← hbl]; exact hk)
theorem resume_yes (h : At w p s) (ho : s.op = false) (init : List Gr) (g : Gr) (hu : s.undo = init ++ [g]) (hr : s.redo = []) (hm : init.length ≤ 2000) :
    Calls Tryd.prog 37 #[.pointer (some ⟨p, 0, none⟩)] w fun e w' => e = .returned (.bool true) ∧ ∃ s', At w' p s' ∧ s'.abs = s.abs.resume ∧ Upd (foot p s) w w' ∧ Fr w p s s' := by
  obtain ⟨c0, c1, c2, c3, n0, n1, c6, c7, c8, cf⟩ := h.cells
  have hgm : g ∈ s.groups := by simp [LS.groups, hu]
  obtain ⟨A3, cd, hdv, hdl⟩ := (h.d g hgm).len
  obtain ⟨gb, off, c, hv, hl, hc⟩ := h.u.some_ (by rw [hu]; simp)
  obtain ⟨A2, cr, hrv, hrl⟩ := h.r.form
  have hne : gb ≠ p := fun e => h.up (by rw [hv, e]; rfl)
  have hgw : gb < w.heap.size := h.u.lt gb (by rw [hv]; rfl)
  have hpw := h.blk.lt
  have hul : s.undo.length = init.length + 1 := by rw [hu]; simp
  have k0 := hc _ _ (by rw [hu]; exact flat_last init g 0 _ rfl)
  rw [Nat.add_zero] at k0
  have k1 := hc _ _ (by rw [hu]; exact flat_last init g 1 _ rfl)
  rw [← Nat.add_assoc] at k1
  have k2 := hc _ _ (by rw [hu]; exact flat_last init g 2 _ rfl)
  rw [← Nat.add_assoc] at k2
  rw [hul] at hv hl
  rw [hv] at c1
  rw [hrv, hr] at c2
  rw [ho] at c6
  have HFIN : Hid (∀ w', _ → _ → _) := Lib.hid (fun w' => At.resumed (w' := w') h ho hu hr hv)
  have HA := Lib.hid h
  obtain ⟨gv, gd, ga, ge⟩ := g
  dsimp only at hdv k0 k1 k2 HFIN ⊢
  subst hdv
  clear h ho hu hr hv hgm hul hc
  generalize init.length = m at *
  have z1 : IntKind.i64.wrap (((m + 1 : Nat) : Int) - 1) = (m : Int) := by rw [IntKind.wrap_i64]; omega
  go_enter Tryd.func37, Tryd.ntmps37
  go_wp2
  go_ret
  refine ⟨rfl, _, HFIN.out _ ?_ ?_⟩
  · (repeat' (first | with_reducible exact Upd.refl _ _ | with_reducible refine Upd.drewN ?_ _ | with_reducible refine Upd.drew ?_ | with_reducible refine Upd.alloc ?_ _ | (with_reducible refine Upd.setCell ?_ ?_ _; rotate_left; first | exact Or.inl rfl | exact Or.inl (foot_p _ _))))
  · (apply Blk.eq_; (focus (repeat' (first | with_reducible exact HA.out.blk | with_reducible apply Blk.drewN | with_reducible apply Blk.drew | with_reducible apply Blk.set_ | with_reducible apply Blk.alloc))); all_goals (simp only [LS.cells, List.setIfInBounds_toArray, List.set_cons_succ, List.set_cons_zero] <;> rfl))
end
end LogI
end Go.Proofs.YtkpcnfchhnfpoaaDoor
