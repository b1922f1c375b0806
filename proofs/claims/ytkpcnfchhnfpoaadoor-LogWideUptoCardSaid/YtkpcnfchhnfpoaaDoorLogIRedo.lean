/- A log's Redo. -/
import Derived.Test.YtkpcnfchhnfpoaaDoorLogIUndo
import Derived.Handy
import Derived.WalkSpells
import Derived.WalkLawsBesides
import Derived.Deep.RegionHeld3
import Derived.LoopTactic
import Derived.BigQuiet
import Derived.IntWalk
import Derived.StillTailTactics
set_option linter.unusedVariables false
namespace Go.Proofs.YtkpcnfchhnfpoaaDoor
open Go.RowKit Go.Proofs.YtkpcnfchhnfpoaaDoorW.PrintWords Go.Proofs.YtkpcnfchhnfpoaaDoor.Sep Log
namespace LogI
section
variable {w w' : World} {p : Nat} {s s' : LS} {S : Nat → Prop}
set_option maxHeartbeats 3200000
set_option maxRecDepth 100000
theorem redo_open (h : At w p s) (ho : s.op = true) : Calls Tryd.prog 26 #[.pointer (some ⟨p, 0, none⟩)] w fun e w' => e = .returned (.tuple #[.slice none 0 0, .int .i64 zA, .int .i64 4]) ∧ w = w' := by
  obtain ⟨_, _, _, _, _, _, c6, -⟩ := h.cells
  rw [ho] at c6
  clear h ho
  go_enter Tryd.func26, Tryd.ntmps26
  go_wp2
  go_ret3
  exact ⟨rfl, rfl⟩
theorem redo_none (h : At w p s) (ho : s.op = false) (hu : s.redo = []) : Calls Tryd.prog 26 #[.pointer (some ⟨p, 0, none⟩)] w fun e w' => e = .returned (.tuple #[.slice none 0 0, .int .i64 zA, .int .i64 4]) ∧ w = w' := by
  obtain ⟨_, _, c1, _, _, _, c6, -⟩ := h.cells
  obtain ⟨A, c, hv, _⟩ := h.r.form
  rw [hu] at hv
  rw [hv] at c1
  rw [ho] at c6
  clear h ho hu hv
  go_enter Tryd.func26, Tryd.ntmps26
  go_wp2
  go_ret3
  exact ⟨rfl, rfl⟩
theorem redo_some (h : At w p s) (ho : s.op = false) (init : List Gr) (g : Gr) (hu : s.redo = init ++ [g]) (hn : s.undo.length ≤ 2000) (hm : init.length ≤ 2000) (hN : g.ds.length ≤ 1000000000000) :
    Calls Tryd.prog 26 #[.pointer (some ⟨p, 0, none⟩)] w fun e w' => ∃ v s', e = .returned (.tuple #[v, .int .i64 g.be, .int .i64 0]) ∧ OwnD w' v g.ds ∧ (∀ k, v.ownBlock = some k → w.heap.size ≤ k ∧ ¬ foot p s' k) ∧ At w' p s' ∧ s'.abs = s.abs.redo_ ∧ Upd (foot p s) w w' ∧ Fr w p s s' := by
  obtain ⟨i0, hi0, hz0, hz1, hz2⟩ := info_parts info_g
  obtain ⟨c0, c1, c2, c3, n0, n1, c6, c7, c8, cf⟩ := h.cells
  have hgm : g ∈ s.groups := by simp [LS.groups, hu]
  obtain ⟨A3, cd, hdv, hdl⟩ := (h.d g hgm).len
  have hDR : OwnD w g.dv g.ds := h.d g hgm
  have hdlt := OwnS.lt (h.d g hgm)
  have hdnt := fun k hk => h.notTop hgm (k := k) hk
  obtain ⟨gb, off, c, hv, hl, hc⟩ := h.r.some_ (by rw [hu]; simp)
  obtain ⟨A2, cr, hrv, hrl⟩ := h.u.form
  have hne : gb ≠ p := fun e => h.rp (by rw [hv, e]; rfl)
  have hgw : gb < w.heap.size := h.r.lt gb (by rw [hv]; rfl)
  have hpw := h.blk.lt
  have hrp := h.up
  have hul : s.redo.length = init.length + 1 := by rw [hu]; simp
  have HABS : Hid (∀ (x y : Value), (⟨s.bound, x, y, s.undo ++ [g], init, s.now, s.op, s.res, s.fst⟩ : LS).abs = s.abs.redo_) := Lib.hid (fun x y => by
    unfold AS.redo_ AS.redoG LS.abs
    simp [ho, hu])
  have k0 := hc _ _ (by rw [hu]; exact flat_last init g 0 _ rfl)
  rw [Nat.add_zero] at k0
  have k1 := hc _ _ (by rw [hu]; exact flat_last init g 1 _ rfl)
  rw [← Nat.add_assoc] at k1
  have k2 := hc _ _ (by rw [hu]; exact flat_last init g 2 _ rfl)
  rw [← Nat.add_assoc] at k2
  rw [hul] at hv hl
  rw [hv] at c2
  rw [ho] at c6
  have HA := Lib.hid h
  have HU := Lib.hid hu
  have HV := Lib.hid hv
  obtain ⟨gv, gd, ga, ge⟩ := g
  dsimp only at hdv hDR hdlt hdnt hN k0 k1 k2 ⊢
  subst hdv
  have HDT := Lib.hid hdnt
  have HDL := Lib.hid hdlt
  have HRV := Lib.hid hrv
  have hWu : Upd (fun k => k = p) w (((w.setCell ⟨p, 2, none⟩ (.slice (some ⟨gb, off, none⟩) init.length c)).alloc (.cells #[(.slice A3 gd.length cd), .int .i64 ga, .int .i64 ge] 81)).alloc (.cells #[(.slice A3 gd.length cd), .int .i64 ga, .int .i64 ge] 81)).drew := by (repeat' (first | with_reducible exact Upd.refl _ _ | with_reducible refine Upd.drewN ?_ _ | with_reducible refine Upd.drew ?_ | with_reducible refine Upd.alloc ?_ _ | (with_reducible refine Upd.setCell ?_ ?_ _; rotate_left; first | exact Or.inl rfl | exact Or.inl (foot_p _ _))))
  have hBu : Blk (((w.setCell ⟨p, 2, none⟩ (.slice (some ⟨gb, off, none⟩) init.length c)).alloc (.cells #[(.slice A3 gd.length cd), .int .i64 ga, .int .i64 ge] 81)).alloc (.cells #[(.slice A3 gd.length cd), .int .i64 ga, .int .i64 ge] 81)).drew p 83 ({ s with rv := .slice (some ⟨gb, off, none⟩) init.length c } : LS).cells := by (apply Blk.eq_; (focus (repeat' (first | with_reducible exact HA.out.blk | with_reducible apply Blk.drewN | with_reducible apply Blk.drew | with_reducible apply Blk.set_ | with_reducible apply Blk.alloc))); all_goals (simp only [LS.cells, List.setIfInBounds_toArray, List.set_cons_succ, List.set_cons_zero] <;> rfl))
  have hBg : Blk (((w.setCell ⟨p, 2, none⟩ (.slice (some ⟨gb, off, none⟩) init.length c)).alloc (.cells #[(.slice A3 gd.length cd), .int .i64 ga, .int .i64 ge] 81)).alloc (.cells #[(.slice A3 gd.length cd), .int .i64 ga, .int .i64 ge] 81)).drew w.heap.size 81 #[(.slice A3 gd.length cd), .int .i64 ga, .int .i64 ge] := (blk_new_set w _ _ _ _).alloc _
  have hB1 : Blk ((w.setCell ⟨p, 2, none⟩ (.slice (some ⟨gb, off, none⟩) init.length c)).alloc (.cells #[(.slice A3 gd.length cd), .int .i64 ga, .int .i64 ge] 81)) p 83 ({ s with rv := .slice (some ⟨gb, off, none⟩) init.length c } : LS).cells := by (apply Blk.eq_; (focus (repeat' (first | with_reducible exact HA.out.blk | with_reducible apply Blk.drewN | with_reducible apply Blk.drew | with_reducible apply Blk.set_ | with_reducible apply Blk.alloc))); all_goals (simp only [LS.cells, List.setIfInBounds_toArray, List.set_cons_succ, List.set_cons_zero] <;> rfl))
  have hB2 : Blk ((w.setCell ⟨p, 2, none⟩ (.slice (some ⟨gb, off, none⟩) init.length c)).alloc (.cells #[(.slice A3 gd.length cd), .int .i64 ga, .int .i64 ge] 81)) w.heap.size 81 #[(.slice A3 gd.length cd), .int .i64 ga, .int .i64 ge] := blk_new_set w _ _ _ _
  have d2 := hB1.cell 1
  have df := hB1.frozen
  have m0 := hB2.cell 0
  have m1 := hB2.cell 1
  have m2 := hB2.cell 2
  simp only [LS.cells, List.getElem?_toArray, List.getElem?_cons_succ, List.getElem?_cons_zero] at d2 m0 m1 m2
  rw [hrv] at d2
  clear hB1 hB2
  have HOr := Lib.hid (h.u.upd hWu (fun k hk e => hrp (by rw [← e]; exact hk)))
  have hrn := reads_g ((w.setCell ⟨p, 2, none⟩ (.slice (some ⟨gb, off, none⟩) init.length c)).alloc (.cells #[(.slice A3 gd.length cd), .int .i64 ga, .int .i64 ge] 81)) ⟨(.slice A3 gd.length cd), gd, ga, ge⟩
  rw [show ((w.setCell ⟨p, 2, none⟩ (.slice (some ⟨gb, off, none⟩) init.length c)).alloc (.cells #[(.slice A3 gd.length cd), .int .i64 ga, .int .i64 ge] 81)).heap.size = w.heap.size + 1 by simp [World.setCell]] at hrn
  have HRn := Lib.hid (Reads.drew hrn)
  clear hrn
  have HC1 := Lib.hid (one_g ⟨(.slice A3 gd.length cd), gd, ga, ge⟩ _ _ _ rfl)
  have HFIN : Hid (∀ v5 w5, _ → _ → _ → _) := Lib.hid (fun v5 w5 => At.redone (v5 := v5) (w5 := w5) h hu hv hWu hBu)
  have HWu := Lib.hid hWu
  have HBu := Lib.hid hBu
  have HBg := Lib.hid hBg
  have HDR := Lib.hid hDR
  have HRP := Lib.hid hrp
  have HRL := Lib.hid h.u.lt
  rw [hrv] at c1 HOr HFIN
  generalize hgm2 : init.length = m at *
  have HM := Lib.hid hgm2
  obtain ⟨n2, hn2⟩ : ∃ n2, n2 = s.undo.length := ⟨_, rfl⟩
  rw [← hn2] at c1 HOr d2
  have HN2 := Lib.hid hn2
  have hn3 : n2 ≤ 2000 := by omega
  have z1 : IntKind.i64.wrap (((m + 1 : Nat) : Int) - 1) = (m : Int) := by rw [IntKind.wrap_i64]; omega
  clear h ho hu hv hrv hWu hBu hBg hDR hrp hgm hdnt hdlt hul hgm2 hn2 hn hc
  go_enter Tryd.func26, Tryd.ntmps26
  go_wp2
  go_region_law (first
    | (refine step_append_s (v := .slice A2 n2 cr) (by rfl) _ _ _ (by rfl) Tryd.underlying79 hi0 hz0 hz1 hz2 rfl (by omega) (by rfl) HOr.out (by rfl) HRn.out HC1.out (by unfold maxLen; omega) (by omega) ?_; intro v5 w5 ho5 hg5 hb5; have HO5 := Lib.hid ho5; have HG5 := Lib.hid hg5; have HB5 := Lib.hid hb5; have hGu := Upd.grown (S := fun k => (Value.slice A2 n2 cr).ownBlock = some k) HG5.out (fun k e => e); have hb6 := HBu.out.upd hGu (fun e => HRP.out (by rw [HRV.out, ← HN2.out]; exact e)); have hb7 := HBg.out.upd hGu (fun e => by have h1 := HRL.out _ (by rw [HRV.out, ← HN2.out]; exact e); omega); have e2 := hb6.cell 1; have ef := hb6.frozen; have l0 := hb7.cell 0; have l1 := hb7.cell 1; have l2 := hb7.cell 2; have hlg := hb7.lt; have HB7 := Lib.hid hb7; obtain ⟨A5, c5, hv5, hl5⟩ := HO5.out.form; subst hv5; simp only [LS.cells, List.getElem?_toArray, List.getElem?_cons_succ, List.getElem?_cons_zero] at e2 l0 l1 l2; rw [HRV.out, ← HN2.out] at e2; have hlp := World.block_lt_of_cell? _ _ e2; clear ho5 hg5 hb5 hGu hb6 hb7))
  all_goals
    have hfin := HFIN.out (.slice A5 (n2 + 1) c5) w5 (by rw [← HN2.out]; exact HO5.out) (by rw [← HN2.out]; exact HG5.out) (by rw [← HN2.out]; exact HB5.out)
    have HFN := Lib.hid hfin
    have hlgp : w.heap.size ≠ p := by omega
    have HL : Hid (OwnD (w5.setCell ⟨p, 1, none⟩ (.slice A5 (n2 + 1) c5)) (.slice A3 gd.length cd) gd) := Lib.hid (hfin.1.d ⟨(.slice A3 gd.length cd), gd, ga, ge⟩ (by simp [LS.groups]))
    clear hfin
    have HN7 := Lib.hid (OwnS.nil (w5.setCell ⟨p, 1, none⟩ (.slice A5 (n2 + 1) c5)).drew 24 3)
    have HR7 : Hid (Reads (w5.setCell ⟨p, 1, none⟩ (.slice A5 (n2 + 1) c5)).drew (w5.setCell ⟨p, 1, none⟩ (.slice A5 (n2 + 1) c5)).heap.size 3 A3 gd.length (gd.flatMap dcells)) := Lib.hid ((OwnD.reads HL.out rfl).2.drew)
    obtain ⟨j0, hj0, hy0, hy1, hy2⟩ := info_parts info24
    have HB8 := Lib.hid (HB7.out.far (p := ⟨p, 1, none⟩) hlgp (.slice A5 (n2 + 1) c5))
    have b0 := HB8.out.cell 0
    have b1 := HB8.out.cell 1
    have b2 := HB8.out.cell 2
    simp only [List.getElem?_toArray, List.getElem?_cons_succ, List.getElem?_cons_zero] at b0 b1 b2
    go_wp2
    go_region_held3 (fun w' => w'.cell? ⟨w.heap.size, 0, none⟩ = some (.slice A3 gd.length cd) ∧ w'.cell? ⟨w.heap.size, 1, none⟩ = some (.int .i64 ga) ∧ w'.cell? ⟨w.heap.size, 2, none⟩ = some (.int .i64 ge))
      (first | go_keep | exact ⟨f0, f1, f2⟩ | exact ⟨b0, b1, b2⟩)
      ((refine step_append_s (v := .slice none 0 0) (by rfl) _ _ _ (by rfl) Tryd.underlying22 hj0 hy0 hy1 hy2 rfl (by omega) (by rfl) HN7.out (by rfl) HR7.out (one_cells gd) (by unfold maxLen; omega) (by omega) ?_; intro v7 w7 ho7 hg7 hk7; have hb7 : Below (w5.setCell ⟨p, 1, none⟩ (.slice A5 (n2 + 1) c5)).drew.heap.size (w5.setCell ⟨p, 1, none⟩ (.slice A5 (n2 + 1) c5)).drew w7 := (Upd.grown (S := No) hg7 (fun k e => by cases e)).no; have hb8 := HB8.out.upd (Upd.below (below_undrew hb7) No) (fun h => h); have f0 := hb8.cell 0; have f1 := hb8.cell 1; have f2 := hb8.cell 2; simp only [List.getElem?_toArray, List.getElem?_cons_succ, List.getElem?_cons_zero] at f0 f1 f2; have HO7 := Lib.hid ho7; have HK7 := Lib.hid hk7; have HW7 := Lib.hid (below_undrew hb7); clear ho7 hk7 hb7 hb8 hg7))
    go_wp2
    go_ret3
    obtain ⟨hA6, hU6, hF6⟩ := HFN.out
    refine ⟨_, _, rfl, (by have h7 := HO7.out; rw [Nat.zero_add, List.nil_append] at h7; exact h7), fun k hk => ?_, hA6.below HW7.out, HABS.out _ _, hU6.then_ (Upd.below HW7.out No) (fun k hk => hk.elim), hF6⟩
    have hk : v7.ownBlock = some k := hk
    have h1 : (w5.setCell ⟨p, 1, none⟩ (.slice A5 (n2 + 1) c5)).heap.size ≤ k := by
      rcases HK7.out with e | e
      · rw [show v7.ownBlock = none from e] at hk
        cases hk
      · exact e k hk
    have h2 := hU6.size
    exact ⟨by omega, fun hf => by have := hA6.lt k hf; omega⟩
end
end LogI
end Go.Proofs.YtkpcnfchhnfpoaaDoor
