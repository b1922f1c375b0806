/- A log's Commit. -/
import Derived.Test.YtkpcnfchhnfpoaaDoorLogIAdd
import Derived.Handy
import Derived.WalkSpells
import Derived.WalkLawsBesides
import Derived.Deep.RegionHeld3
import Derived.LoopTactic
import Derived.BigQuiet
import Derived.IntWalk
import Derived.StillTailTactics
set_option linter.unusedVariables false
namespace Go.Proofs.YtkpcnfchhnfpoaaDoor
open Go.RowKit Go.Proofs.YtkpcnfchhnfpoaaDoorW.PrintWords Go.Proofs.YtkpcnfchhnfpoaaDoor.Sep Log
namespace LogI
section
variable {w w' w1 w5 W : World} {p : Nat} {s s' : LS} {S : Nat → Prop} {init : List Gr} {g : Gr} {v5 : Value}
set_option maxHeartbeats 3200000
set_option maxRecDepth 100000
theorem commit_no (h : At w p s) (ho : s.op = false) (x : A) : Calls Tryd.prog 43 #[.pointer (some ⟨p, 0, none⟩), .int .i64 x] w fun e w' => e = .returned (.bool false) ∧ w = w' := by
  obtain ⟨_, _, _, _, _, _, c6, -⟩ := h.cells
  rw [ho] at c6
  clear h ho
  go_enter Tryd.func43, Tryd.ntmps43
  go_wp2
  go_ret
  exact ⟨rfl, rfl⟩
theorem At.closed (h : At w p s) (u : Upd (fun k => k = p) w w') (hb : Blk w' p 83 ({ s with now := g0, op := false } : LS).cells) : At w' p { s with now := g0, op := false } :=
  h.top_ u hb rfl rfl rfl rfl (.inr ⟨rfl, rfl⟩)
theorem commit_empty (h : At w p s) (ho : s.op = true) (hd : s.now.ds = []) (x : A) : Calls Tryd.prog 43 #[.pointer (some ⟨p, 0, none⟩), .int .i64 x] w fun e w' => e = .returned (.bool false) ∧ ∃ s', At w' p s' ∧ s'.abs = s.abs.commit x ∧ Upd (foot p s) w w' ∧ Fr w p s s' := by
  obtain ⟨_, _, _, _, _, _, c6, -⟩ := h.cells
  rw [ho] at c6
  obtain ⟨A3, cd, hdv, hdl⟩ := (h.d s.now (by simp [LS.groups])).len
  rw [hd] at hdv
  have HC := close_ h
  rw [hdv] at HC
  have HCL := Lib.hid HC
  have HO := Lib.hid ho
  have HD := Lib.hid hd
  have HA := Lib.hid h
  clear h ho hd hdv HC hdl
  go_enter Tryd.func43, Tryd.ntmps43
  go_wp2_with (go_at_call 68; refine HCL.out.mono ?_; rintro e w1 ⟨rfl, hb, hu⟩; have HB1 := Lib.hid hb; have HU1 := Lib.hid hu; clear hb hu)
  go_ret
  have hb2 : Below w1.heap.size w1 (w1.alloc (.cells #[.slice A3 ([] : List Delta).length cd, .int .i64 s.now.ah, .int .i64 s.now.be] 81)) := (Below.refl _ _).alloc (Nat.le_refl _) _
  refine ⟨rfl, _, (HA.out.closed HU1.out HB1.out).below hb2, ?_, (Upd.foot1 HU1.out).then_ (Upd.below hb2 No) (fun k hk => hk.elim), Fr.top rfl rfl rfl rfl (.inr rfl)⟩
  unfold LS.abs AS.commit
  dsimp only
  rw [HO.out]
  simp [Gr.abs, HD.out]
/-- The group goes to undo. -/
theorem At.kept (h : At w p s) (ho : s.op = true) (hne : s.now.ds ≠ []) (x : A) (hu1 : Upd (fun k => k = p) w w1) (hW : Upd (fun k => k = p) w W)
    (hB : Blk W p 83 ({ s with now := g0, op := false, rv := .slice none 0 0, redo := [] } : LS).cells)
    (ho5 : OwnS w5 81 3 v5 (s.undo.length + 1) (s.undo.flatMap Gr.cells ++ ({ s.now with be := x } : Gr).cells)) (hg5 : W.grownBy w5 s.uv.ownBlock) (hb5 : v5.ownBlock = s.uv.ownBlock ∨ ∀ k, v5.ownBlock = some k → W.heap.size ≤ k) :
    At (w5.setCell ⟨p, 1, none⟩ v5) p { s with now := g0, op := false, uv := v5, undo := s.undo ++ [{ s.now with be := x }], rv := .slice none 0 0, redo := [] } ∧ Upd (foot p s) w (w5.setCell ⟨p, 1, none⟩ v5) ∧ Upd (top p s) w (w5.setCell ⟨p, 1, none⟩ v5) ∧ Fr w p s { s with now := g0, op := false, uv := v5, undo := s.undo ++ [{ s.now with be := x }], rv := .slice none 0 0, redo := [] } := by
  have hu5 : Upd (fun k => k = p ∨ s.uv.ownBlock = some k) w w5 := (hW.mono (fun k e => .inl e)).then_ (Upd.grown (S := fun k => s.uv.ownBlock = some k) hg5 (fun k e => e)) (fun k hk => .inl (.inr hk))
  have hB5 : Blk w5 p 83 ({ s with now := g0, op := false, rv := .slice none 0 0, redo := [] } : LS).cells := hB.upd (Upd.grown (S := fun k => s.uv.ownBlock = some k) hg5 (fun k e => e)) h.up
  have hB6 : Blk (w5.setCell ⟨p, 1, none⟩ v5) p 83 ({ s with now := g0, op := false, uv := v5, undo := s.undo ++ [{ s.now with be := x }], rv := .slice none 0 0, redo := [] } : LS).cells := by (apply Blk.eq_; (focus (repeat' (first | with_reducible exact hB5 | with_reducible apply Blk.drewN | with_reducible apply Blk.drew | with_reducible apply Blk.set_ | with_reducible apply Blk.alloc))); all_goals (simp only [LS.cells, List.setIfInBounds_toArray, List.set_cons_succ, List.set_cons_zero] <;> rfl))
  have hu6 : Upd (fun k => k = p ∨ s.uv.ownBlock = some k) w (w5.setCell ⟨p, 1, none⟩ v5) := hu5.setCell (.inl (.inl rfl)) _
  have hut : Upd (top p s) w (w5.setCell ⟨p, 1, none⟩ v5) := hu6.mono (fun k hk => hk.elim .inl (fun e => .inr (.inl e)))
  have hgr : ∀ g ∈ ({ s with now := g0, op := false, uv := v5, undo := s.undo ++ [{ s.now with be := x }], rv := .slice none 0 0, redo := [] } : LS).groups, (∃ g1 ∈ s.groups, g.dv = g1.dv ∧ g.ds = g1.ds) ∨ (g.dv = .slice none 0 0 ∧ g.ds = []) := by
    intro g hg
    simp only [LS.groups, List.append_nil, List.mem_cons, List.mem_append, List.not_mem_nil, or_false] at hg ⊢
    rcases hg with rfl | hg | rfl
    · exact .inr ⟨rfl, rfl⟩
    · exact .inl ⟨g, .inr (.inl hg), rfl, rfl⟩
    · exact .inl ⟨s.now, .inl rfl, rfl, rfl⟩
  refine ⟨h.build hut hB6 ?_ (OwnS.nil _ _ _) (fun k _ e => by cases e) hgr ?_, hut.mono (fun k hk => At.topFoot k hk), hut, Fr.build ?_ (fun k hk => by cases hk) hgr⟩
  · show OwnS _ _ _ v5 (s.undo ++ [_]).length ((s.undo ++ [_]).flatMap Gr.cells)
    rw [flat_push, List.length_append]
    exact ho5.keep (fun k hk => Below.heap_setCell _ _ _ _ (fun e => ho5.ne_blk hB5 (by decide) (by rw [hk, e])))
  · have h1 := h.ap
    unfold blocks LS.groups at h1 ⊢
    have h2 : (List.filterMap (fun g : Gr => g.dv.ownBlock) (s.now :: s.undo)).Nodup := List.Nodup.sublist (List.Sublist.filterMap _ ((List.sublist_append_left _ _).cons_cons _)) h1
    have h3 : (List.filterMap (fun g : Gr => g.dv.ownBlock) (({ s.now with be := x } : Gr) :: s.undo)).Nodup := h2
    have h4 : (List.filterMap (fun g : Gr => g.dv.ownBlock) (s.undo ++ [({ s.now with be := x } : Gr)])).Nodup := List.Perm.nodup (List.Perm.filterMap _ (by simpa using (List.perm_append_comm (l₁ := [({ s.now with be := x } : Gr)]) (l₂ := s.undo)))) h3
    show (List.filterMap (fun g => g.dv.ownBlock) (g0 :: (s.undo ++ [({ s.now with be := x } : Gr)] ++ []))).Nodup
    rw [List.filterMap_cons, List.append_nil]
    exact h4
  · intro k hk
    rcases hb5 with hb | hb
    · exact .inl (by rw [← hb]; exact hk)
    · exact .inr (Nat.le_trans hW.size (hb k hk))
theorem one_gs (l : List Gr) (h : ∀ g ∈ l, ∃ A n c, g.dv = .slice A n c) : ∀ u ∈ l.flatMap Gr.cells, u.oneCell' = true := by
  intro u hu
  obtain ⟨g, hg, hu⟩ := List.mem_flatMap.1 hu
  obtain ⟨A, n, c, e⟩ := h g hg
  exact one_g g A n c e u hu
theorem below_undrewN {w w' : World} {n : Nat} (h : Below (w.drewN n).heap.size (w.drewN n) w') : Below w.heap.size w w' := ⟨h.os, h.tape, h.output, h.size, h.block⟩
theorem flat_drop1 (l : List Gr) (h : l ≠ []) : (l.flatMap Gr.cells).drop 3 = (l.drop 1).flatMap Gr.cells := by
  cases l with
  | nil => exact absurd rfl h
  | cons a l => rfl
theorem At.retail (h : At w p s) (hW : Below w.heap.size w w5) (ho7 : OwnS w5 81 3 v5 (s.undo.length - 1) ((s.undo.drop 1).flatMap Gr.cells)) (hb7 : ∀ k, v5.ownBlock = some k → w.heap.size ≤ k) :
    At (w5.setCell ⟨p, 1, none⟩ v5) p { s with uv := v5, undo := s.undo.drop 1 } ∧ Upd (fun k => k = p) w (w5.setCell ⟨p, 1, none⟩ v5) ∧ Fr w p s { s with uv := v5, undo := s.undo.drop 1 } := by
  have hu5 : Upd (fun k => k = p) w (w5.setCell ⟨p, 1, none⟩ v5) := Upd.setCell (S := fun k => k = p) (Upd.below hW _) (.inl rfl) _
  have hB5 : Blk w5 p 83 s.cells := h.blk.upd (Upd.below hW No) (fun h => h)
  have hB6 : Blk (w5.setCell ⟨p, 1, none⟩ v5) p 83 ({ s with uv := v5, undo := s.undo.drop 1 } : LS).cells := by (apply Blk.eq_; (focus (repeat' (first | with_reducible exact hB5 | with_reducible apply Blk.drewN | with_reducible apply Blk.drew | with_reducible apply Blk.set_ | with_reducible apply Blk.alloc))); all_goals (simp only [LS.cells, List.setIfInBounds_toArray, List.set_cons_succ, List.set_cons_zero] <;> rfl))
  have hgr : ∀ g ∈ ({ s with uv := v5, undo := s.undo.drop 1 } : LS).groups, (∃ g1 ∈ s.groups, g.dv = g1.dv ∧ g.ds = g1.ds) ∨ (g.dv = .slice none 0 0 ∧ g.ds = []) := by
    intro g hg
    refine .inl ⟨g, ?_, rfl, rfl⟩
    simp only [LS.groups, List.mem_cons, List.mem_append] at hg ⊢
    rcases hg with hg | hg | hg
    · exact .inl hg
    · exact .inr (.inl (List.mem_of_mem_drop hg))
    · exact .inr (.inr hg)
  refine ⟨h.build (Upd.top1 hu5) hB6 ?_ (h.r.upd hu5 (fun k hk e => h.rp (by rw [← e]; exact hk))) (fun k hk e => ?_) hgr ?_, hu5, Fr.build (fun k hk => .inr (hb7 k hk)) (fun k hk => .inl hk) hgr⟩
  · show OwnS _ _ _ v5 (s.undo.drop 1).length ((s.undo.drop 1).flatMap Gr.cells)
    rw [List.length_drop]
    exact ho7.keep (fun k hk => Below.heap_setCell _ _ _ _ (fun e => by have h1 := hb7 k hk; have h2 := h.blk.lt; dsimp only at e; omega))
  · have h1 := hb7 k hk
    have h2 := h.r.lt k e
    omega
  · have h1 := h.ap
    unfold blocks LS.groups at h1 ⊢
    refine List.Nodup.sublist (List.Sublist.filterMap _ ?_) h1
    exact List.Sublist.cons_cons _ (List.Sublist.append (List.drop_sublist _ _) (List.Sublist.refl _))
theorem Fr.then_ {s1 s2 : LS} (h : Fr w p s s1) (g : Fr w' p s1 s2) (hs : w.heap.size ≤ w'.heap.size) : Fr w p s s2 := fun k hk => by
  rcases g k hk with e | e
  · exact h k e
  · exact .inr (Nat.le_trans hs e)
theorem commit_yes (h : At w p s) (ho : s.op = true) (hne : s.now.ds ≠ []) (x : A) (hn : s.undo.length ≤ 2000) : Calls Tryd.prog 43 #[.pointer (some ⟨p, 0, none⟩), .int .i64 x] w fun e w' => e = .returned (.bool (decide (0 < s.bound))) ∧ ∃ s', At w' p s' ∧ s'.abs = s.abs.commit x ∧ Upd (foot p s) w w' ∧ Fr w p s s' := by
  obtain ⟨i0, hi0, hz0, hz1, hz2⟩ := info_parts info_g
  obtain ⟨_, c1, _, _, _, _, c6, -⟩ := h.cells
  rw [ho] at c6
  obtain ⟨A3, cd, hdv, hdl⟩ := (h.d s.now (by simp [LS.groups])).len
  obtain ⟨N, hN⟩ : ∃ N, s.now.ds.length = N + 1 := by
    cases hx : s.now.ds with
    | nil => exact absurd hx hne
    | cons a b => exact ⟨b.length, rfl⟩
  rw [hN] at hdv
  obtain ⟨A2, cr, huv, hul⟩ := h.u.form
  have HC := close_ h
  rw [hdv] at HC
  have HCL := Lib.hid HC
  have HO := Lib.hid ho
  have HNE := Lib.hid hne
  have HA := Lib.hid h
  have HUV := Lib.hid huv
  have HDV := Lib.hid hdv
  have hpw := h.blk.lt
  obtain ⟨n2, hn2⟩ : ∃ n2, n2 = s.undo.length := ⟨_, rfl⟩
  rw [huv, ← hn2] at c1
  clear h ho hne hdv HC hdl huv
  have e1 : ((N : Int) + 1 == 0) = false := by rw [beq_eq_false_iff_ne]; omega
  go_enter Tryd.func43, Tryd.ntmps43
  go_wp2_with (go_at_call 68; refine HCL.out.mono ?_; rintro e w1 ⟨rfl, hb, hu⟩; have d1 := hb.cell 1; have d0 := hb.cell 0; have d2 := hb.cell 2; have df := hb.frozen; simp only [LS.cells, List.getElem?_toArray, List.getElem?_cons_succ, List.getElem?_cons_zero] at d0 d1 d2; rw [HUV.out, ← hn2] at d1; have hp1 := hb.lt; have HB1 := Lib.hid hb; have HU1 := Lib.hid hu; clear hb hu)
  have hWu : Upd (fun k => k = p) w (((w1.setCell ⟨p, 2, none⟩ (.slice none 0 0)).alloc (.cells #[.slice A3 (N + 1) cd, .int .i64 s.now.ah, .int .i64 x] 81)).alloc (.cells #[.slice A3 (N + 1) cd, .int .i64 s.now.ah, .int .i64 x] 81)).drew := (((HU1.out.setCell (.inl rfl) _).alloc _).alloc _).drew
  have hBu : Blk (((w1.setCell ⟨p, 2, none⟩ (.slice none 0 0)).alloc (.cells #[.slice A3 (N + 1) cd, .int .i64 s.now.ah, .int .i64 x] 81)).alloc (.cells #[.slice A3 (N + 1) cd, .int .i64 s.now.ah, .int .i64 x] 81)).drew p 83 ({ s with now := g0, op := false, rv := .slice none 0 0, redo := [] } : LS).cells := by (apply Blk.eq_; (focus (repeat' (first | with_reducible exact HB1.out | with_reducible apply Blk.drewN | with_reducible apply Blk.drew | with_reducible apply Blk.set_ | with_reducible apply Blk.alloc))); all_goals (simp only [LS.cells, List.setIfInBounds_toArray, List.set_cons_succ, List.set_cons_zero] <;> rfl))
  have hB1 : Blk ((w1.setCell ⟨p, 2, none⟩ (.slice none 0 0)).alloc (.cells #[.slice A3 (N + 1) cd, .int .i64 s.now.ah, .int .i64 x] 81)) p 83 ({ s with now := g0, op := false, rv := .slice none 0 0, redo := [] } : LS).cells := by (apply Blk.eq_; (focus (repeat' (first | with_reducible exact HB1.out | with_reducible apply Blk.drewN | with_reducible apply Blk.drew | with_reducible apply Blk.set_ | with_reducible apply Blk.alloc))); all_goals (simp only [LS.cells, List.setIfInBounds_toArray, List.set_cons_succ, List.set_cons_zero] <;> rfl))
  have hB2 : Blk ((w1.setCell ⟨p, 2, none⟩ (.slice none 0 0)).alloc (.cells #[.slice A3 (N + 1) cd, .int .i64 s.now.ah, .int .i64 x] 81)) w1.heap.size 81 #[.slice A3 (N + 1) cd, .int .i64 s.now.ah, .int .i64 x] := blk_new_set w1 _ _ _ _
  have m0 := hB2.cell 0
  have m1 := hB2.cell 1
  have m2 := hB2.cell 2
  simp only [List.getElem?_toArray, List.getElem?_cons_succ, List.getElem?_cons_zero] at m0 m1 m2
  clear hB1 hB2
  have hor := HA.out.u.upd hWu (fun k hk e => HA.out.up (by rw [← e]; exact hk))
  rw [HUV.out, ← hn2] at hor
  have HOr := Lib.hid hor
  have hrn := reads_g ((w1.setCell ⟨p, 2, none⟩ (.slice none 0 0)).alloc (.cells #[.slice A3 (N + 1) cd, .int .i64 s.now.ah, .int .i64 x] 81)) ⟨.slice A3 (N + 1) cd, s.now.ds, s.now.ah, x⟩
  rw [show ((w1.setCell ⟨p, 2, none⟩ (.slice none 0 0)).alloc (.cells #[.slice A3 (N + 1) cd, .int .i64 s.now.ah, .int .i64 x] 81)).heap.size = w1.heap.size + 1 by simp [World.setCell]] at hrn
  have HRn := Lib.hid (Reads.drew hrn)
  have HC1 := Lib.hid (one_g ⟨.slice A3 (N + 1) cd, s.now.ds, s.now.ah, x⟩ _ _ _ rfl)
  have hfin : ∀ v5 w5, _ → _ → _ → _ := fun v5 w5 => At.kept (v5 := v5) (w5 := w5) HA.out HO.out HNE.out x HU1.out hWu hBu
  have hgg : ({ s.now with be := x } : Gr) = ⟨.slice A3 (N + 1) cd, s.now.ds, s.now.ah, x⟩ := by rw [← HDV.out]
  rw [hgg] at hfin
  have HFIN : Hid (∀ v5 w5, _ → _ → _ → _) := Lib.hid hfin
  have HUP := Lib.hid HA.out.up
  have HBu := Lib.hid hBu
  have HN2 := Lib.hid hn2
  have hn3 : n2 ≤ 2000 := by omega
  have HN := Lib.hid hN
  clear hor hrn hfin hgg hWu hBu hn2 hN
  go_region_law (first
    | (refine step_append_s (v := .slice A2 n2 cr) (by rfl) _ _ _ (by rfl) Tryd.underlying79 hi0 hz0 hz1 hz2 rfl (by omega) (by rfl) HOr.out (by rfl) HRn.out HC1.out (by unfold maxLen; omega) (by omega) ?_; intro v5 w5 ho5 hg5 hb5; have HO5 := Lib.hid ho5; have HG5 := Lib.hid hg5; have HB5 := Lib.hid hb5; have hb6 := HBu.out.upd (Upd.grown (S := fun k => (Value.slice A2 n2 cr).ownBlock = some k) HG5.out (fun k e => e)) (fun e => HUP.out (by rw [HUV.out, ← HN2.out]; exact e)); have f0 := hb6.cell 0; have f1 := hb6.cell 1; have ff := hb6.frozen; have hlp := hb6.lt; obtain ⟨g5, off5, c5, hv5, hl5, _⟩ := HO5.out.some_ (by omega); subst hv5; clear ho5 hg5 hb5 hb6; simp only [LS.cells, List.getElem?_toArray, List.getElem?_cons_succ, List.getElem?_cons_zero] at f0 f1; rw [HUV.out, ← HN2.out] at f1))
  all_goals
    have hfin := HFIN.out (.slice (some ⟨g5, off5, none⟩) (n2 + 1) c5) w5 (by rw [← HN2.out]; exact HO5.out) (by rw [HUV.out, ← HN2.out]; exact HG5.out) (by rw [HUV.out, ← HN2.out]; exact HB5.out)
    have HFN := Lib.hid hfin
    have HP6 := Lib.hid hfin.1.blk
    clear hfin
    by_cases htr : s.bound < n2 + 1
    · have g1 : decide (s.bound < n2 + 1) = true := by simp [htr]
      have g2 : decide ((s.bound : Int) < (n2 : Int) + 1) = true := by simp; omega
      have HGO : Hid (∀ v7 w7, OwnS w7 81 3 v7 n2 (((s.undo ++ [(⟨.slice A3 (N + 1) cd, s.now.ds, s.now.ah, x⟩ : Gr)]).drop 1).flatMap Gr.cells) → (∀ k, v7.ownBlock = some k → (w5.setCell ⟨p, 1, none⟩ (.slice (some ⟨g5, off5, none⟩) (n2 + 1) c5)).heap.size ≤ k) → Below (w5.setCell ⟨p, 1, none⟩ (.slice (some ⟨g5, off5, none⟩) (n2 + 1) c5)).heap.size (w5.setCell ⟨p, 1, none⟩ (.slice (some ⟨g5, off5, none⟩) (n2 + 1) c5)) w7 → ∃ s', At (w7.setCell ⟨p, 1, none⟩ v7) p s' ∧ s'.abs = s.abs.commit x ∧ Upd (foot p s) w (w7.setCell ⟨p, 1, none⟩ v7) ∧ Fr w p s s') := Lib.hid (fun v7 w7 h1 h2 h3 => by
        obtain ⟨ha, hu, _, hf⟩ := HFN.out
        obtain ⟨hA, hU, hF⟩ := ha.retail (v5 := v7) (w5 := w7) h3 (by
          show OwnS _ _ _ v7 ((s.undo ++ [_]).length - 1) _
          rw [List.length_append, ← HN2.out]
          exact h1) h2
        refine ⟨_, hA, ?_, hu.then_ hU (fun k hk => by subst hk; exact .inl (foot_p _ _)), hf.then_ hF hu.size⟩
        unfold LS.abs AS.commit
        dsimp only
        rw [HO.out]
        have hl : s.bound < (s.undo.map Gr.abs ++ [({ ds := s.now.ds, ah := s.now.ah, be := x } : AG A)]).length := by simp; have := HN2.out; omega
        simp [Gr.abs, HNE.out, trim]
        intro h
        have := HN2.out
        omega)
      rcases Nat.eq_zero_or_pos n2 with hz | hz
      · have HZ := Lib.hid hz
        by_cases hc5 : c5 = 1
        all_goals
          try subst hc5
          subst hz
          go_wp2
          go_quiet (fail)
          go_wp2
          go_ret
          refine ⟨by simp, HGO.out (.slice none 0 0) _ ?_ (fun k hk => by cases hk) (Below.drewN' (Below.refl _ _) _)⟩
          have hun : s.undo = [] := List.eq_nil_of_length_eq_zero HN2.out.symm
          rw [hun]
          exact OwnS.nil _ _ _
      · have hc5 : ¬ c5 = 1 := by omega
        have HONE : Hid (∀ u ∈ ((s.undo ++ [(⟨.slice A3 (N + 1) cd, s.now.ds, s.now.ah, x⟩ : Gr)]).drop 1).flatMap Gr.cells, u.oneCell' = true) := Lib.hid (one_gs _ (fun g hg => by
          obtain ⟨A, c, e, _⟩ := (HFN.out.1.d g (by
            unfold LS.groups
            exact List.mem_cons_of_mem _ (List.mem_append_left _ (List.mem_of_mem_drop hg)))).len
          exact ⟨A, _, c, e⟩))
        have HT : Hid (OwnS (w5.setCell ⟨p, 1, none⟩ (.slice (some ⟨g5, off5, none⟩) (n2 + 1) c5)) 81 3 (.slice (some ⟨g5, off5 + 3, none⟩) n2 (c5 - 1)) n2 (((s.undo ++ [(⟨.slice A3 (N + 1) cd, s.now.ds, s.now.ah, x⟩ : Gr)]).drop 1).flatMap Gr.cells)) := Lib.hid (by
          have h1 := HFN.out.1.u
          dsimp only at h1
          rw [List.length_append, ← HN2.out] at h1
          have h2 := OwnS.tail h1 (by simp; omega)
          rw [flat_drop1 _ (by simp)] at h2
          exact h2)
        go_wp2
        go_quiet (fail)
        go_wp2_with (at_builtin; refine wpList_append_s (v := .slice none 0 0) rfl (.const (.slice none 0 0)) (.tmp 51) _ rfl Tryd.underlying79 hi0 hz0 hz1 hz2 rfl (by omega) rfl (OwnS.nil _ _ _) rfl (by first | exact HT.out.reads | exact HT.out.reads.drewN _) HONE.out (by unfold maxLen; omega) (by omega) ?_; intro v7 w7 ho7 hg7 hk7; rw [Nat.zero_add, List.nil_append] at ho7; have HO7 := Lib.hid ho7; have HG7 := Lib.hid (below_undrewN (Upd.grown (S := No) hg7 (fun k e => by cases e)).no); have HK7 : Hid (∀ k, v7.ownBlock = some k → (w5.setCell ⟨p, 1, none⟩ (.slice (some ⟨g5, off5, none⟩) (n2 + 1) c5)).heap.size ≤ k) := Lib.hid (fun k hk => hk7.elim (fun e => by rw [e] at hk; cases hk) (fun e => e k hk)); have h0 := HP6.out.upd (Upd.below HG7.out No) (fun h => h); have k0 := h0.cell 0; have k1 := h0.cell 1; have kf := h0.frozen; have kl := h0.lt; obtain ⟨A7, c7, hv7, _⟩ := HO7.out.form; subst hv7; simp only [LS.cells, List.getElem?_toArray, List.getElem?_cons_succ, List.getElem?_cons_zero] at k0 k1; clear ho7 hg7 hk7 h0)
        go_ret
        refine ⟨by simp, HGO.out _ _ ?_ HK7.out HG7.out⟩
        exact HO7.out
    · have g1 : decide (s.bound < n2 + 1) = false := by simp; omega
      have g2 : decide ((s.bound : Int) < (n2 : Int) + 1) = false := by simp; omega
      go_wp2
      go_quiet (fail)
      go_wp2
      go_ret
      refine ⟨by simp, _, HFN.out.1.below (Below.drewN' (Below.refl _ _) _), ?_, HFN.out.2.1.drewN _, HFN.out.2.2.2⟩
      unfold LS.abs AS.commit
      dsimp only
      rw [HO.out]
      have hl : ¬ s.bound < (s.undo.map Gr.abs ++ [({ ds := s.now.ds, ah := s.now.ah, be := x } : AG A)]).length := by simp; have := HN2.out; omega
      simp [Gr.abs, HNE.out, trim]
      intro h
      have := HN2.out
      omega
end
end LogI
end Go.Proofs.YtkpcnfchhnfpoaaDoor
