/- A log's Commit. -/
import Derived.Test.YtkpcnfchhnfpoaaDoorLogSM1
import Derived.Handy
import Derived.WalkSpells
import Derived.WalkLawsBesides
import Derived.Deep.RegionHeld3
import Derived.LoopTactic
import Derived.BigQuiet
import Derived.IntWalk
import Derived.StillTailTactics
import Derived.Test.YtkpcnfchhnfpoaaDoorAbs2
set_option linter.unusedVariables false
namespace Go.Proofs.YtkpcnfchhnfpoaaDoor
open Go.RowKit Go.Proofs.YtkpcnfchhnfpoaaDoorW.PrintWords Go.Proofs.YtkpcnfchhnfpoaaDoor.Sep Log
namespace LogS
section
variable {w w' w1 w5 W : World} {p : Nat} {s s' : LS} {S : Nat → Prop} {init : List Gr} {g : Gr} {v5 : Value}
set_option maxHeartbeats 3200000
set_option maxRecDepth 100000
theorem commit_no (h : At w p s) (ho : s.op = false) (x : A) : Calls Tryd.prog 45 #[.pointer (some ⟨p, 0, none⟩), .string x] w fun e w' => e = .returned (.bool false) ∧ w = w' := by
  obtain ⟨_, _, _, _, _, _, c6, -⟩ := h.cells
  rw [ho] at c6
  clear h ho
  go_enter Tryd.func45, Tryd.ntmps45
  go_wp2
  go_ret
  exact ⟨rfl, rfl⟩
theorem At.closed (h : At w p s) (u : Upd (fun k => k = p) w w') (hb : Blk w' p 104 ({ s with now := g0, op := false } : LS).cells) : At w' p { s with now := g0, op := false } :=
  h.top_ u hb rfl rfl rfl rfl (.inr ⟨rfl, rfl⟩)
theorem commit_empty (h : At w p s) (ho : s.op = true) (hd : s.now.ds = []) (x : A) : Calls Tryd.prog 45 #[.pointer (some ⟨p, 0, none⟩), .string x] w fun e w' => e = .returned (.bool false) ∧ ∃ s', At w' p s' ∧ s'.abs = s.abs.commit x ∧ Upd (foot p s) w w' ∧ Fr w p s s' := by
  obtain ⟨_, _, _, _, _, _, c6, -⟩ := h.cells
  rw [ho] at c6
  obtain ⟨A3, cd, hdv, hdl⟩ := (h.d s.now (by simp [LS.groups])).len
  rw [hd] at hdv
  have HC := close_ h
  rw [hdv] at HC
  have HCL := Lib.hid HC
  have HO := Lib.hid ho
  have HD := Lib.hid hd
  have HA := Lib.hid h
  clear h ho hd hdv HC hdl
  go_enter Tryd.func45, Tryd.ntmps45
  go_wp2_with (go_at_call 70; refine HCL.out.mono ?_; rintro e w1 ⟨rfl, hb, hu⟩; have HB1 := Lib.hid hb; have HU1 := Lib.hid hu; clear hb hu)
  go_ret
  have hb2 : Below w1.heap.size w1 (w1.alloc (.cells #[.slice A3 ([] : List Delta).length cd, .string s.now.ah, .string s.now.be] 102)) := (Below.refl _ _).alloc (Nat.le_refl _) _
  refine ⟨rfl, _, (HA.out.closed HU1.out HB1.out).below hb2, ?_, (Upd.foot1 HU1.out).then_ (Upd.below hb2 No) (fun k hk => hk.elim), Fr.top rfl rfl rfl rfl (.inr rfl)⟩
  unfold LS.abs AS.commit
  dsimp only
  rw [HO.out]
  simp [Gr.abs, HD.out]
/-- The group goes to undo. -/
theorem At.kept (h : At w p s) (ho : s.op = true) (hne : s.now.ds ≠ []) (x : A) (hu1 : Upd (fun k => k = p) w w1) (hW : Upd (fun k => k = p) w W)
    (hB : Blk W p 104 ({ s with now := g0, op := false, rv := .slice none 0 0, redo := [] } : LS).cells)
    (ho5 : OwnS w5 102 3 v5 (s.undo.length + 1) (s.undo.flatMap Gr.cells ++ ({ s.now with be := x } : Gr).cells)) (hg5 : W.grownBy w5 s.uv.ownBlock) (hb5 : v5.ownBlock = s.uv.ownBlock ∨ ∀ k, v5.ownBlock = some k → W.heap.size ≤ k) :
    At (w5.setCell ⟨p, 1, none⟩ v5) p { s with now := g0, op := false, uv := v5, undo := s.undo ++ [{ s.now with be := x }], rv := .slice none 0 0, redo := [] } ∧ Upd (foot p s) w (w5.setCell ⟨p, 1, none⟩ v5) ∧ Upd (top p s) w (w5.setCell ⟨p, 1, none⟩ v5) ∧ Fr w p s { s with now := g0, op := false, uv := v5, undo := s.undo ++ [{ s.now with be := x }], rv := .slice none 0 0, redo := [] } := by
  have hu5 : Upd (fun k => k = p ∨ s.uv.ownBlock = some k) w w5 := (hW.mono (fun k e => .inl e)).then_ (Upd.grown (S := fun k => s.uv.ownBlock = some k) hg5 (fun k e => e)) (fun k hk => .inl (.inr hk))
  have hB5 : Blk w5 p 104 ({ s with now := g0, op := false, rv := .slice none 0 0, redo := [] } : LS).cells := hB.upd (Upd.grown (S := fun k => s.uv.ownBlock = some k) hg5 (fun k e => e)) h.up
  have hB6 : Blk (w5.setCell ⟨p, 1, none⟩ v5) p 104 ({ s with now := g0, op := false, uv := v5, undo := s.undo ++ [{ s.now with be := x }], rv := .slice none 0 0, redo := [] } : LS).cells := by (apply Blk.eq_; (focus (repeat' (first | with_reducible exact hB5 | with_reducible apply Blk.drewN | with_reducible apply Blk.drew | with_reducible apply Blk.set_ | with_reducible apply Blk.alloc))); all_goals (simp only [LS.cells, List.setIfInBounds_toArray, List.set_cons_succ, List.set_cons_zero] <;> rfl))
  have hu6 : Upd (fun k => k = p ∨ s.uv.ownBlock = some k) w (w5.setCell ⟨p, 1, none⟩ v5) := hu5.setCell (.inl (.inl rfl)) _
  have hut : Upd (top p s) w (w5.setCell ⟨p, 1, none⟩ v5) := hu6.mono (fun k hk => hk.elim .inl (fun e => .inr (.inl e)))
  have hgr : ∀ g ∈ ({ s with now := g0, op := false, uv := v5, undo := s.undo ++ [{ s.now with be := x }], rv := .slice none 0 0, redo := [] } : LS).groups, (∃ g1 ∈ s.groups, g.dv = g1.dv ∧ g.ds = g1.ds) ∨ (g.dv = .slice none 0 0 ∧ g.ds = []) := by
    intro g hg
    simp only [LS.groups, List.append_nil, List.mem_cons, List.mem_append, List.not_mem_nil, or_false] at hg ⊢
    rcases hg with rfl | hg | rfl
    · exact .inr ⟨rfl, rfl⟩
    · exact .inl ⟨g, .inr (.inl hg), rfl, rfl⟩
    · exact .inl ⟨s.now, .inl rfl, rfl, rfl⟩
  refine ⟨h.build hut hB6 ?_ (OwnS.nil _ _ _) (fun k _ e => by cases e) hgr ?_, hut.mono (fun k hk => At.topFoot k hk), hut, Fr.build ?_ (fun k hk => by cases hk) hgr⟩
  · show OwnS _ _ _ v5 (s.undo ++ [_]).length ((s.undo ++ [_]).flatMap Gr.cells)
    rw [flat_push, List.length_append]
    exact ho5.keep (fun k hk => Below.heap_setCell _ _ _ _ (fun e => ho5.ne_blk hB5 (by decide) (by rw [hk, e])))
  · have h1 := h.ap
    unfold blocks LS.groups at h1 ⊢
    have h2 : (List.filterMap (fun g : Gr => g.dv.ownBlock) (s.now :: s.undo)).Nodup := List.Nodup.sublist (List.Sublist.filterMap _ ((List.sublist_append_left _ _).cons_cons _)) h1
    have h3 : (List.filterMap (fun g : Gr => g.dv.ownBlock) (({ s.now with be := x } : Gr) :: s.undo)).Nodup := h2
    have h4 : (List.filterMap (fun g : Gr => g.dv.ownBlock) (s.undo ++ [({ s.now with be := x } : Gr)])).Nodup := List.Perm.nodup (List.Perm.filterMap _ (by simpa using (List.perm_append_comm (l₁ := [({ s.now with be := x } : Gr)]) (l₂ := s.undo)))) h3
    show (List.filterMap (fun g => g.dv.ownBlock) (g0 :: (s.undo ++ [({ s.now with be := x } : Gr)] ++ []))).Nodup
    rw [List.filterMap_cons, List.append_nil]
    exact h4
  · intro k hk
    rcases hb5 with hb | hb
    · exact .inl (by rw [← hb]; exact hk)
    · exact .inr (Nat.le_trans hW.size (hb k hk))
theorem one_gs (l : List Gr) (h : ∀ g ∈ l, ∃ A n c, g.dv = .slice A n c) : ∀ u ∈ l.flatMap Gr.cells, u.oneCell' = true := by
  intro u hu
  obtain ⟨g, hg, hu⟩ := List.mem_flatMap.1 hu
  obtain ⟨A, n, c, e⟩ := h g hg
  exact one_g g A n c e u hu
theorem below_undrewN {w w' : World} {n : Nat} (h : Below (w.drewN n).heap.size (w.drewN n) w') : Below w.heap.size w w' := ⟨h.os, h.tape, h.output, h.size, h.block⟩
theorem flat_drop1 (l : List Gr) (h : l ≠ []) : (l.flatMap Gr.cells).drop 3 = (l.drop 1).flatMap Gr.cells := by
  cases l with
  | nil => exact absurd rfl h
  | cons a l => rfl
theorem At.retail (h : At w p s) (hW : Below w.heap.size w w5) (ho7 : OwnS w5 102 3 v5 (s.undo.length - 1) ((s.undo.drop 1).flatMap Gr.cells)) (hb7 : ∀ k, v5.ownBlock = some k → w.heap.size ≤ k) :
    At (w5.setCell ⟨p, 1, none⟩ v5) p { s with uv := v5, undo := s.undo.drop 1 } ∧ Upd (fun k => k = p) w (w5.setCell ⟨p, 1, none⟩ v5) ∧ Fr w p s { s with uv := v5, undo := s.undo.drop 1 } := by
  have hu5 : Upd (fun k => k = p) w (w5.setCell ⟨p, 1, none⟩ v5) := Upd.setCell (S := fun k => k = p) (Upd.below hW _) (.inl rfl) _
  have hB5 : Blk w5 p 104 s.cells := h.blk.upd (Upd.below hW No) (fun h => h)
  have hB6 : Blk (w5.setCell ⟨p, 1, none⟩ v5) p 104 ({ s with uv := v5, undo := s.undo.drop 1 } : LS).cells := by (apply Blk.eq_; (focus (repeat' (first | with_reducible exact hB5 | with_reducible apply Blk.drewN | with_reducible apply Blk.drew | with_reducible apply Blk.set_ | with_reducible apply Blk.alloc))); all_goals (simp only [LS.cells, List.setIfInBounds_toArray, List.set_cons_succ, List.set_cons_zero] <;> rfl))
  have hgr : ∀ g ∈ ({ s with uv := v5, undo := s.undo.drop 1 } : LS).groups, (∃ g1 ∈ s.groups, g.dv = g1.dv ∧ g.ds = g1.ds) ∨ (g.dv = .slice none 0 0 ∧ g.ds = []) := by
    intro g hg
    refine .inl ⟨g, ?_, rfl, rfl⟩
    simp only [LS.groups, List.mem_cons, List.mem_append] at hg ⊢
    rcases hg with hg | hg | hg
    · exact .inl hg
    · exact .inr (.inl (List.mem_of_mem_drop hg))
    · exact .inr (.inr hg)
  refine ⟨h.build (Upd.top1 hu5) hB6 ?_ (h.r.upd hu5 (fun k hk e => h.rp (by rw [← e]; exact hk))) (fun k hk e => ?_) hgr ?_, hu5, Fr.build (fun k hk => .inr (hb7 k hk)) (fun k hk => .inl hk) hgr⟩
  · show OwnS _ _ _ v5 (s.undo.drop 1).length ((s.undo.drop 1).flatMap Gr.cells)
    rw [List.length_drop]
    exact ho7.keep (fun k hk => Below.heap_setCell _ _ _ _ (fun e => by have h1 := hb7 k hk; have h2 := h.blk.lt; dsimp only at e; omega))
  · have h1 := hb7 k hk
    have h2 := h.r.lt k e
    omega
  · have h1 := h.ap
    unfold blocks LS.groups at h1 ⊢
    refine List.Nodup.sublist (List.Sublist.filterMap _ ?_) h1
    exact List.Sublist.cons_cons _ (List.Sublist.append (List.drop_sublist _ _) (List.Sublist.refl _))
theorem Fr.then_ {s1 s2 : LS} (h : Fr w p s s1) (g : Fr w' p s1 s2) (hs : w.heap.size ≤ w'.heap.size) : Fr w p s s2 := fun k hk => by
  rcases g k hk with e | e
  · exact h k e
  · exact .inr (Nat.le_trans hs e)
theorem commit_yes (h : At w p s) (ho : s.op = true) (hne : s.now.ds ≠ []) (x : A) (hn : s.undo.length ≤ 2000) : Calls Tryd.prog 45 #[.pointer (some ⟨p, 0, none⟩), .string x] w fun e w' => e = .returned (.bool (decide (0 < s.bound))) ∧ ∃ s', At w' p s' ∧ s'.abs = s.abs.commit x ∧ Upd (foot p s) w w' ∧ Fr w p s s' := by
  obtain ⟨i0, hi0, hz0, hz1, hz2⟩ := info_parts info_g
  obtain ⟨_, c1, _, _, _, _, c6, -⟩ := h.cells
  rw [ho] at c6
  obtain ⟨A3, cd, hdv, hdl⟩ := (h.d s.now (by simp [LS.groups])).len
  obtain ⟨N, hN⟩ : ∃ N, s.now.ds.length = N + 1 := by
    cases hx : s.now.ds with
    | nil => exact absurd hx hne
    | cons a b => exact ⟨b.length, rfl⟩
  rw [hN] at hdv
  obtain ⟨A2, cr, huv, hul⟩ := h.u.form
  have HC := close_ h
  rw [hdv] at HC
  have HCL := Lib.hid HC
  have HO := Lib.hid ho
  have HNE := Lib.hid hne
  have HA := Lib.hid h
  have HUV := Lib.hid huv
  have HDV := Lib.hid hdv
  have hpw := h.blk.lt
  obtain ⟨n2, hn2⟩ : ∃ n2, n2 = s.undo.length := ⟨_, rfl⟩
  rw [huv, ← hn2] at c1
  clear h ho hne hdv HC hdl huv
  have e1 : ((N : Int) + 1 == 0) = false := by rw [beq_eq_false_iff_ne]; omega
  go_enter Tryd.func45, Tryd.ntmps45
  go_wp2_with (go_at_call 70; refine HCL.out.mono ?_; rintro e w1 ⟨rfl, hb, hu⟩; have d1 := hb.cell 1; have d0 := hb.cell 0; have d2 := hb.cell 2; have df := hb.frozen; simp only [LS.cells, List.getElem?_toArray, List.getElem?_cons_succ, List.getElem?_cons_zero] at d0 d1 d2; rw [HUV.out, ← hn2] at d1; have hp1 := hb.lt; have HB1 := Lib.hid hb; have HU1 := Lib.hid hu; clear hb hu)
  have hWu : Upd (fun k => k = p) w (((w1.setCell ⟨p, 2, none⟩ (.slice none 0 0)).alloc (.cells #[.slice A3 (N + 1) cd, .string s.now.ah, .string x] 102)).alloc (.cells #[.slice A3 (N + 1) cd, .string s.now.ah, .string x] 102)).drew := (((HU1.out.setCell (.inl rfl) _).alloc _).alloc _).drew
  have hBu : Blk (((w1.setCell ⟨p, 2, none⟩ (.slice none 0 0)).alloc (.cells #[.slice A3 (N + 1) cd, .string s.now.ah, .string x] 102)).alloc (.cells #[.slice A3 (N + 1) cd, .string s.now.ah, .string x] 102)).drew p 104 ({ s with now := g0, op := false, rv := .slice none 0 0, redo := [] } : LS).cells := by (apply Blk.eq_; (focus (repeat' (first | with_reducible exact HB1.out | with_reducible apply Blk.drewN | with_reducible apply Blk.drew | with_reducible apply Blk.set_ | with_reducible apply Blk.alloc))); all_goals (simp only [LS.cells, List.setIfInBounds_toArray, List.set_cons_succ, List.set_cons_zero] <;> rfl))
  have hB1 : Blk ((w1.setCell ⟨p, 2, none⟩ (.slice none 0 0)).alloc (.cells #[.slice A3 (N + 1) cd, .string s.now.ah, .string x] 102)) p 104 ({ s with now := g0, op := false, rv := .slice none 0 0, redo := [] } : LS).cells := by (apply Blk.eq_; (focus (repeat' (first | with_reducible exact HB1.out | with_reducible apply Blk.drewN | with_reducible apply Blk.drew | with_reducible apply Blk.set_ | with_reducible apply Blk.alloc))); all_goals (simp only [LS.cells, List.setIfInBounds_toArray, List.set_cons_succ, List.set_cons_zero] <;> rfl))
  have hB2 : Blk ((w1.setCell ⟨p, 2, none⟩ (.slice none 0 0)).alloc (.cells #[.slice A3 (N + 1) cd, .string s.now.ah, .string x] 102)) w1.heap.size 102 #[.slice A3 (N + 1) cd, .string s.now.ah, .string x] := blk_new_set w1 _ _ _ _
  have m0 := hB2.cell 0
  have m1 := hB2.cell 1
  have m2 := hB2.cell 2
  simp only [List.getElem?_toArray, List.getElem?_cons_succ, List.getElem?_cons_zero] at m0 m1 m2
  clear hB1 hB2
  have hor := HA.out.u.upd hWu (fun k hk e => HA.out.up (by rw [← e]; exact hk))
  rw [HUV.out, ← hn2] at hor
  have HOr := Lib.hid hor
  have hrn := reads_g ((w1.setCell ⟨p, 2, none⟩ (.slice none 0 0)).alloc (.cells #[.slice A3 (N + 1) cd, .string s.now.ah, .string x] 102)) ⟨.slice A3 (N + 1) cd, s.now.ds, s.now.ah, x⟩
  rw [show ((w1.setCell ⟨p, 2, none⟩ (.slice none 0 0)).alloc (.cells #[.slice A3 (N + 1) cd, .string s.now.ah, .string x] 102)).heap.size = w1.heap.size + 1 by simp [World.setCell]] at hrn
  have HRn := Lib.hid (Reads.drew hrn)
  have HC1 := Lib.hid (one_g ⟨.slice A3 (N + 1) cd, s.now.ds, s.now.ah, x⟩ _ _ _ rfl)
  have hfin : ∀ v5 w5, _ → _ → _ → _ := fun v5 w5 => At.kept (v5 := v5) (w5 := w5) HA.out HO.out HNE.out x HU1.out hWu hBu
  have hgg : ({ s.now with be := x } : Gr) = ⟨.slice A3 (N + 1) cd, s.now.ds, s.now.ah, x⟩ := by rw [← HDV.out]
  rw [hgg] at hfin
  have HFIN : Hid (∀ v5 w5, _ → _ → _ → _) := Lib.hid hfin
  have HUP := Lib.hid HA.out.up
  have HBu := Lib.hid hBu
  have HN2 := Lib.hid hn2
  have hn3 : n2 ≤ 2000 := by omega
  have HN := Lib.hid hN
  clear hor hrn hfin hgg hWu hBu hn2 hN
  go_region_law (first
    | (refine step_append_s (v := .slice A2 n2 cr) (by rfl) _ _ _ (by rfl) Tryd.underlying100 hi0 hz0 hz1 hz2 rfl (by omega) (by rfl) HOr.out (by rfl) HRn.out HC1.out (by unfold maxLen; omega) (by omega) ?_; intro v5 w5 ho5 hg5 hb5; have HO5 := Lib.hid ho5; have HG5 := Lib.hid hg5; have HB5 := Lib.hid hb5; have hb6 := HBu.out.upd (Upd.grown (S := fun k => (Value.slice A2 n2 cr).ownBlock = some k) HG5.out (fun k e => e)) (fun e => HUP.out (by rw [HUV.out, ← HN2.out]; exact e)); have f0 := hb6.cell 0; have f1 := hb6.cell 1; have ff := hb6.frozen; have hlp := hb6.lt; obtain ⟨g5, off5, c5, hv5, hl5, _⟩ := HO5.out.some_ (by omega); subst hv5; clear ho5 hg5 hb5 hb6; simp only [LS.cells, List.getElem?_toArray, List.getElem?_cons_succ, List.getElem?_cons_zero] at f0 f1; rw [HUV.out, ← HN2.out] at f1))
  all_goals
    have hfin := HFIN.out (.slice (some ⟨g5, off5, none⟩) (n2 + 1) c5) w5 (by rw [← HN2.out]; exact HO5.out) (by rw [HUV.out, ← HN2.out]; exact HG5.out) (by rw [HUV.out, ← HN2.out]; exact HB5.out)
    have HFN := Lib.hid hfin
    have HP6 := Lib.hid hfin.1.blk
    clear hfin
    by_cases htr : s.bound < n2 + 1
    · have g1 : decide (s.bound < n2 + 1) = true := by simp [htr]
      have g2 : decide ((s.bound : Int) < (n2 : Int) + 1) = true := by simp; omega
      have HGO : Hid (∀ v7 w7, OwnS w7 102 3 v7 n2 (((s.undo ++ [(⟨.slice A3 (N + 1) cd, s.now.ds, s.now.ah, x⟩ : Gr)]).drop 1).flatMap Gr.cells) → (∀ k, v7.ownBlock = some k → (w5.setCell ⟨p, 1, none⟩ (.slice (some ⟨g5, off5, none⟩) (n2 + 1) c5)).heap.size ≤ k) → Below (w5.setCell ⟨p, 1, none⟩ (.slice (some ⟨g5, off5, none⟩) (n2 + 1) c5)).heap.size (w5.setCell ⟨p, 1, none⟩ (.slice (some ⟨g5, off5, none⟩) (n2 + 1) c5)) w7 → ∃ s', At (w7.setCell ⟨p, 1, none⟩ v7) p s' ∧ s'.abs = s.abs.commit x ∧ Upd (foot p s) w (w7.setCell ⟨p, 1, none⟩ v7) ∧ Fr w p s s') := Lib.hid (fun v7 w7 h1 h2 h3 => by
        obtain ⟨ha, hu, _, hf⟩ := HFN.out
        obtain ⟨hA, hU, hF⟩ := ha.retail (v5 := v7) (w5 := w7) h3 (by
          show OwnS _ _ _ v7 ((s.undo ++ [_]).length - 1) _
          rw [List.length_append, ← HN2.out]
          exact h1) h2
        refine ⟨_, hA, ?_, hu.then_ hU (fun k hk => by subst hk; exact .inl (foot_p _ _)), hf.then_ hF hu.size⟩
        unfold LS.abs AS.commit
        dsimp only
        rw [HO.out]
        have hl : s.bound < (s.undo.map Gr.abs ++ [({ ds := s.now.ds, ah := s.now.ah, be := x } : AG A)]).length := by simp; have := HN2.out; omega
        simp [Gr.abs, HNE.out, trim]
        intro h
        have := HN2.out
        omega)
      rcases Nat.eq_zero_or_pos n2 with hz | hz
      · have HZ := Lib.hid hz
        by_cases hc5 : c5 = 1
        all_goals
          try subst hc5
          subst hz
          go_wp2
          go_quiet (fail)
          go_wp2
          go_ret
          refine ⟨by simp, HGO.out (.slice none 0 0) _ ?_ (fun k hk => by cases hk) (Below.drewN' (Below.refl _ _) _)⟩
          have hun : s.undo = [] := List.eq_nil_of_length_eq_zero HN2.out.symm
          rw [hun]
          exact OwnS.nil _ _ _
      · have hc5 : ¬ c5 = 1 := by omega
        have HONE : Hid (∀ u ∈ ((s.undo ++ [(⟨.slice A3 (N + 1) cd, s.now.ds, s.now.ah, x⟩ : Gr)]).drop 1).flatMap Gr.cells, u.oneCell' = true) := Lib.hid (one_gs _ (fun g hg => by
          obtain ⟨A, c, e, _⟩ := (HFN.out.1.d g (by
            unfold LS.groups
            exact List.mem_cons_of_mem _ (List.mem_append_left _ (List.mem_of_mem_drop hg)))).len
          exact ⟨A, _, c, e⟩))
        have HT : Hid (OwnS (w5.setCell ⟨p, 1, none⟩ (.slice (some ⟨g5, off5, none⟩) (n2 + 1) c5)) 102 3 (.slice (some ⟨g5, off5 + 3, none⟩) n2 (c5 - 1)) n2 (((s.undo ++ [(⟨.slice A3 (N + 1) cd, s.now.ds, s.now.ah, x⟩ : Gr)]).drop 1).flatMap Gr.cells)) := Lib.hid (by
          have h1 := HFN.out.1.u
          dsimp only at h1
          rw [List.length_append, ← HN2.out] at h1
          have h2 := OwnS.tail h1 (by simp; omega)
          rw [flat_drop1 _ (by simp)] at h2
          exact h2)
        go_wp2
        go_quiet (fail)
        go_wp2_with (at_builtin; refine wpList_append_s (v := .slice none 0 0) rfl (.const (.slice none 0 0)) (.tmp 51) _ rfl Tryd.underlying100 hi0 hz0 hz1 hz2 rfl (by omega) rfl (OwnS.nil _ _ _) rfl (by first | exact HT.out.reads | exact HT.out.reads.drewN _) HONE.out (by unfold maxLen; omega) (by omega) ?_; intro v7 w7 ho7 hg7 hk7; rw [Nat.zero_add, List.nil_append] at ho7; have HO7 := Lib.hid ho7; have HG7 := Lib.hid (below_undrewN (Upd.grown (S := No) hg7 (fun k e => by cases e)).no); have HK7 : Hid (∀ k, v7.ownBlock = some k → (w5.setCell ⟨p, 1, none⟩ (.slice (some ⟨g5, off5, none⟩) (n2 + 1) c5)).heap.size ≤ k) := Lib.hid (fun k hk => hk7.elim (fun e => by rw [e] at hk; cases hk) (fun e => e k hk)); have h0 := HP6.out.upd (Upd.below HG7.out No) (fun h => h); have k0 := h0.cell 0; have k1 := h0.cell 1; have kf := h0.frozen; have kl := h0.lt; obtain ⟨A7, c7, hv7, _⟩ := HO7.out.form; subst hv7; simp only [LS.cells, List.getElem?_toArray, List.getElem?_cons_succ, List.getElem?_cons_zero] at k0 k1; clear ho7 hg7 hk7 h0)
        go_ret
        refine ⟨by simp, HGO.out _ _ ?_ HK7.out HG7.out⟩
        exact HO7.out
    · have g1 : decide (s.bound < n2 + 1) = false := by simp; omega
      have g2 : decide ((s.bound : Int) < (n2 : Int) + 1) = false := by simp; omega
      go_wp2
      go_quiet (fail)
      go_wp2
      go_ret
      refine ⟨by simp, _, HFN.out.1.below (Below.drewN' (Below.refl _ _) _), ?_, HFN.out.2.1.drewN _, HFN.out.2.2.2⟩
      unfold LS.abs AS.commit
      dsimp only
      rw [HO.out]
      have hl : ¬ s.bound < (s.undo.map Gr.abs ++ [({ ds := s.now.ds, ah := s.now.ah, be := x } : AG A)]).length := by simp; have := HN2.out; omega
      simp [Gr.abs, HNE.out, trim]
      intro h
      have := HN2.out
      omega
end
end LogS
end Go.Proofs.YtkpcnfchhnfpoaaDoor
/- A log's Cancel. -/
set_option linter.unusedVariables false
namespace Go.Proofs.YtkpcnfchhnfpoaaDoor
open Go.RowKit Go.Proofs.YtkpcnfchhnfpoaaDoorW.PrintWords Go.Proofs.YtkpcnfchhnfpoaaDoor.Sep Log
namespace LogS
section
variable {w w' w1 w5 W : World} {p : Nat} {s s' : LS} {S : Nat → Prop} {init : List Gr} {g : Gr} {v5 : Value}
set_option maxHeartbeats 3200000
set_option maxRecDepth 100000
theorem cancel_no (h : At w p s) (ho : s.op = false) : Calls Tryd.prog 48 #[.pointer (some ⟨p, 0, none⟩)] w fun e w' => e = .returned (.tuple #[.slice none 0 0, .bool false]) ∧ w = w' := by
  obtain ⟨_, _, _, _, _, _, c6, -⟩ := h.cells
  rw [ho] at c6
  clear h ho
  go_enter Tryd.func48, Tryd.ntmps48
  go_wp2
  go_ret2
  exact ⟨rfl, rfl⟩
theorem flat_take : ∀ (ds : List Delta) (n : Nat), (ds.flatMap dcells).take (n * 3) = (ds.take n).flatMap dcells
  | [], n => by simp
  | d :: ds, 0 => by simp
  | d :: ds, n + 1 => by
    rw [List.flatMap_cons, List.take_succ_cons, List.flatMap_cons, ← flat_take ds n, show (n + 1) * 3 = 3 + n * 3 by omega]
    exact List.take_length_add_append (l₁ := dcells d) (n * 3)
theorem flat_drop : ∀ (ds : List Delta) (n : Nat), (ds.flatMap dcells).drop (n * 3) = (ds.drop n).flatMap dcells
  | [], n => by simp
  | d :: ds, 0 => by simp
  | d :: ds, n + 1 => by
    rw [List.flatMap_cons, List.drop_succ_cons, ← flat_drop ds n, show (n + 1) * 3 = 3 + n * 3 by omega]
    exact List.drop_length_add_append (l₁ := dcells d) (n * 3)
/-- What was cancelled goes back to undo, cut off. -/
def LS.back (s : LS) (v5 : Value) (A3 : Option Addr) : LS := { s with now := g0, op := false, uv := v5, undo := s.undo ++ [⟨.slice A3 s.fst s.fst, s.now.ds.take s.fst, s.now.ah, s.now.be⟩] }
theorem At.cancelled (h : At w p s) {A3 : Option Addr} {cd : Nat} (hdv : s.now.dv = .slice A3 s.now.ds.length cd) (hf : s.fst ≤ s.now.ds.length) (hW : Upd (fun k => k = p) w W)
    (hB : Blk W p 104 ({ s with now := g0, op := false } : LS).cells)
    (ho5 : OwnS w5 102 3 v5 (s.undo.length + 1) (s.undo.flatMap Gr.cells ++ (⟨.slice A3 s.fst s.fst, s.now.ds.take s.fst, s.now.ah, s.now.be⟩ : Gr).cells)) (hg5 : W.grownBy w5 s.uv.ownBlock) (hb5 : v5.ownBlock = s.uv.ownBlock ∨ ∀ k, v5.ownBlock = some k → W.heap.size ≤ k) :
    At (w5.setCell ⟨p, 1, none⟩ v5) p (s.back v5 A3) ∧ Upd (top p s) w (w5.setCell ⟨p, 1, none⟩ v5) ∧ Fr w p s (s.back v5 A3) ∧ ∀ k, foot p (s.back v5 A3) k → foot p s k ∨ W.heap.size ≤ k := by
  have hnm : s.now ∈ s.groups := by simp [LS.groups]
  have hu5 : Upd (fun k => k = p ∨ s.uv.ownBlock = some k) w w5 := (hW.mono (fun k e => .inl e)).then_ (Upd.grown (S := fun k => s.uv.ownBlock = some k) hg5 (fun k e => e)) (fun k hk => .inl (.inr hk))
  have hB5 : Blk w5 p 104 ({ s with now := g0, op := false } : LS).cells := hB.upd (Upd.grown (S := fun k => s.uv.ownBlock = some k) hg5 (fun k e => e)) h.up
  have hB6 : Blk (w5.setCell ⟨p, 1, none⟩ v5) p 104 (s.back v5 A3).cells := by
    unfold LS.back
    (apply Blk.eq_; (focus (repeat' (first | with_reducible exact hB5 | with_reducible apply Blk.drewN | with_reducible apply Blk.drew | with_reducible apply Blk.set_ | with_reducible apply Blk.alloc))); all_goals (simp only [LS.cells, List.setIfInBounds_toArray, List.set_cons_succ, List.set_cons_zero] <;> rfl))
  have hu6 : Upd (fun k => k = p ∨ s.uv.ownBlock = some k) w (w5.setCell ⟨p, 1, none⟩ v5) := hu5.setCell (.inl (.inl rfl)) _
  have hut : Upd (top p s) w (w5.setCell ⟨p, 1, none⟩ v5) := hu6.mono (fun k hk => hk.elim .inl (fun e => .inr (.inl e)))
  have hbl : (Value.slice A3 s.fst s.fst).ownBlock = s.now.dv.ownBlock := by rw [hdv]; cases A3 <;> rfl
  have hgrp : (s.back v5 A3).groups = g0 :: (s.undo ++ [⟨.slice A3 s.fst s.fst, s.now.ds.take s.fst, s.now.ah, s.now.be⟩] ++ s.redo) := rfl
  have hD := h.dKeep hut (fun k hk => hk)
  have hfo : ∀ k, foot p (s.back v5 A3) k → foot p s k ∨ W.heap.size ≤ k := by
    rintro k (hk | hk | hk | ⟨g, hg, hk⟩)
    · exact .inl (.inl hk)
    · rcases hb5 with hb | hb
      · exact .inl (.inr (.inl (by rw [← hb]; exact hk)))
      · exact .inr (hb k hk)
    · exact .inl (.inr (.inr (.inl hk)))
    · rw [hgrp] at hg
      simp only [List.mem_cons, List.mem_append, List.not_mem_nil, or_false] at hg
      rcases hg with rfl | (hg | rfl) | hg
      · cases hk
      · exact .inl (.inr (.inr (.inr ⟨g, by simp [LS.groups, hg], hk⟩)))
      · exact .inl (.inr (.inr (.inr ⟨s.now, hnm, by rw [← hbl]; exact hk⟩)))
      · exact .inl (.inr (.inr (.inr ⟨g, by simp [LS.groups, hg], hk⟩)))
  refine ⟨⟨hB6, ?_, ?_, fun k hk => ?_, fun g hg => ?_, ?_⟩, hut, fun k hk => (hfo k hk).imp id (fun e => Nat.le_trans hW.size e), hfo⟩
  · show OwnS _ _ _ v5 (s.undo ++ [_]).length ((s.undo ++ [_]).flatMap Gr.cells)
    rw [flat_push, List.length_append]
    exact ho5.keep (fun k hk => Below.heap_setCell _ _ _ _ (fun e => ho5.ne_blk hB5 (by decide) (by rw [hk, e])))
  · refine h.r.upd hu6 (fun k hk e => ?_)
    rcases e with rfl | e
    · exact h.rp hk
    · exact h.ur k e hk
  · intro hr
    rcases hb5 with hb | hb
    · exact h.ur k (by rw [← hb]; exact hk) hr
    · have h1 := hb k hk
      have h2 := h.r.lt k hr
      have h3 := hW.size
      omega
  · rw [hgrp] at hg
    simp only [List.mem_cons, List.mem_append, List.not_mem_nil, or_false] at hg
    rcases hg with rfl | (hg | rfl) | hg
    · exact OwnS.nil _ _ _
    · exact hD g (by simp [LS.groups, hg])
    · have h1 := hD s.now hnm
      unfold OwnD at h1 ⊢
      rw [hdv] at h1
      have h2 := OwnS.clip h1 s.fst hf
      dsimp only
      rw [List.length_take, Nat.min_eq_left hf]
      have h3 : (s.now.ds.flatMap dcells).take (s.fst * 3) = (s.now.ds.take s.fst).flatMap dcells := flat_take _ _
      rw [h3] at h2
      exact h2
    · exact hD g (by simp [LS.groups, hg])
  · rw [hgrp]
    have h1 := h.ap
    unfold blocks LS.groups at h1
    unfold blocks
    rw [List.filterMap_cons]
    simp only [g0, Value.ownBlock]
    have h3 : (List.filterMap (fun g : Gr => g.dv.ownBlock) ((⟨.slice A3 s.fst s.fst, s.now.ds.take s.fst, s.now.ah, s.now.be⟩ : Gr) :: (s.undo ++ s.redo))).Nodup := by
      rw [List.filterMap_cons] at h1 ⊢
      rw [hbl]
      exact h1
    refine List.Perm.nodup (List.Perm.filterMap _ ?_) h3
    rw [List.append_assoc, List.singleton_append]
    exact List.perm_middle.symm
end
end LogS
end Go.Proofs.YtkpcnfchhnfpoaaDoor
/- A log's Cancel, walked. Printed by a program of this claim. -/
set_option linter.unusedVariables false
namespace Go.Proofs.YtkpcnfchhnfpoaaDoor
open Go.RowKit Go.Proofs.YtkpcnfchhnfpoaaDoorW.PrintWords Go.Proofs.YtkpcnfchhnfpoaaDoor.Sep Log
namespace LogS
section
variable {w w' w1 w5 W : World} {p : Nat} {s s' : LS} {S : Nat → Prop} {init : List Gr} {g : Gr} {v5 : Value}
set_option maxHeartbeats 3200000
set_option maxRecDepth 100000
theorem reads_nil (w : World) (B : Nat) (A : Option Addr) : ReadsD w B A 0 [] := ⟨rfl, Reads.none_⟩
theorem gdr {w w' : World} {row : Option Nat} (h : w.drew.drew.grownBy w' row) : w.grownBy w' row := ⟨h.os, h.tape, h.output, h.size, h.block⟩
theorem below_of_drew {w w' : World} (h : Below w.drew.heap.size w.drew w') : Below w.heap.size w w' := ⟨h.os, h.tape, h.output, h.size, h.block⟩

theorem cancel_nil_false (h : At w p s) (ho : s.op = true) (hres : s.res = false) (hdv : s.now.dv = .slice none 0 0) (hfs : s.fst = 0) (hD : s.now.ds.drop s.fst = []) (hN : s.now.ds.length = 0) (hf : s.fst ≤ s.now.ds.length) (hn : s.now.ds.length ≤ 1000000000000) (hun : s.undo.length ≤ 2000) :
    Calls Tryd.prog 48 #[.pointer (some ⟨p, 0, none⟩)] w fun e w' => ∃ v s', e = .returned (.tuple #[v, .bool true]) ∧ OwnD w' v s.abs.cancelL ∧ (∀ k, v.ownBlock = some k → w.heap.size ≤ k ∧ ¬ foot p s' k) ∧ At w' p s' ∧ s'.abs = s.abs.cancel ∧ Upd (foot p s) w w' ∧ Fr w p s s' := by
  obtain ⟨i0, hi0, hz0, hz1, hz2⟩ := info_parts info_g
  obtain ⟨_, _, _, _, _, _, c6, -⟩ := h.cells
  rw [ho] at c6
  have hpw := h.blk.lt
  have HC := close_ h
  rw [hdv] at HC
  have HCL := Lib.hid HC
  have HCA : Hid (s.abs.cancelL = back (s.now.ds.drop s.fst)) := Lib.hid (by unfold LS.abs AS.cancelL; dsimp only; rw [ho]; rfl)
  have HAB : Hid (s.abs.cancel = _) := Lib.hid (show s.abs.cancel = { s.abs with cur := none, undo := if s.res = true then s.abs.undo ++ [{ s.now.abs with ds := s.now.ds.take s.fst }] else s.abs.undo } by unfold LS.abs AS.cancel; dsimp only; rw [ho]; rfl)
  have HO := Lib.hid ho
  have HA := Lib.hid h
  have HDV := Lib.hid hdv
  have HRES := Lib.hid hres
  have HFS := Lib.hid hfs
  have HF := Lib.hid hf
  have HN := Lib.hid hn
  have HLN := Lib.hid hN
  obtain ⟨A2, cr, huv, hul⟩ := h.u.form
  have HUV := Lib.hid huv
  obtain ⟨n2, hn2⟩ : ∃ n2, n2 = s.undo.length := ⟨_, rfl⟩
  have HN2 := Lib.hid hn2
  have hn3 : n2 ≤ 2000 := by omega
  have HD := Lib.hid hD
  clear hD
  clear h ho hdv hres hfs hf hn hN HC huv hn2 hul hun
  go_enter Tryd.func48, Tryd.ntmps48
  go_wp2_with (go_at_call 70; refine HCL.out.mono ?_; rintro e w1 ⟨rfl, hb, hu⟩; have d6 := hb.cell 8; have df := hb.frozen; simp only [LS.cells, List.getElem?_toArray, List.getElem?_cons_succ, List.getElem?_cons_zero] at d6; rw [HFS.out] at d6; have hp1 := hb.lt; have HB1 := Lib.hid hb; have HU1 := Lib.hid hu; clear hb hu)
  have HBq : Hid (Blk (w1.alloc (.cells #[.slice none 0 0, .string s.now.ah, .string s.now.be] 102)) w1.heap.size 102 #[.slice none 0 0, .string s.now.ah, .string s.now.be]) := Lib.hid (Blk.new w1 _ _)
  have HBp := Lib.hid (HB1.out.alloc (.cells #[.slice none 0 0, .string s.now.ah, .string s.now.be] 102))
  have HINV : Hid (∀ w0 : World, w0 = (w1.alloc (.cells #[.slice none 0 0, .string s.now.ah, .string s.now.be] 102)).drew → ∀ A' n' c', ReadsD (w1.alloc (.cells #[.slice none 0 0, .string s.now.ah, .string s.now.be] 102)) (w1.alloc (.cells #[.slice none 0 0, .string s.now.ah, .string s.now.be] 102)).heap.size A' n' [] → Calls Tryd.prog 59 #[.slice A' n' c'] w0 _) := Lib.hid (fun w0 e A' n' c' hr => by subst e; exact inverted_p (w1.alloc (.cells #[.slice none 0 0, .string s.now.ah, .string s.now.be] 102)).drew A' n' c' [] hr (by rw [← hr.1]; simp))
  have m0 := HBq.out.cell 0
  have m6 := HBp.out.cell 8
  simp only [LS.cells, List.getElem?_toArray, List.getElem?_cons_succ, List.getElem?_cons_zero] at m0 m6
  rw [HFS.out] at m6
  go_region_held3 (fun w' => w'.cell? ⟨w1.heap.size, 0, none⟩ = some (.slice none 0 0) ∧ w'.cell? ⟨p, 8, none⟩ = some (.int .i64 ((0 : Nat) : Int)))
    (first | go_keep | exact ⟨l0, e6⟩ | exact ⟨m0, m6⟩)
    ((go_at_call 59; refine (HINV.out _ rfl _ _ _ (reads_nil _ _ _)).mono ?_; rintro e w7 ⟨v7, rfl, ho7, hk7, hb7⟩; have hb7 := below_of_drew hb7; have hp7 := HBp.out.upd (Upd.below hb7 No) (fun h => h); have hq7 := HBq.out.upd (Upd.below hb7 No) (fun h => h); have e1 := hp7.cell 1; have e5 := hp7.cell 7; have e6 := hp7.cell 8; have ef := hp7.frozen; have lf := hq7.frozen; have l0 := hq7.cell 0; have l1 := hq7.cell 1; have l2 := hq7.cell 2; simp only [LS.cells, List.getElem?_toArray, List.getElem?_cons_succ, List.getElem?_cons_zero] at e1 e5 e6 l0 l1 l2; rw [HUV.out, ← HN2.out] at e1; rw [HRES.out] at e5; rw [HFS.out] at e6; have hlp := hp7.lt; have hlq := hq7.lt; have HP7 := Lib.hid hp7; have HQ7 := Lib.hid hq7; have HO7 := Lib.hid ho7; have HK7 := Lib.hid hk7; have HW7 := Lib.hid hb7; clear ho7 hk7 hb7 hp7 hq7))
  go_wp2
  go_ret2
  have hub : Upd (fun k => k = p) w w7 := (HU1.out.alloc _).then_ (Upd.below HW7.out No) (fun k hk => hk.elim)
  refine ⟨_, _, rfl, ?_, fun k hk => ?_, HA.out.closed hub HP7.out, ?_, Upd.foot1 hub, Fr.top rfl rfl rfl rfl (.inr rfl)⟩
  · rw [HCA.out]
    rw [HD.out]
    exact HO7.out
  · have h1 : (w1.alloc (.cells #[.slice none 0 0, .string s.now.ah, .string s.now.be] 102)).heap.size ≤ k := HK7.out k hk
    have h2 := HU1.out.size
    simp at h1
    refine ⟨by omega, fun hf => ?_⟩
    have h3 : At w1 p _ := HA.out.closed HU1.out HB1.out
    have := h3.lt k hf
    omega
  · rw [HAB.out, HRES.out]
    rfl

theorem cancel_nil_true (h : At w p s) (ho : s.op = true) (hres : s.res = true) (hdv : s.now.dv = .slice none 0 0) (hfs : s.fst = 0) (hD : s.now.ds.drop s.fst = []) (hN : s.now.ds.length = 0) (hf : s.fst ≤ s.now.ds.length) (hn : s.now.ds.length ≤ 1000000000000) (hun : s.undo.length ≤ 2000) :
    Calls Tryd.prog 48 #[.pointer (some ⟨p, 0, none⟩)] w fun e w' => ∃ v s', e = .returned (.tuple #[v, .bool true]) ∧ OwnD w' v s.abs.cancelL ∧ (∀ k, v.ownBlock = some k → w.heap.size ≤ k ∧ ¬ foot p s' k) ∧ At w' p s' ∧ s'.abs = s.abs.cancel ∧ Upd (foot p s) w w' ∧ Fr w p s s' := by
  obtain ⟨i0, hi0, hz0, hz1, hz2⟩ := info_parts info_g
  obtain ⟨_, _, _, _, _, _, c6, -⟩ := h.cells
  rw [ho] at c6
  have hpw := h.blk.lt
  have HC := close_ h
  rw [hdv] at HC
  have HCL := Lib.hid HC
  have HCA : Hid (s.abs.cancelL = back (s.now.ds.drop s.fst)) := Lib.hid (by unfold LS.abs AS.cancelL; dsimp only; rw [ho]; rfl)
  have HAB : Hid (s.abs.cancel = _) := Lib.hid (show s.abs.cancel = { s.abs with cur := none, undo := if s.res = true then s.abs.undo ++ [{ s.now.abs with ds := s.now.ds.take s.fst }] else s.abs.undo } by unfold LS.abs AS.cancel; dsimp only; rw [ho]; rfl)
  have HO := Lib.hid ho
  have HA := Lib.hid h
  have HDV := Lib.hid hdv
  have HRES := Lib.hid hres
  have HFS := Lib.hid hfs
  have HF := Lib.hid hf
  have HN := Lib.hid hn
  have HLN := Lib.hid hN
  obtain ⟨A2, cr, huv, hul⟩ := h.u.form
  have HUV := Lib.hid huv
  obtain ⟨n2, hn2⟩ : ∃ n2, n2 = s.undo.length := ⟨_, rfl⟩
  have HN2 := Lib.hid hn2
  have hn3 : n2 ≤ 2000 := by omega
  have HD := Lib.hid hD
  clear hD
  clear h ho hdv hres hfs hf hn hN HC huv hn2 hul hun
  go_enter Tryd.func48, Tryd.ntmps48
  go_wp2_with (go_at_call 70; refine HCL.out.mono ?_; rintro e w1 ⟨rfl, hb, hu⟩; have d6 := hb.cell 8; have df := hb.frozen; simp only [LS.cells, List.getElem?_toArray, List.getElem?_cons_succ, List.getElem?_cons_zero] at d6; rw [HFS.out] at d6; have hp1 := hb.lt; have HB1 := Lib.hid hb; have HU1 := Lib.hid hu; clear hb hu)
  have HBq : Hid (Blk (w1.alloc (.cells #[.slice none 0 0, .string s.now.ah, .string s.now.be] 102)) w1.heap.size 102 #[.slice none 0 0, .string s.now.ah, .string s.now.be]) := Lib.hid (Blk.new w1 _ _)
  have HBp := Lib.hid (HB1.out.alloc (.cells #[.slice none 0 0, .string s.now.ah, .string s.now.be] 102))
  have HINV : Hid (∀ w0 : World, w0 = (w1.alloc (.cells #[.slice none 0 0, .string s.now.ah, .string s.now.be] 102)).drew → ∀ A' n' c', ReadsD (w1.alloc (.cells #[.slice none 0 0, .string s.now.ah, .string s.now.be] 102)) (w1.alloc (.cells #[.slice none 0 0, .string s.now.ah, .string s.now.be] 102)).heap.size A' n' [] → Calls Tryd.prog 59 #[.slice A' n' c'] w0 _) := Lib.hid (fun w0 e A' n' c' hr => by subst e; exact inverted_p (w1.alloc (.cells #[.slice none 0 0, .string s.now.ah, .string s.now.be] 102)).drew A' n' c' [] hr (by rw [← hr.1]; simp))
  have m0 := HBq.out.cell 0
  have m6 := HBp.out.cell 8
  simp only [LS.cells, List.getElem?_toArray, List.getElem?_cons_succ, List.getElem?_cons_zero] at m0 m6
  rw [HFS.out] at m6
  go_region_held3 (fun w' => w'.cell? ⟨w1.heap.size, 0, none⟩ = some (.slice none 0 0) ∧ w'.cell? ⟨p, 8, none⟩ = some (.int .i64 ((0 : Nat) : Int)))
    (first | go_keep | exact ⟨l0, e6⟩ | exact ⟨m0, m6⟩)
    ((go_at_call 59; refine (HINV.out _ rfl _ _ _ (reads_nil _ _ _)).mono ?_; rintro e w7 ⟨v7, rfl, ho7, hk7, hb7⟩; have hb7 := below_of_drew hb7; have hp7 := HBp.out.upd (Upd.below hb7 No) (fun h => h); have hq7 := HBq.out.upd (Upd.below hb7 No) (fun h => h); have e1 := hp7.cell 1; have e5 := hp7.cell 7; have e6 := hp7.cell 8; have ef := hp7.frozen; have lf := hq7.frozen; have l0 := hq7.cell 0; have l1 := hq7.cell 1; have l2 := hq7.cell 2; simp only [LS.cells, List.getElem?_toArray, List.getElem?_cons_succ, List.getElem?_cons_zero] at e1 e5 e6 l0 l1 l2; rw [HUV.out, ← HN2.out] at e1; rw [HRES.out] at e5; rw [HFS.out] at e6; have hlp := hp7.lt; have hlq := hq7.lt; have HP7 := Lib.hid hp7; have HQ7 := Lib.hid hq7; have HO7 := Lib.hid ho7; have HK7 := Lib.hid hk7; have HW7 := Lib.hid hb7; clear ho7 hk7 hb7 hp7 hq7))
  have hqp : ¬ p = w1.heap.size := by omega
  have hqp2 : ¬ w1.heap.size = p := by omega
  have hub : Upd (fun k => k = p) w w7 := (HU1.out.alloc _).then_ (Upd.below HW7.out No) (fun k hk => hk.elim)
  have hws : w.heap.size ≤ w1.heap.size := HU1.out.size
  have hWu : Upd (fun k => k = p) w ((w7.setCell ⟨w1.heap.size, 0, none⟩ (.slice none 0 0)).alloc (.cells #[.slice none 0 0, .string s.now.ah, .string s.now.be] 102)) := (hub.setCell (.inr hws) _).alloc _
  have hWB : Blk ((w7.setCell ⟨w1.heap.size, 0, none⟩ (.slice none 0 0)).alloc (.cells #[.slice none 0 0, .string s.now.ah, .string s.now.be] 102)) p 104 ({ s with now := g0, op := false } : LS).cells := (HP7.out.far (p := ⟨w1.heap.size, 0, none⟩) hqp _).alloc _
  have hor := HA.out.u.upd hWu (fun k hk e => HA.out.up (by rw [← e]; exact hk))
  rw [HUV.out, ← HN2.out] at hor
  have HOr := Lib.hid hor
  have hrn := reads_g (w7.setCell ⟨w1.heap.size, 0, none⟩ (.slice none 0 0)) ⟨.slice none 0 0, s.now.ds.take s.fst, s.now.ah, s.now.be⟩
  rw [show (w7.setCell ⟨w1.heap.size, 0, none⟩ (.slice none 0 0)).heap.size = w7.heap.size by simp [World.setCell]] at hrn
  have HRn := Lib.hid hrn
  have HC1 := Lib.hid (one_g ⟨.slice none 0 0, s.now.ds.take s.fst, s.now.ah, s.now.be⟩ _ _ _ rfl)
  have HFIN : Hid (∀ v5 w5, _ → _ → _ → _) := Lib.hid (fun v5 w5 => At.cancelled (v5 := v5) (w5 := w5) HA.out (A3 := none) (cd := 0) (HDV.out.trans (by rw [HLN.out])) HF.out hWu hWB)
  have HWu := Lib.hid hWu
  have HWB := Lib.hid hWB
  have HUP := Lib.hid HA.out.up
  clear hor hrn hWu hWB
  go_wp2
  go_region
  all_goals
    go_wp2
    go_region_law (first
      | (refine step_append_s (v := .slice A2 n2 cr) (by rfl) _ _ _ (by rfl) Tryd.underlying100 hi0 hz0 hz1 hz2 rfl (by omega) (by rfl) HOr.out (by rfl) HRn.out HC1.out (by unfold maxLen; omega) (by omega) ?_; intro v5 w5 ho5 hg5 hb5; have HO5 := Lib.hid ho5; have HG5 := Lib.hid (gdr hg5); have HB5 := Lib.hid hb5; have hb6 := HWB.out.upd (Upd.grown (S := fun k => (Value.slice A2 n2 cr).ownBlock = some k) HG5.out (fun k e => e)) (fun e => HUP.out (by rw [HUV.out, ← HN2.out]; exact e)); have f0 := hb6.cell 0; have f1 := hb6.cell 1; have ff := hb6.frozen; have hlp5 := hb6.lt; obtain ⟨A5, c5, hv5, hl5⟩ := HO5.out.form; subst hv5; clear ho5 hg5 hb5 hb6; simp only [LS.cells, List.getElem?_toArray, List.getElem?_cons_succ, List.getElem?_cons_zero] at f0 f1; rw [HUV.out, ← HN2.out] at f1))
  all_goals
    have hfin := HFIN.out (.slice A5 (n2 + 1) c5) w5 (by rw [← HN2.out]; show OwnS _ _ _ _ _ (_ ++ Gr.cells ⟨.slice _ s.fst s.fst, _, _, _⟩); rw [HFS.out]; exact HO5.out) (by rw [HUV.out, ← HN2.out]; exact HG5.out) (by rw [HUV.out, ← HN2.out]; exact HB5.out)
    have HFN := Lib.hid hfin
    clear hfin
    go_wp2
    go_ret2
    obtain ⟨hA, hU, hF, hF2⟩ := HFN.out
    have hvk : ∀ k, v7.ownBlock = some k → w1.heap.size < k ∧ k < w7.heap.size := fun k hk => by
      have h1 : (w1.alloc (.cells #[.slice none 0 0, .string s.now.ah, .string s.now.be] 102)).heap.size ≤ k := HK7.out k hk
      have h2 := OwnS.lt HO7.out k hk
      simp at h1
      omega
    refine ⟨_, _, rfl, ?_, fun k hk => ?_, hA, ?_, hU.mono (fun k hk => At.topFoot k hk), hF⟩
    · rw [HCA.out]
      have hu8 : Upd (fun k => k = w1.heap.size ∨ k = p ∨ s.uv.ownBlock = some k) w7 (w5.setCell ⟨p, 1, none⟩ (.slice A5 (n2 + 1) c5)) := by
        have a1 : Upd (fun k => k = w1.heap.size ∨ k = p ∨ s.uv.ownBlock = some k) w7 ((w7.setCell ⟨w1.heap.size, 0, none⟩ (.slice none 0 0)).alloc (.cells #[.slice none 0 0, .string s.now.ah, .string s.now.be] 102)) := ((Upd.refl _ _).setCell (.inl (.inl rfl)) _).alloc _
        have a2 := a1.trans (Upd.grown (S := fun k => k = w1.heap.size ∨ k = p ∨ s.uv.ownBlock = some k) HG5.out (fun k e => .inr (.inr (by rw [HUV.out, ← HN2.out]; exact e))))
        exact a2.setCell (.inl (.inr (.inl rfl))) _
      have h9 := OwnS.upd HO7.out hu8 (fun k hk e => by
        obtain ⟨h1, h2⟩ := hvk k hk
        rcases e with e | e | e
        · omega
        · omega
        · have := HA.out.u.lt k e
          omega)
      rw [HD.out]
      exact h9
    · obtain ⟨h1, h2⟩ := hvk k hk
      refine ⟨by omega, fun hf => ?_⟩
      rcases hF2 k hf with e | e
      · have := HA.out.lt k e
        omega
      · simp [World.setCell] at e
        omega
    · rw [HAB.out, HRES.out]
      unfold LS.back LS.abs
      simp [Gr.abs]

theorem cancel_end1_false (h : At w p s) (ho : s.op = true) (hres : s.res = false) (g3 off3 f : Nat) (hdv : s.now.dv = .slice (some ⟨g3, off3, none⟩) f f) (hfs : s.fst = f) (hD : s.now.ds.drop s.fst = []) (hN : s.now.ds.length = f) (hf : s.fst ≤ s.now.ds.length) (hn : s.now.ds.length ≤ 1000000000000) (hun : s.undo.length ≤ 2000) :
    Calls Tryd.prog 48 #[.pointer (some ⟨p, 0, none⟩)] w fun e w' => ∃ v s', e = .returned (.tuple #[v, .bool true]) ∧ OwnD w' v s.abs.cancelL ∧ (∀ k, v.ownBlock = some k → w.heap.size ≤ k ∧ ¬ foot p s' k) ∧ At w' p s' ∧ s'.abs = s.abs.cancel ∧ Upd (foot p s) w w' ∧ Fr w p s s' := by
  obtain ⟨i0, hi0, hz0, hz1, hz2⟩ := info_parts info_g
  obtain ⟨_, _, _, _, _, _, c6, -⟩ := h.cells
  rw [ho] at c6
  have hpw := h.blk.lt
  have HC := close_ h
  rw [hdv] at HC
  have HCL := Lib.hid HC
  have HCA : Hid (s.abs.cancelL = back (s.now.ds.drop s.fst)) := Lib.hid (by unfold LS.abs AS.cancelL; dsimp only; rw [ho]; rfl)
  have HAB : Hid (s.abs.cancel = _) := Lib.hid (show s.abs.cancel = { s.abs with cur := none, undo := if s.res = true then s.abs.undo ++ [{ s.now.abs with ds := s.now.ds.take s.fst }] else s.abs.undo } by unfold LS.abs AS.cancel; dsimp only; rw [ho]; rfl)
  have HO := Lib.hid ho
  have HA := Lib.hid h
  have HDV := Lib.hid hdv
  have HRES := Lib.hid hres
  have HFS := Lib.hid hfs
  have HF := Lib.hid hf
  have HN := Lib.hid hn
  have HLN := Lib.hid hN
  obtain ⟨A2, cr, huv, hul⟩ := h.u.form
  have HUV := Lib.hid huv
  obtain ⟨n2, hn2⟩ : ∃ n2, n2 = s.undo.length := ⟨_, rfl⟩
  have HN2 := Lib.hid hn2
  have hn3 : n2 ≤ 2000 := by omega
  have HD := Lib.hid hD
  clear hD
  have hN1 : f ≤ 1000000000000 := by omega
  clear h ho hdv hres hfs hf hn hN HC huv hn2 hul hun
  go_enter Tryd.func48, Tryd.ntmps48
  go_wp2_with (go_at_call 70; refine HCL.out.mono ?_; rintro e w1 ⟨rfl, hb, hu⟩; have d6 := hb.cell 8; have df := hb.frozen; simp only [LS.cells, List.getElem?_toArray, List.getElem?_cons_succ, List.getElem?_cons_zero] at d6; rw [HFS.out] at d6; have hp1 := hb.lt; have HB1 := Lib.hid hb; have HU1 := Lib.hid hu; clear hb hu)
  have HBq : Hid (Blk (w1.alloc (.cells #[.slice (some ⟨g3, off3, none⟩) f f, .string s.now.ah, .string s.now.be] 102)) w1.heap.size 102 #[.slice (some ⟨g3, off3, none⟩) f f, .string s.now.ah, .string s.now.be]) := Lib.hid (Blk.new w1 _ _)
  have HBp := Lib.hid (HB1.out.alloc (.cells #[.slice (some ⟨g3, off3, none⟩) f f, .string s.now.ah, .string s.now.be] 102))
  have HINV : Hid (∀ w0 : World, w0 = (w1.alloc (.cells #[.slice (some ⟨g3, off3, none⟩) f f, .string s.now.ah, .string s.now.be] 102)).drew → ∀ A' n' c', ReadsD (w1.alloc (.cells #[.slice (some ⟨g3, off3, none⟩) f f, .string s.now.ah, .string s.now.be] 102)) (w1.alloc (.cells #[.slice (some ⟨g3, off3, none⟩) f f, .string s.now.ah, .string s.now.be] 102)).heap.size A' n' [] → Calls Tryd.prog 59 #[.slice A' n' c'] w0 _) := Lib.hid (fun w0 e A' n' c' hr => by subst e; exact inverted_p (w1.alloc (.cells #[.slice (some ⟨g3, off3, none⟩) f f, .string s.now.ah, .string s.now.be] 102)).drew A' n' c' [] hr (by rw [← hr.1]; simp))
  have m0 := HBq.out.cell 0
  have m6 := HBp.out.cell 8
  simp only [LS.cells, List.getElem?_toArray, List.getElem?_cons_succ, List.getElem?_cons_zero] at m0 m6
  rw [HFS.out] at m6
  go_region_held3 (fun w' => w'.cell? ⟨w1.heap.size, 0, none⟩ = some (.slice (some ⟨g3, off3, none⟩) f f) ∧ w'.cell? ⟨p, 8, none⟩ = some (.int .i64 ((f : Nat) : Int)))
    (first | go_keep | exact ⟨l0, e6⟩ | exact ⟨m0, m6⟩)
    ((go_at_call 59; refine (HINV.out _ rfl _ _ _ (reads_nil _ _ _)).mono ?_; rintro e w7 ⟨v7, rfl, ho7, hk7, hb7⟩; have hb7 := below_of_drew hb7; have hp7 := HBp.out.upd (Upd.below hb7 No) (fun h => h); have hq7 := HBq.out.upd (Upd.below hb7 No) (fun h => h); have e1 := hp7.cell 1; have e5 := hp7.cell 7; have e6 := hp7.cell 8; have ef := hp7.frozen; have lf := hq7.frozen; have l0 := hq7.cell 0; have l1 := hq7.cell 1; have l2 := hq7.cell 2; simp only [LS.cells, List.getElem?_toArray, List.getElem?_cons_succ, List.getElem?_cons_zero] at e1 e5 e6 l0 l1 l2; rw [HUV.out, ← HN2.out] at e1; rw [HRES.out] at e5; rw [HFS.out] at e6; have hlp := hp7.lt; have hlq := hq7.lt; have HP7 := Lib.hid hp7; have HQ7 := Lib.hid hq7; have HO7 := Lib.hid ho7; have HK7 := Lib.hid hk7; have HW7 := Lib.hid hb7; clear ho7 hk7 hb7 hp7 hq7))
  go_wp2
  go_ret2
  have hub : Upd (fun k => k = p) w w7 := (HU1.out.alloc _).then_ (Upd.below HW7.out No) (fun k hk => hk.elim)
  refine ⟨_, _, rfl, ?_, fun k hk => ?_, HA.out.closed hub HP7.out, ?_, Upd.foot1 hub, Fr.top rfl rfl rfl rfl (.inr rfl)⟩
  · rw [HCA.out]
    rw [HD.out]
    exact HO7.out
  · have h1 : (w1.alloc (.cells #[.slice (some ⟨g3, off3, none⟩) f f, .string s.now.ah, .string s.now.be] 102)).heap.size ≤ k := HK7.out k hk
    have h2 := HU1.out.size
    simp at h1
    refine ⟨by omega, fun hf => ?_⟩
    have h3 : At w1 p _ := HA.out.closed HU1.out HB1.out
    have := h3.lt k hf
    omega
  · rw [HAB.out, HRES.out]
    rfl

theorem cancel_end1_true (h : At w p s) (ho : s.op = true) (hres : s.res = true) (g3 off3 f : Nat) (hdv : s.now.dv = .slice (some ⟨g3, off3, none⟩) f f) (hfs : s.fst = f) (hD : s.now.ds.drop s.fst = []) (hN : s.now.ds.length = f) (hf : s.fst ≤ s.now.ds.length) (hn : s.now.ds.length ≤ 1000000000000) (hun : s.undo.length ≤ 2000) :
    Calls Tryd.prog 48 #[.pointer (some ⟨p, 0, none⟩)] w fun e w' => ∃ v s', e = .returned (.tuple #[v, .bool true]) ∧ OwnD w' v s.abs.cancelL ∧ (∀ k, v.ownBlock = some k → w.heap.size ≤ k ∧ ¬ foot p s' k) ∧ At w' p s' ∧ s'.abs = s.abs.cancel ∧ Upd (foot p s) w w' ∧ Fr w p s s' := by
  obtain ⟨i0, hi0, hz0, hz1, hz2⟩ := info_parts info_g
  obtain ⟨_, _, _, _, _, _, c6, -⟩ := h.cells
  rw [ho] at c6
  have hpw := h.blk.lt
  have HC := close_ h
  rw [hdv] at HC
  have HCL := Lib.hid HC
  have HCA : Hid (s.abs.cancelL = back (s.now.ds.drop s.fst)) := Lib.hid (by unfold LS.abs AS.cancelL; dsimp only; rw [ho]; rfl)
  have HAB : Hid (s.abs.cancel = _) := Lib.hid (show s.abs.cancel = { s.abs with cur := none, undo := if s.res = true then s.abs.undo ++ [{ s.now.abs with ds := s.now.ds.take s.fst }] else s.abs.undo } by unfold LS.abs AS.cancel; dsimp only; rw [ho]; rfl)
  have HO := Lib.hid ho
  have HA := Lib.hid h
  have HDV := Lib.hid hdv
  have HRES := Lib.hid hres
  have HFS := Lib.hid hfs
  have HF := Lib.hid hf
  have HN := Lib.hid hn
  have HLN := Lib.hid hN
  obtain ⟨A2, cr, huv, hul⟩ := h.u.form
  have HUV := Lib.hid huv
  obtain ⟨n2, hn2⟩ : ∃ n2, n2 = s.undo.length := ⟨_, rfl⟩
  have HN2 := Lib.hid hn2
  have hn3 : n2 ≤ 2000 := by omega
  have HD := Lib.hid hD
  clear hD
  have hN1 : f ≤ 1000000000000 := by omega
  clear h ho hdv hres hfs hf hn hN HC huv hn2 hul hun
  go_enter Tryd.func48, Tryd.ntmps48
  go_wp2_with (go_at_call 70; refine HCL.out.mono ?_; rintro e w1 ⟨rfl, hb, hu⟩; have d6 := hb.cell 8; have df := hb.frozen; simp only [LS.cells, List.getElem?_toArray, List.getElem?_cons_succ, List.getElem?_cons_zero] at d6; rw [HFS.out] at d6; have hp1 := hb.lt; have HB1 := Lib.hid hb; have HU1 := Lib.hid hu; clear hb hu)
  have HBq : Hid (Blk (w1.alloc (.cells #[.slice (some ⟨g3, off3, none⟩) f f, .string s.now.ah, .string s.now.be] 102)) w1.heap.size 102 #[.slice (some ⟨g3, off3, none⟩) f f, .string s.now.ah, .string s.now.be]) := Lib.hid (Blk.new w1 _ _)
  have HBp := Lib.hid (HB1.out.alloc (.cells #[.slice (some ⟨g3, off3, none⟩) f f, .string s.now.ah, .string s.now.be] 102))
  have HINV : Hid (∀ w0 : World, w0 = (w1.alloc (.cells #[.slice (some ⟨g3, off3, none⟩) f f, .string s.now.ah, .string s.now.be] 102)).drew → ∀ A' n' c', ReadsD (w1.alloc (.cells #[.slice (some ⟨g3, off3, none⟩) f f, .string s.now.ah, .string s.now.be] 102)) (w1.alloc (.cells #[.slice (some ⟨g3, off3, none⟩) f f, .string s.now.ah, .string s.now.be] 102)).heap.size A' n' [] → Calls Tryd.prog 59 #[.slice A' n' c'] w0 _) := Lib.hid (fun w0 e A' n' c' hr => by subst e; exact inverted_p (w1.alloc (.cells #[.slice (some ⟨g3, off3, none⟩) f f, .string s.now.ah, .string s.now.be] 102)).drew A' n' c' [] hr (by rw [← hr.1]; simp))
  have m0 := HBq.out.cell 0
  have m6 := HBp.out.cell 8
  simp only [LS.cells, List.getElem?_toArray, List.getElem?_cons_succ, List.getElem?_cons_zero] at m0 m6
  rw [HFS.out] at m6
  go_region_held3 (fun w' => w'.cell? ⟨w1.heap.size, 0, none⟩ = some (.slice (some ⟨g3, off3, none⟩) f f) ∧ w'.cell? ⟨p, 8, none⟩ = some (.int .i64 ((f : Nat) : Int)))
    (first | go_keep | exact ⟨l0, e6⟩ | exact ⟨m0, m6⟩)
    ((go_at_call 59; refine (HINV.out _ rfl _ _ _ (reads_nil _ _ _)).mono ?_; rintro e w7 ⟨v7, rfl, ho7, hk7, hb7⟩; have hb7 := below_of_drew hb7; have hp7 := HBp.out.upd (Upd.below hb7 No) (fun h => h); have hq7 := HBq.out.upd (Upd.below hb7 No) (fun h => h); have e1 := hp7.cell 1; have e5 := hp7.cell 7; have e6 := hp7.cell 8; have ef := hp7.frozen; have lf := hq7.frozen; have l0 := hq7.cell 0; have l1 := hq7.cell 1; have l2 := hq7.cell 2; simp only [LS.cells, List.getElem?_toArray, List.getElem?_cons_succ, List.getElem?_cons_zero] at e1 e5 e6 l0 l1 l2; rw [HUV.out, ← HN2.out] at e1; rw [HRES.out] at e5; rw [HFS.out] at e6; have hlp := hp7.lt; have hlq := hq7.lt; have HP7 := Lib.hid hp7; have HQ7 := Lib.hid hq7; have HO7 := Lib.hid ho7; have HK7 := Lib.hid hk7; have HW7 := Lib.hid hb7; clear ho7 hk7 hb7 hp7 hq7))
  have hqp : ¬ p = w1.heap.size := by omega
  have hqp2 : ¬ w1.heap.size = p := by omega
  have hub : Upd (fun k => k = p) w w7 := (HU1.out.alloc _).then_ (Upd.below HW7.out No) (fun k hk => hk.elim)
  have hws : w.heap.size ≤ w1.heap.size := HU1.out.size
  have hWu : Upd (fun k => k = p) w ((w7.setCell ⟨w1.heap.size, 0, none⟩ (.slice (some ⟨g3, off3, none⟩) f f)).alloc (.cells #[.slice (some ⟨g3, off3, none⟩) f f, .string s.now.ah, .string s.now.be] 102)) := (hub.setCell (.inr hws) _).alloc _
  have hWB : Blk ((w7.setCell ⟨w1.heap.size, 0, none⟩ (.slice (some ⟨g3, off3, none⟩) f f)).alloc (.cells #[.slice (some ⟨g3, off3, none⟩) f f, .string s.now.ah, .string s.now.be] 102)) p 104 ({ s with now := g0, op := false } : LS).cells := (HP7.out.far (p := ⟨w1.heap.size, 0, none⟩) hqp _).alloc _
  have hor := HA.out.u.upd hWu (fun k hk e => HA.out.up (by rw [← e]; exact hk))
  rw [HUV.out, ← HN2.out] at hor
  have HOr := Lib.hid hor
  have hrn := reads_g (w7.setCell ⟨w1.heap.size, 0, none⟩ (.slice (some ⟨g3, off3, none⟩) f f)) ⟨.slice (some ⟨g3, off3, none⟩) f f, s.now.ds.take s.fst, s.now.ah, s.now.be⟩
  rw [show (w7.setCell ⟨w1.heap.size, 0, none⟩ (.slice (some ⟨g3, off3, none⟩) f f)).heap.size = w7.heap.size by simp [World.setCell]] at hrn
  have HRn := Lib.hid hrn
  have HC1 := Lib.hid (one_g ⟨.slice (some ⟨g3, off3, none⟩) f f, s.now.ds.take s.fst, s.now.ah, s.now.be⟩ _ _ _ rfl)
  have HFIN : Hid (∀ v5 w5, _ → _ → _ → _) := Lib.hid (fun v5 w5 => At.cancelled (v5 := v5) (w5 := w5) HA.out (A3 := (some ⟨g3, off3, none⟩)) (cd := f) (HDV.out.trans (by rw [HLN.out])) HF.out hWu hWB)
  have HWu := Lib.hid hWu
  have HWB := Lib.hid hWB
  have HUP := Lib.hid HA.out.up
  clear hor hrn hWu hWB
  go_wp2
  go_region
  all_goals
    go_wp2
    go_region_law (first
      | (refine step_append_s (v := .slice A2 n2 cr) (by rfl) _ _ _ (by rfl) Tryd.underlying100 hi0 hz0 hz1 hz2 rfl (by omega) (by rfl) HOr.out (by rfl) HRn.out HC1.out (by unfold maxLen; omega) (by omega) ?_; intro v5 w5 ho5 hg5 hb5; have HO5 := Lib.hid ho5; have HG5 := Lib.hid (gdr hg5); have HB5 := Lib.hid hb5; have hb6 := HWB.out.upd (Upd.grown (S := fun k => (Value.slice A2 n2 cr).ownBlock = some k) HG5.out (fun k e => e)) (fun e => HUP.out (by rw [HUV.out, ← HN2.out]; exact e)); have f0 := hb6.cell 0; have f1 := hb6.cell 1; have ff := hb6.frozen; have hlp5 := hb6.lt; obtain ⟨A5, c5, hv5, hl5⟩ := HO5.out.form; subst hv5; clear ho5 hg5 hb5 hb6; simp only [LS.cells, List.getElem?_toArray, List.getElem?_cons_succ, List.getElem?_cons_zero] at f0 f1; rw [HUV.out, ← HN2.out] at f1))
  all_goals
    have hfin := HFIN.out (.slice A5 (n2 + 1) c5) w5 (by rw [← HN2.out]; show OwnS _ _ _ _ _ (_ ++ Gr.cells ⟨.slice _ s.fst s.fst, _, _, _⟩); rw [HFS.out]; exact HO5.out) (by rw [HUV.out, ← HN2.out]; exact HG5.out) (by rw [HUV.out, ← HN2.out]; exact HB5.out)
    have HFN := Lib.hid hfin
    clear hfin
    go_wp2
    go_ret2
    obtain ⟨hA, hU, hF, hF2⟩ := HFN.out
    have hvk : ∀ k, v7.ownBlock = some k → w1.heap.size < k ∧ k < w7.heap.size := fun k hk => by
      have h1 : (w1.alloc (.cells #[.slice (some ⟨g3, off3, none⟩) f f, .string s.now.ah, .string s.now.be] 102)).heap.size ≤ k := HK7.out k hk
      have h2 := OwnS.lt HO7.out k hk
      simp at h1
      omega
    refine ⟨_, _, rfl, ?_, fun k hk => ?_, hA, ?_, hU.mono (fun k hk => At.topFoot k hk), hF⟩
    · rw [HCA.out]
      have hu8 : Upd (fun k => k = w1.heap.size ∨ k = p ∨ s.uv.ownBlock = some k) w7 (w5.setCell ⟨p, 1, none⟩ (.slice A5 (n2 + 1) c5)) := by
        have a1 : Upd (fun k => k = w1.heap.size ∨ k = p ∨ s.uv.ownBlock = some k) w7 ((w7.setCell ⟨w1.heap.size, 0, none⟩ (.slice (some ⟨g3, off3, none⟩) f f)).alloc (.cells #[.slice (some ⟨g3, off3, none⟩) f f, .string s.now.ah, .string s.now.be] 102)) := ((Upd.refl _ _).setCell (.inl (.inl rfl)) _).alloc _
        have a2 := a1.trans (Upd.grown (S := fun k => k = w1.heap.size ∨ k = p ∨ s.uv.ownBlock = some k) HG5.out (fun k e => .inr (.inr (by rw [HUV.out, ← HN2.out]; exact e))))
        exact a2.setCell (.inl (.inr (.inl rfl))) _
      have h9 := OwnS.upd HO7.out hu8 (fun k hk e => by
        obtain ⟨h1, h2⟩ := hvk k hk
        rcases e with e | e | e
        · omega
        · omega
        · have := HA.out.u.lt k e
          omega)
      rw [HD.out]
      exact h9
    · obtain ⟨h1, h2⟩ := hvk k hk
      refine ⟨by omega, fun hf => ?_⟩
      rcases hF2 k hf with e | e
      · have := HA.out.lt k e
        omega
      · simp [World.setCell] at e
        omega
    · rw [HAB.out, HRES.out]
      unfold LS.back LS.abs
      simp [Gr.abs]

theorem cancel_end2_false (h : At w p s) (ho : s.op = true) (hres : s.res = false) (g3 off3 f c2 : Nat) (hdv : s.now.dv = .slice (some ⟨g3, off3, none⟩) f (f + (c2 + 1))) (hfs : s.fst = f) (hD : s.now.ds.drop s.fst = []) (hN : s.now.ds.length = f) (hf : s.fst ≤ s.now.ds.length) (hn : s.now.ds.length ≤ 1000000000000) (hun : s.undo.length ≤ 2000) :
    Calls Tryd.prog 48 #[.pointer (some ⟨p, 0, none⟩)] w fun e w' => ∃ v s', e = .returned (.tuple #[v, .bool true]) ∧ OwnD w' v s.abs.cancelL ∧ (∀ k, v.ownBlock = some k → w.heap.size ≤ k ∧ ¬ foot p s' k) ∧ At w' p s' ∧ s'.abs = s.abs.cancel ∧ Upd (foot p s) w w' ∧ Fr w p s s' := by
  obtain ⟨i0, hi0, hz0, hz1, hz2⟩ := info_parts info_g
  obtain ⟨_, _, _, _, _, _, c6, -⟩ := h.cells
  rw [ho] at c6
  have hpw := h.blk.lt
  have HC := close_ h
  rw [hdv] at HC
  have HCL := Lib.hid HC
  have HCA : Hid (s.abs.cancelL = back (s.now.ds.drop s.fst)) := Lib.hid (by unfold LS.abs AS.cancelL; dsimp only; rw [ho]; rfl)
  have HAB : Hid (s.abs.cancel = _) := Lib.hid (show s.abs.cancel = { s.abs with cur := none, undo := if s.res = true then s.abs.undo ++ [{ s.now.abs with ds := s.now.ds.take s.fst }] else s.abs.undo } by unfold LS.abs AS.cancel; dsimp only; rw [ho]; rfl)
  have HO := Lib.hid ho
  have HA := Lib.hid h
  have HDV := Lib.hid hdv
  have HRES := Lib.hid hres
  have HFS := Lib.hid hfs
  have HF := Lib.hid hf
  have HN := Lib.hid hn
  have HLN := Lib.hid hN
  obtain ⟨A2, cr, huv, hul⟩ := h.u.form
  have HUV := Lib.hid huv
  obtain ⟨n2, hn2⟩ : ∃ n2, n2 = s.undo.length := ⟨_, rfl⟩
  have HN2 := Lib.hid hn2
  have hn3 : n2 ≤ 2000 := by omega
  have HD := Lib.hid hD
  clear hD
  have hN1 : f ≤ 1000000000000 := by omega
  have hb2 : f ≤ f + (c2 + 1) := by omega
  have hb3 : ¬ f + (c2 + 1) = f := by omega
  have hb5 : f + (c2 + 1) - f = c2 + 1 := by omega
  have hb7 : (f + (c2 + 1) == f) = false := by rw [beq_eq_false_iff_ne]; omega
  clear h ho hdv hres hfs hf hn hN HC huv hn2 hul hun
  go_enter Tryd.func48, Tryd.ntmps48
  go_wp2_with (go_at_call 70; refine HCL.out.mono ?_; rintro e w1 ⟨rfl, hb, hu⟩; have d6 := hb.cell 8; have df := hb.frozen; simp only [LS.cells, List.getElem?_toArray, List.getElem?_cons_succ, List.getElem?_cons_zero] at d6; rw [HFS.out] at d6; have hp1 := hb.lt; have HB1 := Lib.hid hb; have HU1 := Lib.hid hu; clear hb hu)
  have HBq : Hid (Blk (w1.alloc (.cells #[.slice (some ⟨g3, off3, none⟩) f (f + (c2 + 1)), .string s.now.ah, .string s.now.be] 102)) w1.heap.size 102 #[.slice (some ⟨g3, off3, none⟩) f (f + (c2 + 1)), .string s.now.ah, .string s.now.be]) := Lib.hid (Blk.new w1 _ _)
  have HBp := Lib.hid (HB1.out.alloc (.cells #[.slice (some ⟨g3, off3, none⟩) f (f + (c2 + 1)), .string s.now.ah, .string s.now.be] 102))
  have HINV : Hid (∀ w0 : World, w0 = (w1.alloc (.cells #[.slice (some ⟨g3, off3, none⟩) f (f + (c2 + 1)), .string s.now.ah, .string s.now.be] 102)).drew → ∀ A' n' c', ReadsD (w1.alloc (.cells #[.slice (some ⟨g3, off3, none⟩) f (f + (c2 + 1)), .string s.now.ah, .string s.now.be] 102)) (w1.alloc (.cells #[.slice (some ⟨g3, off3, none⟩) f (f + (c2 + 1)), .string s.now.ah, .string s.now.be] 102)).heap.size A' n' [] → Calls Tryd.prog 59 #[.slice A' n' c'] w0 _) := Lib.hid (fun w0 e A' n' c' hr => by subst e; exact inverted_p (w1.alloc (.cells #[.slice (some ⟨g3, off3, none⟩) f (f + (c2 + 1)), .string s.now.ah, .string s.now.be] 102)).drew A' n' c' [] hr (by rw [← hr.1]; simp))
  have m0 := HBq.out.cell 0
  have m6 := HBp.out.cell 8
  simp only [LS.cells, List.getElem?_toArray, List.getElem?_cons_succ, List.getElem?_cons_zero] at m0 m6
  rw [HFS.out] at m6
  go_region_held3 (fun w' => w'.cell? ⟨w1.heap.size, 0, none⟩ = some (.slice (some ⟨g3, off3, none⟩) f (f + (c2 + 1))) ∧ w'.cell? ⟨p, 8, none⟩ = some (.int .i64 ((f : Nat) : Int)))
    (first | go_keep | exact ⟨l0, e6⟩ | exact ⟨m0, m6⟩)
    ((go_at_call 59; refine (HINV.out _ rfl _ _ _ (reads_nil _ _ _)).mono ?_; rintro e w7 ⟨v7, rfl, ho7, hk7, hb7⟩; have hb7 := below_of_drew hb7; have hp7 := HBp.out.upd (Upd.below hb7 No) (fun h => h); have hq7 := HBq.out.upd (Upd.below hb7 No) (fun h => h); have e1 := hp7.cell 1; have e5 := hp7.cell 7; have e6 := hp7.cell 8; have ef := hp7.frozen; have lf := hq7.frozen; have l0 := hq7.cell 0; have l1 := hq7.cell 1; have l2 := hq7.cell 2; simp only [LS.cells, List.getElem?_toArray, List.getElem?_cons_succ, List.getElem?_cons_zero] at e1 e5 e6 l0 l1 l2; rw [HUV.out, ← HN2.out] at e1; rw [HRES.out] at e5; rw [HFS.out] at e6; have hlp := hp7.lt; have hlq := hq7.lt; have HP7 := Lib.hid hp7; have HQ7 := Lib.hid hq7; have HO7 := Lib.hid ho7; have HK7 := Lib.hid hk7; have HW7 := Lib.hid hb7; clear ho7 hk7 hb7 hp7 hq7))
  go_wp2
  go_ret2
  have hub : Upd (fun k => k = p) w w7 := (HU1.out.alloc _).then_ (Upd.below HW7.out No) (fun k hk => hk.elim)
  refine ⟨_, _, rfl, ?_, fun k hk => ?_, HA.out.closed hub HP7.out, ?_, Upd.foot1 hub, Fr.top rfl rfl rfl rfl (.inr rfl)⟩
  · rw [HCA.out]
    rw [HD.out]
    exact HO7.out
  · have h1 : (w1.alloc (.cells #[.slice (some ⟨g3, off3, none⟩) f (f + (c2 + 1)), .string s.now.ah, .string s.now.be] 102)).heap.size ≤ k := HK7.out k hk
    have h2 := HU1.out.size
    simp at h1
    refine ⟨by omega, fun hf => ?_⟩
    have h3 : At w1 p _ := HA.out.closed HU1.out HB1.out
    have := h3.lt k hf
    omega
  · rw [HAB.out, HRES.out]
    rfl

theorem cancel_end2_true (h : At w p s) (ho : s.op = true) (hres : s.res = true) (g3 off3 f c2 : Nat) (hdv : s.now.dv = .slice (some ⟨g3, off3, none⟩) f (f + (c2 + 1))) (hfs : s.fst = f) (hD : s.now.ds.drop s.fst = []) (hN : s.now.ds.length = f) (hf : s.fst ≤ s.now.ds.length) (hn : s.now.ds.length ≤ 1000000000000) (hun : s.undo.length ≤ 2000) :
    Calls Tryd.prog 48 #[.pointer (some ⟨p, 0, none⟩)] w fun e w' => ∃ v s', e = .returned (.tuple #[v, .bool true]) ∧ OwnD w' v s.abs.cancelL ∧ (∀ k, v.ownBlock = some k → w.heap.size ≤ k ∧ ¬ foot p s' k) ∧ At w' p s' ∧ s'.abs = s.abs.cancel ∧ Upd (foot p s) w w' ∧ Fr w p s s' := by
  obtain ⟨i0, hi0, hz0, hz1, hz2⟩ := info_parts info_g
  obtain ⟨_, _, _, _, _, _, c6, -⟩ := h.cells
  rw [ho] at c6
  have hpw := h.blk.lt
  have HC := close_ h
  rw [hdv] at HC
  have HCL := Lib.hid HC
  have HCA : Hid (s.abs.cancelL = back (s.now.ds.drop s.fst)) := Lib.hid (by unfold LS.abs AS.cancelL; dsimp only; rw [ho]; rfl)
  have HAB : Hid (s.abs.cancel = _) := Lib.hid (show s.abs.cancel = { s.abs with cur := none, undo := if s.res = true then s.abs.undo ++ [{ s.now.abs with ds := s.now.ds.take s.fst }] else s.abs.undo } by unfold LS.abs AS.cancel; dsimp only; rw [ho]; rfl)
  have HO := Lib.hid ho
  have HA := Lib.hid h
  have HDV := Lib.hid hdv
  have HRES := Lib.hid hres
  have HFS := Lib.hid hfs
  have HF := Lib.hid hf
  have HN := Lib.hid hn
  have HLN := Lib.hid hN
  obtain ⟨A2, cr, huv, hul⟩ := h.u.form
  have HUV := Lib.hid huv
  obtain ⟨n2, hn2⟩ : ∃ n2, n2 = s.undo.length := ⟨_, rfl⟩
  have HN2 := Lib.hid hn2
  have hn3 : n2 ≤ 2000 := by omega
  have HD := Lib.hid hD
  clear hD
  have hN1 : f ≤ 1000000000000 := by omega
  have hb2 : f ≤ f + (c2 + 1) := by omega
  have hb3 : ¬ f + (c2 + 1) = f := by omega
  have hb5 : f + (c2 + 1) - f = c2 + 1 := by omega
  have hb7 : (f + (c2 + 1) == f) = false := by rw [beq_eq_false_iff_ne]; omega
  clear h ho hdv hres hfs hf hn hN HC huv hn2 hul hun
  go_enter Tryd.func48, Tryd.ntmps48
  go_wp2_with (go_at_call 70; refine HCL.out.mono ?_; rintro e w1 ⟨rfl, hb, hu⟩; have d6 := hb.cell 8; have df := hb.frozen; simp only [LS.cells, List.getElem?_toArray, List.getElem?_cons_succ, List.getElem?_cons_zero] at d6; rw [HFS.out] at d6; have hp1 := hb.lt; have HB1 := Lib.hid hb; have HU1 := Lib.hid hu; clear hb hu)
  have HBq : Hid (Blk (w1.alloc (.cells #[.slice (some ⟨g3, off3, none⟩) f (f + (c2 + 1)), .string s.now.ah, .string s.now.be] 102)) w1.heap.size 102 #[.slice (some ⟨g3, off3, none⟩) f (f + (c2 + 1)), .string s.now.ah, .string s.now.be]) := Lib.hid (Blk.new w1 _ _)
  have HBp := Lib.hid (HB1.out.alloc (.cells #[.slice (some ⟨g3, off3, none⟩) f (f + (c2 + 1)), .string s.now.ah, .string s.now.be] 102))
  have HINV : Hid (∀ w0 : World, w0 = (w1.alloc (.cells #[.slice (some ⟨g3, off3, none⟩) f (f + (c2 + 1)), .string s.now.ah, .string s.now.be] 102)).drew → ∀ A' n' c', ReadsD (w1.alloc (.cells #[.slice (some ⟨g3, off3, none⟩) f (f + (c2 + 1)), .string s.now.ah, .string s.now.be] 102)) (w1.alloc (.cells #[.slice (some ⟨g3, off3, none⟩) f (f + (c2 + 1)), .string s.now.ah, .string s.now.be] 102)).heap.size A' n' [] → Calls Tryd.prog 59 #[.slice A' n' c'] w0 _) := Lib.hid (fun w0 e A' n' c' hr => by subst e; exact inverted_p (w1.alloc (.cells #[.slice (some ⟨g3, off3, none⟩) f (f + (c2 + 1)), .string s.now.ah, .string s.now.be] 102)).drew A' n' c' [] hr (by rw [← hr.1]; simp))
  have m0 := HBq.out.cell 0
  have m6 := HBp.out.cell 8
  simp only [LS.cells, List.getElem?_toArray, List.getElem?_cons_succ, List.getElem?_cons_zero] at m0 m6
  rw [HFS.out] at m6
  go_region_held3 (fun w' => w'.cell? ⟨w1.heap.size, 0, none⟩ = some (.slice (some ⟨g3, off3, none⟩) f (f + (c2 + 1))) ∧ w'.cell? ⟨p, 8, none⟩ = some (.int .i64 ((f : Nat) : Int)))
    (first | go_keep | exact ⟨l0, e6⟩ | exact ⟨m0, m6⟩)
    ((go_at_call 59; refine (HINV.out _ rfl _ _ _ (reads_nil _ _ _)).mono ?_; rintro e w7 ⟨v7, rfl, ho7, hk7, hb7⟩; have hb7 := below_of_drew hb7; have hp7 := HBp.out.upd (Upd.below hb7 No) (fun h => h); have hq7 := HBq.out.upd (Upd.below hb7 No) (fun h => h); have e1 := hp7.cell 1; have e5 := hp7.cell 7; have e6 := hp7.cell 8; have ef := hp7.frozen; have lf := hq7.frozen; have l0 := hq7.cell 0; have l1 := hq7.cell 1; have l2 := hq7.cell 2; simp only [LS.cells, List.getElem?_toArray, List.getElem?_cons_succ, List.getElem?_cons_zero] at e1 e5 e6 l0 l1 l2; rw [HUV.out, ← HN2.out] at e1; rw [HRES.out] at e5; rw [HFS.out] at e6; have hlp := hp7.lt; have hlq := hq7.lt; have HP7 := Lib.hid hp7; have HQ7 := Lib.hid hq7; have HO7 := Lib.hid ho7; have HK7 := Lib.hid hk7; have HW7 := Lib.hid hb7; clear ho7 hk7 hb7 hp7 hq7))
  have hqp : ¬ p = w1.heap.size := by omega
  have hqp2 : ¬ w1.heap.size = p := by omega
  have hub : Upd (fun k => k = p) w w7 := (HU1.out.alloc _).then_ (Upd.below HW7.out No) (fun k hk => hk.elim)
  have hws : w.heap.size ≤ w1.heap.size := HU1.out.size
  have hWu : Upd (fun k => k = p) w ((w7.setCell ⟨w1.heap.size, 0, none⟩ (.slice (some ⟨g3, off3, none⟩) f f)).alloc (.cells #[.slice (some ⟨g3, off3, none⟩) f f, .string s.now.ah, .string s.now.be] 102)) := (hub.setCell (.inr hws) _).alloc _
  have hWB : Blk ((w7.setCell ⟨w1.heap.size, 0, none⟩ (.slice (some ⟨g3, off3, none⟩) f f)).alloc (.cells #[.slice (some ⟨g3, off3, none⟩) f f, .string s.now.ah, .string s.now.be] 102)) p 104 ({ s with now := g0, op := false } : LS).cells := (HP7.out.far (p := ⟨w1.heap.size, 0, none⟩) hqp _).alloc _
  have hor := HA.out.u.upd hWu (fun k hk e => HA.out.up (by rw [← e]; exact hk))
  rw [HUV.out, ← HN2.out] at hor
  have HOr := Lib.hid hor
  have hrn := reads_g (w7.setCell ⟨w1.heap.size, 0, none⟩ (.slice (some ⟨g3, off3, none⟩) f f)) ⟨.slice (some ⟨g3, off3, none⟩) f f, s.now.ds.take s.fst, s.now.ah, s.now.be⟩
  rw [show (w7.setCell ⟨w1.heap.size, 0, none⟩ (.slice (some ⟨g3, off3, none⟩) f f)).heap.size = w7.heap.size by simp [World.setCell]] at hrn
  have HRn := Lib.hid hrn
  have HC1 := Lib.hid (one_g ⟨.slice (some ⟨g3, off3, none⟩) f f, s.now.ds.take s.fst, s.now.ah, s.now.be⟩ _ _ _ rfl)
  have HFIN : Hid (∀ v5 w5, _ → _ → _ → _) := Lib.hid (fun v5 w5 => At.cancelled (v5 := v5) (w5 := w5) HA.out (A3 := (some ⟨g3, off3, none⟩)) (cd := (f + (c2 + 1))) (HDV.out.trans (by rw [HLN.out])) HF.out hWu hWB)
  have HWu := Lib.hid hWu
  have HWB := Lib.hid hWB
  have HUP := Lib.hid HA.out.up
  clear hor hrn hWu hWB
  go_wp2
  go_region
  all_goals
    go_wp2
    go_region_law (first
      | (refine step_append_s (v := .slice A2 n2 cr) (by rfl) _ _ _ (by rfl) Tryd.underlying100 hi0 hz0 hz1 hz2 rfl (by omega) (by rfl) HOr.out (by rfl) HRn.out HC1.out (by unfold maxLen; omega) (by omega) ?_; intro v5 w5 ho5 hg5 hb5; have HO5 := Lib.hid ho5; have HG5 := Lib.hid (gdr hg5); have HB5 := Lib.hid hb5; have hb6 := HWB.out.upd (Upd.grown (S := fun k => (Value.slice A2 n2 cr).ownBlock = some k) HG5.out (fun k e => e)) (fun e => HUP.out (by rw [HUV.out, ← HN2.out]; exact e)); have f0 := hb6.cell 0; have f1 := hb6.cell 1; have ff := hb6.frozen; have hlp5 := hb6.lt; obtain ⟨A5, c5, hv5, hl5⟩ := HO5.out.form; subst hv5; clear ho5 hg5 hb5 hb6; simp only [LS.cells, List.getElem?_toArray, List.getElem?_cons_succ, List.getElem?_cons_zero] at f0 f1; rw [HUV.out, ← HN2.out] at f1))
  all_goals
    have hfin := HFIN.out (.slice A5 (n2 + 1) c5) w5 (by rw [← HN2.out]; show OwnS _ _ _ _ _ (_ ++ Gr.cells ⟨.slice _ s.fst s.fst, _, _, _⟩); rw [HFS.out]; exact HO5.out) (by rw [HUV.out, ← HN2.out]; exact HG5.out) (by rw [HUV.out, ← HN2.out]; exact HB5.out)
    have HFN := Lib.hid hfin
    clear hfin
    go_wp2
    go_ret2
    obtain ⟨hA, hU, hF, hF2⟩ := HFN.out
    have hvk : ∀ k, v7.ownBlock = some k → w1.heap.size < k ∧ k < w7.heap.size := fun k hk => by
      have h1 : (w1.alloc (.cells #[.slice (some ⟨g3, off3, none⟩) f (f + (c2 + 1)), .string s.now.ah, .string s.now.be] 102)).heap.size ≤ k := HK7.out k hk
      have h2 := OwnS.lt HO7.out k hk
      simp at h1
      omega
    refine ⟨_, _, rfl, ?_, fun k hk => ?_, hA, ?_, hU.mono (fun k hk => At.topFoot k hk), hF⟩
    · rw [HCA.out]
      have hu8 : Upd (fun k => k = w1.heap.size ∨ k = p ∨ s.uv.ownBlock = some k) w7 (w5.setCell ⟨p, 1, none⟩ (.slice A5 (n2 + 1) c5)) := by
        have a1 : Upd (fun k => k = w1.heap.size ∨ k = p ∨ s.uv.ownBlock = some k) w7 ((w7.setCell ⟨w1.heap.size, 0, none⟩ (.slice (some ⟨g3, off3, none⟩) f f)).alloc (.cells #[.slice (some ⟨g3, off3, none⟩) f f, .string s.now.ah, .string s.now.be] 102)) := ((Upd.refl _ _).setCell (.inl (.inl rfl)) _).alloc _
        have a2 := a1.trans (Upd.grown (S := fun k => k = w1.heap.size ∨ k = p ∨ s.uv.ownBlock = some k) HG5.out (fun k e => .inr (.inr (by rw [HUV.out, ← HN2.out]; exact e))))
        exact a2.setCell (.inl (.inr (.inl rfl))) _
      have h9 := OwnS.upd HO7.out hu8 (fun k hk e => by
        obtain ⟨h1, h2⟩ := hvk k hk
        rcases e with e | e | e
        · omega
        · omega
        · have := HA.out.u.lt k e
          omega)
      rw [HD.out]
      exact h9
    · obtain ⟨h1, h2⟩ := hvk k hk
      refine ⟨by omega, fun hf => ?_⟩
      rcases hF2 k hf with e | e
      · have := HA.out.lt k e
        omega
      · simp [World.setCell] at e
        omega
    · rw [HAB.out, HRES.out]
      unfold LS.back LS.abs
      simp [Gr.abs]

theorem cancel_more_false (h : At w p s) (ho : s.op = true) (hres : s.res = false) (g3 off3 f nn cc : Nat) (hfn : f < nn) (hnc : nn ≤ cc) (hdv : s.now.dv = .slice (some ⟨g3, off3, none⟩) nn cc) (hfs : s.fst = f) (hN : s.now.ds.length = nn) (hf : s.fst ≤ s.now.ds.length) (hn : s.now.ds.length ≤ 1000000000000) (hun : s.undo.length ≤ 2000) :
    Calls Tryd.prog 48 #[.pointer (some ⟨p, 0, none⟩)] w fun e w' => ∃ v s', e = .returned (.tuple #[v, .bool true]) ∧ OwnD w' v s.abs.cancelL ∧ (∀ k, v.ownBlock = some k → w.heap.size ≤ k ∧ ¬ foot p s' k) ∧ At w' p s' ∧ s'.abs = s.abs.cancel ∧ Upd (foot p s) w w' ∧ Fr w p s s' := by
  obtain ⟨i0, hi0, hz0, hz1, hz2⟩ := info_parts info_g
  obtain ⟨_, _, _, _, _, _, c6, -⟩ := h.cells
  rw [ho] at c6
  have hpw := h.blk.lt
  have HC := close_ h
  rw [hdv] at HC
  have HCL := Lib.hid HC
  have HCA : Hid (s.abs.cancelL = back (s.now.ds.drop s.fst)) := Lib.hid (by unfold LS.abs AS.cancelL; dsimp only; rw [ho]; rfl)
  have HAB : Hid (s.abs.cancel = _) := Lib.hid (show s.abs.cancel = { s.abs with cur := none, undo := if s.res = true then s.abs.undo ++ [{ s.now.abs with ds := s.now.ds.take s.fst }] else s.abs.undo } by unfold LS.abs AS.cancel; dsimp only; rw [ho]; rfl)
  have HO := Lib.hid ho
  have HA := Lib.hid h
  have HDV := Lib.hid hdv
  have HRES := Lib.hid hres
  have HFS := Lib.hid hfs
  have HF := Lib.hid hf
  have HN := Lib.hid hn
  have HLN := Lib.hid hN
  obtain ⟨A2, cr, huv, hul⟩ := h.u.form
  have HUV := Lib.hid huv
  obtain ⟨n2, hn2⟩ : ∃ n2, n2 = s.undo.length := ⟨_, rfl⟩
  have HN2 := Lib.hid hn2
  have hn3 : n2 ≤ 2000 := by omega
  have hN1 : nn ≤ 1000000000000 := by omega
  have hb0 : (0 : Int) ≤ (f : Int) := by omega
  have hb1 : (f : Int) ≤ (nn : Int) := by omega
  have hb2 : (f : Int) ≤ (cc : Int) := by omega
  have hb3 : ¬ cc = f := by omega
  have hb4 : (nn : Int) ≤ (cc : Int) := by omega
  have hb5 : ¬ cc - f = 0 := by omega
  have hb7 : (cc == f) = false := by rw [beq_eq_false_iff_ne]; omega
  have HRD : Hid (ReadsD w w.heap.size (some ⟨g3, off3 + f * 3, none⟩) (nn - f) (s.now.ds.drop s.fst)) := Lib.hid (by
    have h1 := h.d s.now (by simp [LS.groups])
    unfold OwnD at h1
    rw [hdv, hN] at h1
    have h2 := Reads.cut (OwnS.reads h1) (k := f) (by omega) hnc
    rw [if_neg (by omega), flat_drop, ← hfs] at h2
    refine ⟨by rw [List.length_drop, hN]; omega, ?_⟩
    have h3 : (some (⟨g3, off3, none⟩ : Addr)).map (fun x => x.add (s.fst * 3)) = some ⟨g3, off3 + s.fst * 3, none⟩ := by simp [add_off]
    rw [h3] at h2
    rw [← hfs]
    exact h2)
  have hN1 : f ≤ 1000000000000 := by omega
  clear h ho hdv hres hfs hf hn hN HC huv hn2 hul hun
  go_enter Tryd.func48, Tryd.ntmps48
  go_wp2_with (go_at_call 70; refine HCL.out.mono ?_; rintro e w1 ⟨rfl, hb, hu⟩; have d6 := hb.cell 8; have df := hb.frozen; simp only [LS.cells, List.getElem?_toArray, List.getElem?_cons_succ, List.getElem?_cons_zero] at d6; rw [HFS.out] at d6; have hp1 := hb.lt; have HB1 := Lib.hid hb; have HU1 := Lib.hid hu; clear hb hu)
  have HRX : Hid (ReadsD (w1.alloc (.cells #[.slice (some ⟨g3, off3, none⟩) nn cc, .string s.now.ah, .string s.now.be] 102)) (w1.alloc (.cells #[.slice (some ⟨g3, off3, none⟩) nn cc, .string s.now.ah, .string s.now.be] 102)).heap.size (some ⟨g3, off3 + f * 3, none⟩) (nn - f) (s.now.ds.drop s.fst)) := Lib.hid (by
    have hgp : g3 ≠ p := fun e => HA.out.notTop (g := s.now) (by simp [LS.groups]) (k := p) (by rw [HDV.out, e]; rfl) (.inl rfl)
    have hk : Upd (fun k => k = p) w (w1.alloc (.cells #[.slice (some ⟨g3, off3, none⟩) nn cc, .string s.now.ah, .string s.now.be] 102)) := HU1.out.alloc _
    refine ⟨HRD.out.1, HRD.out.2.1, fun h0 => ?_⟩
    obtain ⟨ad, e, hb, hc⟩ := HRD.out.2.2 h0
    refine ⟨ad, e, Nat.lt_of_lt_of_le hb hk.size, fun j u hu => hk.cell (hc j u hu) ?_⟩
    rw [block_of_add]
    injection e with e
    rw [← e]
    exact hgp)
  have HBq : Hid (Blk (w1.alloc (.cells #[.slice (some ⟨g3, off3, none⟩) nn cc, .string s.now.ah, .string s.now.be] 102)) w1.heap.size 102 #[.slice (some ⟨g3, off3, none⟩) nn cc, .string s.now.ah, .string s.now.be]) := Lib.hid (Blk.new w1 _ _)
  have HBp := Lib.hid (HB1.out.alloc (.cells #[.slice (some ⟨g3, off3, none⟩) nn cc, .string s.now.ah, .string s.now.be] 102))
  have HINV : Hid (∀ w0 : World, w0 = (w1.alloc (.cells #[.slice (some ⟨g3, off3, none⟩) nn cc, .string s.now.ah, .string s.now.be] 102)).drew → ∀ A' n' c', ReadsD (w1.alloc (.cells #[.slice (some ⟨g3, off3, none⟩) nn cc, .string s.now.ah, .string s.now.be] 102)) (w1.alloc (.cells #[.slice (some ⟨g3, off3, none⟩) nn cc, .string s.now.ah, .string s.now.be] 102)).heap.size A' n' (s.now.ds.drop s.fst) → Calls Tryd.prog 59 #[.slice A' n' c'] w0 _) := Lib.hid (fun w0 e A' n' c' hr => by subst e; exact inverted_p (w1.alloc (.cells #[.slice (some ⟨g3, off3, none⟩) nn cc, .string s.now.ah, .string s.now.be] 102)).drew A' n' c' (s.now.ds.drop s.fst) hr (by rw [← hr.1]; (simp; have := HN.out; omega)))
  have m0 := HBq.out.cell 0
  have m6 := HBp.out.cell 8
  simp only [LS.cells, List.getElem?_toArray, List.getElem?_cons_succ, List.getElem?_cons_zero] at m0 m6
  rw [HFS.out] at m6
  go_region_held3 (fun w' => w'.cell? ⟨w1.heap.size, 0, none⟩ = some (.slice (some ⟨g3, off3, none⟩) nn cc) ∧ w'.cell? ⟨p, 8, none⟩ = some (.int .i64 ((f : Nat) : Int)))
    (first | go_keep | exact ⟨l0, e6⟩ | exact ⟨m0, m6⟩)
    ((go_at_call 59; refine (HINV.out _ rfl _ _ _ HRX.out).mono ?_; rintro e w7 ⟨v7, rfl, ho7, hk7, hb7⟩; have hb7 := below_of_drew hb7; have hp7 := HBp.out.upd (Upd.below hb7 No) (fun h => h); have hq7 := HBq.out.upd (Upd.below hb7 No) (fun h => h); have e1 := hp7.cell 1; have e5 := hp7.cell 7; have e6 := hp7.cell 8; have ef := hp7.frozen; have lf := hq7.frozen; have l0 := hq7.cell 0; have l1 := hq7.cell 1; have l2 := hq7.cell 2; simp only [LS.cells, List.getElem?_toArray, List.getElem?_cons_succ, List.getElem?_cons_zero] at e1 e5 e6 l0 l1 l2; rw [HUV.out, ← HN2.out] at e1; rw [HRES.out] at e5; rw [HFS.out] at e6; have hlp := hp7.lt; have hlq := hq7.lt; have HP7 := Lib.hid hp7; have HQ7 := Lib.hid hq7; have HO7 := Lib.hid ho7; have HK7 := Lib.hid hk7; have HW7 := Lib.hid hb7; clear ho7 hk7 hb7 hp7 hq7))
  go_wp2
  go_ret2
  have hub : Upd (fun k => k = p) w w7 := (HU1.out.alloc _).then_ (Upd.below HW7.out No) (fun k hk => hk.elim)
  refine ⟨_, _, rfl, ?_, fun k hk => ?_, HA.out.closed hub HP7.out, ?_, Upd.foot1 hub, Fr.top rfl rfl rfl rfl (.inr rfl)⟩
  · rw [HCA.out]
    exact HO7.out
  · have h1 : (w1.alloc (.cells #[.slice (some ⟨g3, off3, none⟩) nn cc, .string s.now.ah, .string s.now.be] 102)).heap.size ≤ k := HK7.out k hk
    have h2 := HU1.out.size
    simp at h1
    refine ⟨by omega, fun hf => ?_⟩
    have h3 : At w1 p _ := HA.out.closed HU1.out HB1.out
    have := h3.lt k hf
    omega
  · rw [HAB.out, HRES.out]
    rfl

theorem cancel_more_true (h : At w p s) (ho : s.op = true) (hres : s.res = true) (g3 off3 f nn cc : Nat) (hfn : f < nn) (hnc : nn ≤ cc) (hdv : s.now.dv = .slice (some ⟨g3, off3, none⟩) nn cc) (hfs : s.fst = f) (hN : s.now.ds.length = nn) (hf : s.fst ≤ s.now.ds.length) (hn : s.now.ds.length ≤ 1000000000000) (hun : s.undo.length ≤ 2000) :
    Calls Tryd.prog 48 #[.pointer (some ⟨p, 0, none⟩)] w fun e w' => ∃ v s', e = .returned (.tuple #[v, .bool true]) ∧ OwnD w' v s.abs.cancelL ∧ (∀ k, v.ownBlock = some k → w.heap.size ≤ k ∧ ¬ foot p s' k) ∧ At w' p s' ∧ s'.abs = s.abs.cancel ∧ Upd (foot p s) w w' ∧ Fr w p s s' := by
  obtain ⟨i0, hi0, hz0, hz1, hz2⟩ := info_parts info_g
  obtain ⟨_, _, _, _, _, _, c6, -⟩ := h.cells
  rw [ho] at c6
  have hpw := h.blk.lt
  have HC := close_ h
  rw [hdv] at HC
  have HCL := Lib.hid HC
  have HCA : Hid (s.abs.cancelL = back (s.now.ds.drop s.fst)) := Lib.hid (by unfold LS.abs AS.cancelL; dsimp only; rw [ho]; rfl)
  have HAB : Hid (s.abs.cancel = _) := Lib.hid (show s.abs.cancel = { s.abs with cur := none, undo := if s.res = true then s.abs.undo ++ [{ s.now.abs with ds := s.now.ds.take s.fst }] else s.abs.undo } by unfold LS.abs AS.cancel; dsimp only; rw [ho]; rfl)
  have HO := Lib.hid ho
  have HA := Lib.hid h
  have HDV := Lib.hid hdv
  have HRES := Lib.hid hres
  have HFS := Lib.hid hfs
  have HF := Lib.hid hf
  have HN := Lib.hid hn
  have HLN := Lib.hid hN
  obtain ⟨A2, cr, huv, hul⟩ := h.u.form
  have HUV := Lib.hid huv
  obtain ⟨n2, hn2⟩ : ∃ n2, n2 = s.undo.length := ⟨_, rfl⟩
  have HN2 := Lib.hid hn2
  have hn3 : n2 ≤ 2000 := by omega
  have hN1 : nn ≤ 1000000000000 := by omega
  have hb0 : (0 : Int) ≤ (f : Int) := by omega
  have hb1 : (f : Int) ≤ (nn : Int) := by omega
  have hb2 : (f : Int) ≤ (cc : Int) := by omega
  have hb3 : ¬ cc = f := by omega
  have hb4 : (nn : Int) ≤ (cc : Int) := by omega
  have hb5 : ¬ cc - f = 0 := by omega
  have hb7 : (cc == f) = false := by rw [beq_eq_false_iff_ne]; omega
  have HRD : Hid (ReadsD w w.heap.size (some ⟨g3, off3 + f * 3, none⟩) (nn - f) (s.now.ds.drop s.fst)) := Lib.hid (by
    have h1 := h.d s.now (by simp [LS.groups])
    unfold OwnD at h1
    rw [hdv, hN] at h1
    have h2 := Reads.cut (OwnS.reads h1) (k := f) (by omega) hnc
    rw [if_neg (by omega), flat_drop, ← hfs] at h2
    refine ⟨by rw [List.length_drop, hN]; omega, ?_⟩
    have h3 : (some (⟨g3, off3, none⟩ : Addr)).map (fun x => x.add (s.fst * 3)) = some ⟨g3, off3 + s.fst * 3, none⟩ := by simp [add_off]
    rw [h3] at h2
    rw [← hfs]
    exact h2)
  have hN1 : f ≤ 1000000000000 := by omega
  clear h ho hdv hres hfs hf hn hN HC huv hn2 hul hun
  go_enter Tryd.func48, Tryd.ntmps48
  go_wp2_with (go_at_call 70; refine HCL.out.mono ?_; rintro e w1 ⟨rfl, hb, hu⟩; have d6 := hb.cell 8; have df := hb.frozen; simp only [LS.cells, List.getElem?_toArray, List.getElem?_cons_succ, List.getElem?_cons_zero] at d6; rw [HFS.out] at d6; have hp1 := hb.lt; have HB1 := Lib.hid hb; have HU1 := Lib.hid hu; clear hb hu)
  have HRX : Hid (ReadsD (w1.alloc (.cells #[.slice (some ⟨g3, off3, none⟩) nn cc, .string s.now.ah, .string s.now.be] 102)) (w1.alloc (.cells #[.slice (some ⟨g3, off3, none⟩) nn cc, .string s.now.ah, .string s.now.be] 102)).heap.size (some ⟨g3, off3 + f * 3, none⟩) (nn - f) (s.now.ds.drop s.fst)) := Lib.hid (by
    have hgp : g3 ≠ p := fun e => HA.out.notTop (g := s.now) (by simp [LS.groups]) (k := p) (by rw [HDV.out, e]; rfl) (.inl rfl)
    have hk : Upd (fun k => k = p) w (w1.alloc (.cells #[.slice (some ⟨g3, off3, none⟩) nn cc, .string s.now.ah, .string s.now.be] 102)) := HU1.out.alloc _
    refine ⟨HRD.out.1, HRD.out.2.1, fun h0 => ?_⟩
    obtain ⟨ad, e, hb, hc⟩ := HRD.out.2.2 h0
    refine ⟨ad, e, Nat.lt_of_lt_of_le hb hk.size, fun j u hu => hk.cell (hc j u hu) ?_⟩
    rw [block_of_add]
    injection e with e
    rw [← e]
    exact hgp)
  have HBq : Hid (Blk (w1.alloc (.cells #[.slice (some ⟨g3, off3, none⟩) nn cc, .string s.now.ah, .string s.now.be] 102)) w1.heap.size 102 #[.slice (some ⟨g3, off3, none⟩) nn cc, .string s.now.ah, .string s.now.be]) := Lib.hid (Blk.new w1 _ _)
  have HBp := Lib.hid (HB1.out.alloc (.cells #[.slice (some ⟨g3, off3, none⟩) nn cc, .string s.now.ah, .string s.now.be] 102))
  have HINV : Hid (∀ w0 : World, w0 = (w1.alloc (.cells #[.slice (some ⟨g3, off3, none⟩) nn cc, .string s.now.ah, .string s.now.be] 102)).drew → ∀ A' n' c', ReadsD (w1.alloc (.cells #[.slice (some ⟨g3, off3, none⟩) nn cc, .string s.now.ah, .string s.now.be] 102)) (w1.alloc (.cells #[.slice (some ⟨g3, off3, none⟩) nn cc, .string s.now.ah, .string s.now.be] 102)).heap.size A' n' (s.now.ds.drop s.fst) → Calls Tryd.prog 59 #[.slice A' n' c'] w0 _) := Lib.hid (fun w0 e A' n' c' hr => by subst e; exact inverted_p (w1.alloc (.cells #[.slice (some ⟨g3, off3, none⟩) nn cc, .string s.now.ah, .string s.now.be] 102)).drew A' n' c' (s.now.ds.drop s.fst) hr (by rw [← hr.1]; (simp; have := HN.out; omega)))
  have m0 := HBq.out.cell 0
  have m6 := HBp.out.cell 8
  simp only [LS.cells, List.getElem?_toArray, List.getElem?_cons_succ, List.getElem?_cons_zero] at m0 m6
  rw [HFS.out] at m6
  go_region_held3 (fun w' => w'.cell? ⟨w1.heap.size, 0, none⟩ = some (.slice (some ⟨g3, off3, none⟩) nn cc) ∧ w'.cell? ⟨p, 8, none⟩ = some (.int .i64 ((f : Nat) : Int)))
    (first | go_keep | exact ⟨l0, e6⟩ | exact ⟨m0, m6⟩)
    ((go_at_call 59; refine (HINV.out _ rfl _ _ _ HRX.out).mono ?_; rintro e w7 ⟨v7, rfl, ho7, hk7, hb7⟩; have hb7 := below_of_drew hb7; have hp7 := HBp.out.upd (Upd.below hb7 No) (fun h => h); have hq7 := HBq.out.upd (Upd.below hb7 No) (fun h => h); have e1 := hp7.cell 1; have e5 := hp7.cell 7; have e6 := hp7.cell 8; have ef := hp7.frozen; have lf := hq7.frozen; have l0 := hq7.cell 0; have l1 := hq7.cell 1; have l2 := hq7.cell 2; simp only [LS.cells, List.getElem?_toArray, List.getElem?_cons_succ, List.getElem?_cons_zero] at e1 e5 e6 l0 l1 l2; rw [HUV.out, ← HN2.out] at e1; rw [HRES.out] at e5; rw [HFS.out] at e6; have hlp := hp7.lt; have hlq := hq7.lt; have HP7 := Lib.hid hp7; have HQ7 := Lib.hid hq7; have HO7 := Lib.hid ho7; have HK7 := Lib.hid hk7; have HW7 := Lib.hid hb7; clear ho7 hk7 hb7 hp7 hq7))
  have hqp : ¬ p = w1.heap.size := by omega
  have hqp2 : ¬ w1.heap.size = p := by omega
  have hub : Upd (fun k => k = p) w w7 := (HU1.out.alloc _).then_ (Upd.below HW7.out No) (fun k hk => hk.elim)
  have hws : w.heap.size ≤ w1.heap.size := HU1.out.size
  have hWu : Upd (fun k => k = p) w ((w7.setCell ⟨w1.heap.size, 0, none⟩ (.slice (some ⟨g3, off3, none⟩) f f)).alloc (.cells #[.slice (some ⟨g3, off3, none⟩) f f, .string s.now.ah, .string s.now.be] 102)) := (hub.setCell (.inr hws) _).alloc _
  have hWB : Blk ((w7.setCell ⟨w1.heap.size, 0, none⟩ (.slice (some ⟨g3, off3, none⟩) f f)).alloc (.cells #[.slice (some ⟨g3, off3, none⟩) f f, .string s.now.ah, .string s.now.be] 102)) p 104 ({ s with now := g0, op := false } : LS).cells := (HP7.out.far (p := ⟨w1.heap.size, 0, none⟩) hqp _).alloc _
  have hor := HA.out.u.upd hWu (fun k hk e => HA.out.up (by rw [← e]; exact hk))
  rw [HUV.out, ← HN2.out] at hor
  have HOr := Lib.hid hor
  have hrn := reads_g (w7.setCell ⟨w1.heap.size, 0, none⟩ (.slice (some ⟨g3, off3, none⟩) f f)) ⟨.slice (some ⟨g3, off3, none⟩) f f, s.now.ds.take s.fst, s.now.ah, s.now.be⟩
  rw [show (w7.setCell ⟨w1.heap.size, 0, none⟩ (.slice (some ⟨g3, off3, none⟩) f f)).heap.size = w7.heap.size by simp [World.setCell]] at hrn
  have HRn := Lib.hid hrn
  have HC1 := Lib.hid (one_g ⟨.slice (some ⟨g3, off3, none⟩) f f, s.now.ds.take s.fst, s.now.ah, s.now.be⟩ _ _ _ rfl)
  have HFIN : Hid (∀ v5 w5, _ → _ → _ → _) := Lib.hid (fun v5 w5 => At.cancelled (v5 := v5) (w5 := w5) HA.out (A3 := (some ⟨g3, off3, none⟩)) (cd := cc) (HDV.out.trans (by rw [HLN.out])) HF.out hWu hWB)
  have HWu := Lib.hid hWu
  have HWB := Lib.hid hWB
  have HUP := Lib.hid HA.out.up
  clear hor hrn hWu hWB
  go_wp2
  go_region
  all_goals
    go_wp2
    go_region_law (first
      | (refine step_append_s (v := .slice A2 n2 cr) (by rfl) _ _ _ (by rfl) Tryd.underlying100 hi0 hz0 hz1 hz2 rfl (by omega) (by rfl) HOr.out (by rfl) HRn.out HC1.out (by unfold maxLen; omega) (by omega) ?_; intro v5 w5 ho5 hg5 hb5; have HO5 := Lib.hid ho5; have HG5 := Lib.hid (gdr hg5); have HB5 := Lib.hid hb5; have hb6 := HWB.out.upd (Upd.grown (S := fun k => (Value.slice A2 n2 cr).ownBlock = some k) HG5.out (fun k e => e)) (fun e => HUP.out (by rw [HUV.out, ← HN2.out]; exact e)); have f0 := hb6.cell 0; have f1 := hb6.cell 1; have ff := hb6.frozen; have hlp5 := hb6.lt; obtain ⟨A5, c5, hv5, hl5⟩ := HO5.out.form; subst hv5; clear ho5 hg5 hb5 hb6; simp only [LS.cells, List.getElem?_toArray, List.getElem?_cons_succ, List.getElem?_cons_zero] at f0 f1; rw [HUV.out, ← HN2.out] at f1))
  all_goals
    have hfin := HFIN.out (.slice A5 (n2 + 1) c5) w5 (by rw [← HN2.out]; show OwnS _ _ _ _ _ (_ ++ Gr.cells ⟨.slice _ s.fst s.fst, _, _, _⟩); rw [HFS.out]; exact HO5.out) (by rw [HUV.out, ← HN2.out]; exact HG5.out) (by rw [HUV.out, ← HN2.out]; exact HB5.out)
    have HFN := Lib.hid hfin
    clear hfin
    go_wp2
    go_ret2
    obtain ⟨hA, hU, hF, hF2⟩ := HFN.out
    have hvk : ∀ k, v7.ownBlock = some k → w1.heap.size < k ∧ k < w7.heap.size := fun k hk => by
      have h1 : (w1.alloc (.cells #[.slice (some ⟨g3, off3, none⟩) nn cc, .string s.now.ah, .string s.now.be] 102)).heap.size ≤ k := HK7.out k hk
      have h2 := OwnS.lt HO7.out k hk
      simp at h1
      omega
    refine ⟨_, _, rfl, ?_, fun k hk => ?_, hA, ?_, hU.mono (fun k hk => At.topFoot k hk), hF⟩
    · rw [HCA.out]
      have hu8 : Upd (fun k => k = w1.heap.size ∨ k = p ∨ s.uv.ownBlock = some k) w7 (w5.setCell ⟨p, 1, none⟩ (.slice A5 (n2 + 1) c5)) := by
        have a1 : Upd (fun k => k = w1.heap.size ∨ k = p ∨ s.uv.ownBlock = some k) w7 ((w7.setCell ⟨w1.heap.size, 0, none⟩ (.slice (some ⟨g3, off3, none⟩) f f)).alloc (.cells #[.slice (some ⟨g3, off3, none⟩) f f, .string s.now.ah, .string s.now.be] 102)) := ((Upd.refl _ _).setCell (.inl (.inl rfl)) _).alloc _
        have a2 := a1.trans (Upd.grown (S := fun k => k = w1.heap.size ∨ k = p ∨ s.uv.ownBlock = some k) HG5.out (fun k e => .inr (.inr (by rw [HUV.out, ← HN2.out]; exact e))))
        exact a2.setCell (.inl (.inr (.inl rfl))) _
      have h9 := OwnS.upd HO7.out hu8 (fun k hk e => by
        obtain ⟨h1, h2⟩ := hvk k hk
        rcases e with e | e | e
        · omega
        · omega
        · have := HA.out.u.lt k e
          omega)
      exact h9
    · obtain ⟨h1, h2⟩ := hvk k hk
      refine ⟨by omega, fun hf => ?_⟩
      rcases hF2 k hf with e | e
      · have := HA.out.lt k e
        omega
      · simp [World.setCell] at e
        omega
    · rw [HAB.out, HRES.out]
      unfold LS.back LS.abs
      simp [Gr.abs]

end
end LogS
end Go.Proofs.YtkpcnfchhnfpoaaDoor
/- A log's methods, each told once. -/
set_option linter.unusedVariables false
namespace Go.Proofs.YtkpcnfchhnfpoaaDoor
open Go.RowKit Go.Proofs.YtkpcnfchhnfpoaaDoorW.PrintWords Go.Proofs.YtkpcnfchhnfpoaaDoor.Sep Log
namespace LogS
/-- What a call on a log leaves: the log in state a, nothing else turned. -/
def Left (w w' : World) (p : Nat) (s : LS) (a : AS A) : Prop := ∃ s', At w' p s' ∧ s'.abs = a ∧ Upd (foot p s) w w' ∧ Fr w p s s'
/-- A list answered, new, of no log's. -/
def LeftL (w w' : World) (p : Nat) (s : LS) (a : AS A) (v : Value) (ds : List Delta) : Prop := ∃ s', At w' p s' ∧ s'.abs = a ∧ Upd (foot p s) w w' ∧ Fr w p s s' ∧ OwnD w' v ds ∧ ∀ k, v.ownBlock = some k → w.heap.size ≤ k ∧ ¬ foot p s' k
section
variable {w w' w1 w5 W : World} {p : Nat} {s s' : LS} {S : Nat → Prop} {init : List Gr} {g : Gr} {v5 : Value} {N : Nat}
theorem Left.same (h : At w p s) (hw : w = w') (a : AS A) (ha : s.abs = a) : Left w w' p s a := by
  subst hw; subst ha
  exact ⟨s, h, rfl, Upd.refl _ _, Fr.refl _ _ _⟩
theorem LeftL.same (h : At w p s) (hw : w = w') (a : AS A) (ha : s.abs = a) : LeftL w w' p s a (.slice none 0 0) [] := by
  obtain ⟨s', h1, h2, h3, h4⟩ := Left.same h hw a ha
  exact ⟨s', h1, h2, h3, h4, OwnS.nil _ _ _, fun k hk => by cases hk⟩
theorem ls_cases (l : List Gr) : l = [] ∨ ∃ init g, l = init ++ [g] := by
  rcases List.eq_nil_or_concat l with h | ⟨i, g, h⟩
  · exact .inl h
  · exact .inr ⟨i, g, by simpa using h⟩
theorem bounds (hi : AS.Inv N s.abs) (hN : N ≤ 100000000000) : s.bound ≤ 1000 ∧ s.undo.length ≤ 1000 ∧ s.redo.length ≤ 1000 ∧ (∀ g ∈ s.undo ++ s.redo, g.ds.length ≤ N) ∧ (s.op = true → s.now.ds.length ≤ N ∧ s.fst ≤ s.now.ds.length) := by
  have hb := hi.b
  have hn := hi.n
  have hd := hi.d
  have hc := hi.c
  unfold LS.abs at hb hn hd hc
  dsimp only at hb hn hd hc
  rw [List.length_map, List.length_map] at hn
  refine ⟨hb, by omega, by omega, fun g hg => ?_, fun ho => ?_⟩
  · refine hd g.abs ?_
    rw [← List.map_append]
    exact List.mem_map_of_mem hg
  · exact hc s.now.abs s.res s.fst (by rw [if_pos ho])
theorem abs_open : s.abs.isOpen = s.op := by
  unfold LS.abs AS.isOpen
  cases s.op <;> rfl
theorem begin_a (h : At w p s) (x : A) (b : Bool) (hb : (!s.abs.isOpen) = b) (a : AS A) (ha : s.abs.begin_ zA x = a) : Calls Tryd.prog 36 #[.pointer (some ⟨p, 0, none⟩), .string x] w fun e w' => e = .returned (.bool b) ∧ Left w w' p s a := by
  rw [abs_open] at hb
  subst hb; subst ha
  cases ho : s.op with
  | true =>
    refine (begin_no h ho x).mono ?_
    rintro e w' ⟨rfl, rfl⟩
    exact ⟨rfl, s, h, by unfold LS.abs AS.begin_; rw [ho]; rfl, Upd.refl _ _, Fr.refl _ _ _⟩
  | false => exact begin_yes h ho x
theorem resume_a (h : At w p s) (hi : AS.Inv N s.abs) (hN : N ≤ 100000000000) (b : Bool) (hb : s.abs.resumeG.isSome = b) (a : AS A) (ha : s.abs.resume = a) : Calls Tryd.prog 39 #[.pointer (some ⟨p, 0, none⟩)] w fun e w' => e = .returned (.bool b) ∧ Left w w' p s a := by
  obtain ⟨hb1, hb2, hb3, hb4, hb5⟩ := bounds hi hN
  subst hb; subst ha
  have same : ∀ (e : s.abs.resumeG = none), (Calls Tryd.prog 39 #[.pointer (some ⟨p, 0, none⟩)] w fun e w' => e = .returned (.bool false) ∧ w = w') → Calls Tryd.prog 39 #[.pointer (some ⟨p, 0, none⟩)] w fun e w' => e = .returned (.bool s.abs.resumeG.isSome) ∧ Left w w' p s s.abs.resume := by
    intro e hc
    refine hc.mono ?_
    rintro e1 w' ⟨rfl, rfl⟩
    refine ⟨by rw [e]; rfl, s, h, ?_, Upd.refl _ _, Fr.refl _ _ _⟩
    unfold AS.resume
    rw [e]
  cases ho : s.op with
  | true => exact same (by unfold AS.resumeG LS.abs; simp [ho]) (resume_open h ho)
  | false =>
    rcases ls_cases s.redo with hr | ⟨i, g, hr⟩
    · rcases ls_cases s.undo with hu | ⟨i, g, hu⟩
      · exact same (by unfold AS.resumeG LS.abs; simp [ho, hr, hu]) (resume_none h ho hr hu)
      · refine (resume_yes h ho i g hu hr (by rw [hu] at hb2; simp at hb2; omega)).mono ?_
        rintro e w' ⟨rfl, h2⟩
        refine ⟨?_, h2⟩
        unfold AS.resumeG LS.abs
        simp [ho, hr, hu]
    · exact same (by unfold AS.resumeG LS.abs; simp [ho, hr]) (resume_redo h ho (by rw [hr]; simp))
theorem add_a (h : At w p s) (hi : AS.Inv N s.abs) (A : Option Addr) (n c : Nat) (ds : List Delta) (hr : ReadsD w w.heap.size A n ds) (hN : N + n ≤ 100000000000) (hap : 0 < n → ∀ a, A = some a → ¬ foot p s a.block) (b : Bool) (hb : s.abs.isOpen = b) (a : AS LogS.A) (ha : s.abs.add ds = a) :
    Calls Tryd.prog 42 #[.pointer (some ⟨p, 0, none⟩), .slice A n c] w fun e w' => e = .returned (.bool b) ∧ Left w w' p s a := by
  obtain ⟨hb1, hb2, hb3, hb4, hb5⟩ := bounds hi (by omega)
  rw [abs_open] at hb
  subst hb; subst ha
  cases ho : s.op with
  | false =>
    refine (add_no h ho _).mono ?_
    rintro e w' ⟨rfl, rfl⟩
    exact ⟨rfl, s, h, by unfold LS.abs AS.add; rw [ho]; rfl, Upd.refl _ _, Fr.refl _ _ _⟩
  | true => exact add_yes h ho A n c ds hr (by have := (hb5 ho).1; omega) hap
theorem commit_a (h : At w p s) (hi : AS.Inv N s.abs) (hN : N ≤ 100000000000) (x : A) (b : Bool) (hb : s.abs.commitB = b) (a : AS A) (ha : s.abs.commit x = a) : Calls Tryd.prog 45 #[.pointer (some ⟨p, 0, none⟩), .string x] w fun e w' => e = .returned (.bool b) ∧ Left w w' p s a := by
  obtain ⟨hb1, hb2, hb3, hb4, hb5⟩ := bounds hi hN
  subst hb; subst ha
  cases ho : s.op with
  | false =>
    refine (commit_no h ho x).mono ?_
    rintro e w' ⟨rfl, rfl⟩
    exact ⟨by unfold LS.abs AS.commitB; rw [ho]; rfl, s, h, by unfold LS.abs AS.commit; rw [ho]; rfl, Upd.refl _ _, Fr.refl _ _ _⟩
  | true =>
    by_cases hd : s.now.ds = []
    · refine (commit_empty h ho hd x).mono ?_
      rintro e w' ⟨rfl, h2⟩
      exact ⟨by unfold LS.abs AS.commitB; simp [ho, Gr.abs, hd], h2⟩
    · refine (commit_yes h ho hd x (by omega)).mono ?_
      rintro e w' ⟨rfl, h2⟩
      exact ⟨by unfold LS.abs AS.commitB; simp [ho, Gr.abs, hd], h2⟩
theorem cancel_a (h : At w p s) (hi : AS.Inv N s.abs) (hN : N ≤ 100000000000) (b : Bool) (hb : s.abs.isOpen = b) (ds : List Delta) (hd : s.abs.cancelL = ds) (a : AS A) (ha : s.abs.cancel = a) : Calls Tryd.prog 48 #[.pointer (some ⟨p, 0, none⟩)] w fun e w' => ∃ v, e = .returned (.tuple #[v, .bool b]) ∧ LeftL w w' p s a v ds := by
  obtain ⟨hb1, hb2, hb3, hb4, hb5⟩ := bounds hi hN
  rw [abs_open] at hb
  subst hb; subst ha; subst hd
  cases ho : s.op with
  | false =>
    refine (cancel_no h ho).mono ?_
    rintro e w' ⟨rfl, rfl⟩
    refine ⟨_, rfl, ?_⟩
    rw [show s.abs.cancelL = [] by unfold LS.abs AS.cancelL; rw [ho]; rfl, show s.abs.cancel = s.abs by unfold LS.abs AS.cancel; rw [ho]; rfl]
    exact ⟨s, h, rfl, Upd.refl _ _, Fr.refl _ _ _, OwnS.nil _ _ _, fun k hk => by cases hk⟩
  | true =>
    obtain ⟨hn, hf⟩ := hb5 ho
    have hnl : s.now.ds.length ≤ 1000000000000 := by omega
    have hul : s.undo.length ≤ 2000 := by omega
    have fin : (Calls Tryd.prog 48 #[.pointer (some ⟨p, 0, none⟩)] w fun e w' => ∃ v s', e = .returned (.tuple #[v, .bool true]) ∧ OwnD w' v s.abs.cancelL ∧ (∀ k, v.ownBlock = some k → w.heap.size ≤ k ∧ ¬ foot p s' k) ∧ At w' p s' ∧ s'.abs = s.abs.cancel ∧ Upd (foot p s) w w' ∧ Fr w p s s') → Calls Tryd.prog 48 #[.pointer (some ⟨p, 0, none⟩)] w fun e w' => ∃ v, e = .returned (.tuple #[v, .bool true]) ∧ LeftL w w' p s s.abs.cancel v s.abs.cancelL := fun hc => by
      refine hc.mono ?_
      rintro e w' ⟨v, s', rfl, h1, h2, h3, h4, h5, h6⟩
      exact ⟨v, rfl, s', h3, h4, h5, h6, h1, h2⟩
    refine fin ?_
    have hm := h.d s.now (by simp [LS.groups])
    rcases Nat.lt_or_ge s.fst s.now.ds.length with hlt | hge
    · obtain ⟨g3, off3, cc, hv, hnc, _⟩ := OwnS.some_ hm (by omega)
      cases hr : s.res with
      | false => exact cancel_more_false h ho hr g3 off3 s.fst s.now.ds.length cc hlt hnc hv rfl rfl hf hnl hul
      | true => exact cancel_more_true h ho hr g3 off3 s.fst s.now.ds.length cc hlt hnc hv rfl rfl hf hnl hul
    · have hN2 : s.now.ds.length = s.fst := by omega
      have hD : s.now.ds.drop s.fst = [] := List.drop_eq_nil_of_le (by omega)
      rcases hm.2 with ⟨hv, h0⟩ | ⟨g3, off3, cap, cur, hv, _, hl, _⟩
      · have hf0 : s.fst = 0 := by omega
        cases hr : s.res with
        | false => exact cancel_nil_false h ho hr hv hf0 hD h0 hf hnl hul
        | true => exact cancel_nil_true h ho hr hv hf0 hD h0 hf hnl hul
      · rcases Nat.lt_or_ge s.fst cap with hc | hc
        · obtain ⟨c2, hc2⟩ : ∃ c2, cap = s.fst + (c2 + 1) := ⟨cap - s.fst - 1, by omega⟩
          rw [hN2, hc2] at hv
          cases hr : s.res with
          | false => exact cancel_end2_false h ho hr g3 off3 s.fst c2 hv rfl hD hN2 hf hnl hul
          | true => exact cancel_end2_true h ho hr g3 off3 s.fst c2 hv rfl hD hN2 hf hnl hul
        · have hc2 : cap = s.fst := by omega
          rw [hN2, hc2] at hv
          cases hr : s.res with
          | false => exact cancel_end1_false h ho hr g3 off3 s.fst hv rfl hD hN2 hf hnl hul
          | true => exact cancel_end1_true h ho hr g3 off3 s.fst hv rfl hD hN2 hf hnl hul
theorem undo_a (h : At w p s) (hi : AS.Inv N s.abs) (hN : N ≤ 100000000000) (ds : List Delta) (hd : s.abs.undoL = ds) (x : A) (hx : s.abs.undoA zA = x) (c : Int) (hc : s.abs.undoE = c) (a : AS A) (ha : s.abs.undo_ = a) : Calls Tryd.prog 72 #[.pointer (some ⟨p, 0, none⟩)] w fun e w' => ∃ v, e = .returned (.tuple #[v, .string x, .int .i64 c]) ∧ LeftL w w' p s a v ds := by
  obtain ⟨hb1, hb2, hb3, hb4, hb5⟩ := bounds hi hN
  subst hd; subst hx; subst hc; subst ha
  have none_ : s.abs.undoG = none → (Calls Tryd.prog 72 #[.pointer (some ⟨p, 0, none⟩)] w fun e w' => e = .returned (.tuple #[.slice none 0 0, .string zA, .int .i64 3]) ∧ w = w') → Calls Tryd.prog 72 #[.pointer (some ⟨p, 0, none⟩)] w fun e w' => ∃ v, e = .returned (.tuple #[v, .string (s.abs.undoA zA), .int .i64 s.abs.undoE]) ∧ LeftL w w' p s s.abs.undo_ v s.abs.undoL := fun e hc => by
    refine hc.mono ?_
    rintro e1 w' ⟨rfl, hw⟩
    unfold AS.undoL AS.undoA AS.undoE AS.undo_
    rw [e]
    exact ⟨_, rfl, LeftL.same h hw _ rfl⟩
  cases ho : s.op with
  | true => exact none_ (by unfold AS.undoG LS.abs; simp [ho]) (undo_open h ho)
  | false =>
    rcases ls_cases s.undo with hu | ⟨i, g, hu⟩
    · exact none_ (by unfold AS.undoG LS.abs; simp [ho, hu]) (undo_none h ho hu)
    · have e : s.abs.undoG = some g.abs := by unfold AS.undoG LS.abs; simp [ho, hu]
      refine (undo_some h ho i g hu (by omega) (by rw [hu] at hb2; simp at hb2; omega) (by have := hb4 g (by rw [hu]; simp); omega)).mono ?_
      rintro e1 w' ⟨v, s', rfl, h1, h2, h3, h4, h5, h6⟩
      refine ⟨v, ?_, s', h3, h4, h5, h6, ?_, h2⟩
      · unfold AS.undoA AS.undoE
        rw [e]
        rfl
      · unfold AS.undoL
        rw [e]
        exact h1
theorem redo_a (h : At w p s) (hi : AS.Inv N s.abs) (hN : N ≤ 100000000000) (ds : List Delta) (hd : s.abs.redoL = ds) (x : A) (hx : s.abs.redoA zA = x) (c : Int) (hc : s.abs.redoE = c) (a : AS A) (ha : s.abs.redo_ = a) : Calls Tryd.prog 74 #[.pointer (some ⟨p, 0, none⟩)] w fun e w' => ∃ v, e = .returned (.tuple #[v, .string x, .int .i64 c]) ∧ LeftL w w' p s a v ds := by
  obtain ⟨hb1, hb2, hb3, hb4, hb5⟩ := bounds hi hN
  subst hd; subst hx; subst hc; subst ha
  have none_ : s.abs.redoG = none → (Calls Tryd.prog 74 #[.pointer (some ⟨p, 0, none⟩)] w fun e w' => e = .returned (.tuple #[.slice none 0 0, .string zA, .int .i64 4]) ∧ w = w') → Calls Tryd.prog 74 #[.pointer (some ⟨p, 0, none⟩)] w fun e w' => ∃ v, e = .returned (.tuple #[v, .string (s.abs.redoA zA), .int .i64 s.abs.redoE]) ∧ LeftL w w' p s s.abs.redo_ v s.abs.redoL := fun e hc => by
    refine hc.mono ?_
    rintro e1 w' ⟨rfl, hw⟩
    unfold AS.redoL AS.redoA AS.redoE AS.redo_
    rw [e]
    exact ⟨_, rfl, LeftL.same h hw _ rfl⟩
  cases ho : s.op with
  | true => exact none_ (by unfold AS.redoG LS.abs; simp [ho]) (redo_open h ho)
  | false =>
    rcases ls_cases s.redo with hu | ⟨i, g, hu⟩
    · exact none_ (by unfold AS.redoG LS.abs; simp [ho, hu]) (redo_none h ho hu)
    · have e : s.abs.redoG = some g.abs := by unfold AS.redoG LS.abs; simp [ho, hu]
      refine (redo_some h ho i g hu (by omega) (by rw [hu] at hb3; simp at hb3; omega) (by have := hb4 g (by rw [hu]; simp); omega)).mono ?_
      rintro e1 w' ⟨v, s', rfl, h1, h2, h3, h4, h5, h6⟩
      refine ⟨v, ?_, s', h3, h4, h5, h6, ?_, h2⟩
      · unfold AS.redoA AS.redoE
        rw [e]
        rfl
      · unfold AS.redoL
        rw [e]
        exact h1
theorem clear_a (h : At w p s) : Calls Tryd.prog 52 #[.pointer (some ⟨p, 0, none⟩)] w fun e w' => e = .returned (.tuple #[]) ∧ Left w w' p s s.abs.clear := clear_ h
end
end LogS
end Go.Proofs.YtkpcnfchhnfpoaaDoor
/- A log that lies in new memory. -/
set_option linter.unusedVariables false
namespace Go.Proofs.YtkpcnfchhnfpoaaDoor
open Go.RowKit Go.Proofs.YtkpcnfchhnfpoaaDoorW.PrintWords Go.Proofs.YtkpcnfchhnfpoaaDoor.Sep Log
namespace LogS
/-- A log in state a in memory newer than w0. -/
structure LB (w0 w : World) (p : Nat) (s : LS) (a : AS A) (N : Nat) : Prop where
  at_ : At w p s
  abs : s.abs = a
  new : ∀ k, foot p s k → w0.heap.size ≤ k
  below : Below w0.heap.size w0 w
  inv : AS.Inv N a
  small : N ≤ 100000000000
section
variable {w0 w w' : World} {p : Nat} {s s' : LS} {a a' : AS A} {N M : Nat} {S : Nat → Prop}
/-- What a call on the box leaves. -/
def Box (w0 w w' : World) (p : Nat) (s : LS) (a : AS A) (N : Nat) : Prop := ∃ s', LB w0 w' p s' a N ∧ Upd (foot p s) w w' ∧ Fr w p s s'
def BoxL (w0 w w' : World) (p : Nat) (s : LS) (a : AS A) (N : Nat) (v : Value) (ds : List Delta) : Prop := ∃ s', LB w0 w' p s' a N ∧ Upd (foot p s) w w' ∧ Fr w p s s' ∧ OwnD w' v ds ∧ ∀ k, v.ownBlock = some k → w.heap.size ≤ k ∧ ¬ foot p s' k
theorem LB.left (h : LB w0 w p s a N) (hl : Left w w' p s a') (hi : AS.Inv M a') (hm : M ≤ 100000000000) : Box w0 w w' p s a' M := by
  obtain ⟨s', h1, h2, h3, h4⟩ := hl
  exact ⟨s', ⟨h1, h2, fun k hk => (h4 k hk).elim (h.new k) (fun e => Nat.le_trans h.below.size e), h.below.trans (h3.toBelow h.below.size h.new), hi, hm⟩, h3, h4⟩
theorem LB.leftL (h : LB w0 w p s a N) {v : Value} {ds : List Delta} (hl : LeftL w w' p s a' v ds) (hi : AS.Inv M a') (hm : M ≤ 100000000000) : BoxL w0 w w' p s a' M v ds := by
  obtain ⟨s', h1, h2, h3, h4, h5, h6⟩ := hl
  exact ⟨s', ⟨h1, h2, fun k hk => (h4 k hk).elim (h.new k) (fun e => Nat.le_trans h.below.size e), h.below.trans (h3.toBelow h.below.size h.new), hi, hm⟩, h3, h4, h5, h6⟩
theorem LB.later (h : LB w0 w p s a N) (hb : Below w.heap.size w w') : LB w0 w' p s a N :=
  ⟨h.at_.below hb, h.abs, h.new, h.below.trans (hb.mono h.below.size), h.inv, h.small⟩
theorem LB.beside (h : LB w0 w p s a N) (hu : Upd S w w') (hd : ∀ k, S k → w0.heap.size ≤ k ∧ ¬ foot p s k) : LB w0 w' p s a N :=
  ⟨h.at_.upd hu (fun k hk hs => (hd k hs).2 hk), h.abs, h.new, h.below.trans (hu.toBelow h.below.size (fun k hk => (hd k hk).1)), h.inv, h.small⟩
theorem LB.drewN (h : LB w0 w p s a N) (n : Nat) : LB w0 (w.drewN n) p s a N := ⟨h.at_.below (Below.drewN' (Below.refl _ _) n), h.abs, h.new, Below.drewN' h.below n, h.inv, h.small⟩
theorem LB.drew (h : LB w0 w p s a N) : LB w0 w.drew p s a N := ⟨h.at_.below ⟨rfl, rfl, rfl, Nat.le_refl _, fun _ _ => rfl⟩, h.abs, h.new, ⟨h.below.os, h.below.tape, h.below.output, h.below.size, h.below.block⟩, h.inv, h.small⟩
theorem new_b (n : Int) (hb : Below w0.heap.size w0 w) (a : AS A) (ha : AS.new (min (max n 0) 1000).toNat = a) (N : Nat) (hN : N ≤ 100000000000) : Calls Tryd.prog 32 #[.int .i64 n] w fun e w' => ∃ p s, e = .returned (.pointer (some ⟨p, 0, none⟩)) ∧ LB w0 w' p s a N ∧ (∀ k, foot p s k → w.heap.size ≤ k) ∧ Below w.heap.size w w' := by
  subst ha
  refine (new_ w n).mono ?_
  rintro e w' ⟨p, s, rfl, h1, h2, h3, h4⟩
  exact ⟨p, s, rfl, ⟨h1, h2, fun k hk => Nat.le_trans hb.size (h3 k hk), hb.trans (h4.mono hb.size), AS.Inv.new _ (by omega) N, hN⟩, h3, h4⟩
theorem bound_b (h : LB w0 w p s a N) (n : Nat) (hn : a.bound = n) : Calls Tryd.prog 57 #[.pointer (some ⟨p, 0, none⟩)] w fun e w' => e = .returned (.int .i64 (n : Int)) ∧ w = w' := by
  subst hn
  have := bound_ h.at_
  rw [← h.abs]
  exact this
theorem redos_b (h : LB w0 w p s a N) (n : Nat) (hn : a.redo.length = n) : Calls Tryd.prog 54 #[.pointer (some ⟨p, 0, none⟩)] w fun e w' => e = .returned (.int .i64 (n : Int)) ∧ w = w' := by
  subst hn
  have := redos h.at_
  rw [← h.abs, show s.abs.redo.length = s.redo.length from List.length_map ..]
  exact this
theorem begin_b (h : LB w0 w p s a N) (x : A) (b : Bool) (hb : (!a.isOpen) = b) (a' : AS A) (ha : a.begin_ zA x = a') : Calls Tryd.prog 36 #[.pointer (some ⟨p, 0, none⟩), .string x] w fun e w' => e = .returned (.bool b) ∧ Box w0 w w' p s a' N := by
  refine (begin_a h.at_ x b (by rw [h.abs]; exact hb) a' (by rw [h.abs]; exact ha)).mono ?_
  rintro e w' ⟨rfl, hl⟩
  exact ⟨rfl, h.left hl (by rw [← ha]; exact h.inv.begin_ _ _) h.small⟩
theorem resume_b (h : LB w0 w p s a N) (b : Bool) (hb : a.resumeG.isSome = b) (a' : AS A) (ha : a.resume = a') : Calls Tryd.prog 39 #[.pointer (some ⟨p, 0, none⟩)] w fun e w' => e = .returned (.bool b) ∧ Box w0 w w' p s a' N := by
  refine (resume_a h.at_ (N := N) (by rw [h.abs]; exact h.inv) h.small b (by rw [h.abs]; exact hb) a' (by rw [h.abs]; exact ha)).mono ?_
  rintro e w' ⟨rfl, hl⟩
  exact ⟨rfl, h.left hl (by rw [← ha]; exact h.inv.resume) h.small⟩
theorem add_b (h : LB w0 w p s a N) (A : Option Addr) (n c : Nat) (ds : List Delta) (hr : ReadsD w w.heap.size A n ds) (hN : N + n ≤ 100000000000) (hap : 0 < n → ∀ a, A = some a → ¬ foot p s a.block) (b : Bool) (hb : a.isOpen = b) (a' : AS LogS.A) (ha : a.add ds = a') :
    Calls Tryd.prog 42 #[.pointer (some ⟨p, 0, none⟩), .slice A n c] w fun e w' => e = .returned (.bool b) ∧ Box w0 w w' p s a' (N + n) := by
  refine (add_a h.at_ (N := N) (by rw [h.abs]; exact h.inv) A n c ds hr hN hap b (by rw [h.abs]; exact hb) a' (by rw [h.abs]; exact ha)).mono ?_
  rintro e w' ⟨rfl, hl⟩
  exact ⟨rfl, h.left hl (by rw [← ha, ← hr.1]; exact h.inv.add _) hN⟩
theorem commit_b (h : LB w0 w p s a N) (x : A) (b : Bool) (hb : a.commitB = b) (a' : AS A) (ha : a.commit x = a') : Calls Tryd.prog 45 #[.pointer (some ⟨p, 0, none⟩), .string x] w fun e w' => e = .returned (.bool b) ∧ Box w0 w w' p s a' N := by
  refine (commit_a h.at_ (N := N) (by rw [h.abs]; exact h.inv) h.small x b (by rw [h.abs]; exact hb) a' (by rw [h.abs]; exact ha)).mono ?_
  rintro e w' ⟨rfl, hl⟩
  exact ⟨rfl, h.left hl (by rw [← ha]; exact h.inv.commit _) h.small⟩
theorem cancel_b (h : LB w0 w p s a N) (b : Bool) (hb : a.isOpen = b) (ds : List Delta) (hd : a.cancelL = ds) (a' : AS A) (ha : a.cancel = a') : Calls Tryd.prog 48 #[.pointer (some ⟨p, 0, none⟩)] w fun e w' => ∃ v, e = .returned (.tuple #[v, .bool b]) ∧ BoxL w0 w w' p s a' N v ds := by
  refine (cancel_a h.at_ (N := N) (by rw [h.abs]; exact h.inv) h.small b (by rw [h.abs]; exact hb) ds (by rw [h.abs]; exact hd) a' (by rw [h.abs]; exact ha)).mono ?_
  rintro e w' ⟨v, rfl, hl⟩
  exact ⟨v, rfl, h.leftL hl (by rw [← ha]; exact h.inv.cancel) h.small⟩
theorem undo_b (h : LB w0 w p s a N) (ds : List Delta) (hd : a.undoL = ds) (x : A) (hx : a.undoA zA = x) (c : Int) (hc : a.undoE = c) (a' : AS A) (ha : a.undo_ = a') : Calls Tryd.prog 72 #[.pointer (some ⟨p, 0, none⟩)] w fun e w' => ∃ v, e = .returned (.tuple #[v, .string x, .int .i64 c]) ∧ BoxL w0 w w' p s a' N v ds := by
  refine (undo_a h.at_ (N := N) (by rw [h.abs]; exact h.inv) h.small ds (by rw [h.abs]; exact hd) x (by rw [h.abs]; exact hx) c (by rw [h.abs]; exact hc) a' (by rw [h.abs]; exact ha)).mono ?_
  rintro e w' ⟨v, rfl, hl⟩
  exact ⟨v, rfl, h.leftL hl (by rw [← ha]; exact h.inv.undo_) h.small⟩
theorem redo_b (h : LB w0 w p s a N) (ds : List Delta) (hd : a.redoL = ds) (x : A) (hx : a.redoA zA = x) (c : Int) (hc : a.redoE = c) (a' : AS A) (ha : a.redo_ = a') : Calls Tryd.prog 74 #[.pointer (some ⟨p, 0, none⟩)] w fun e w' => ∃ v, e = .returned (.tuple #[v, .string x, .int .i64 c]) ∧ BoxL w0 w w' p s a' N v ds := by
  refine (redo_a h.at_ (N := N) (by rw [h.abs]; exact h.inv) h.small ds (by rw [h.abs]; exact hd) x (by rw [h.abs]; exact hx) c (by rw [h.abs]; exact hc) a' (by rw [h.abs]; exact ha)).mono ?_
  rintro e w' ⟨v, rfl, hl⟩
  exact ⟨v, rfl, h.leftL hl (by rw [← ha]; exact h.inv.redo_) h.small⟩
theorem clear_b (h : LB w0 w p s a N) (a' : AS A) (ha : a.clear = a') : Calls Tryd.prog 52 #[.pointer (some ⟨p, 0, none⟩)] w fun e w' => e = .returned (.tuple #[]) ∧ Box w0 w w' p s a' N := by
  subst ha
  refine (clear_a h.at_).mono ?_
  rintro e w' ⟨rfl, hl⟩
  rw [h.abs] at hl
  exact ⟨rfl, h.left hl h.inv.clear h.small⟩
end
end LogS
end Go.Proofs.YtkpcnfchhnfpoaaDoor
