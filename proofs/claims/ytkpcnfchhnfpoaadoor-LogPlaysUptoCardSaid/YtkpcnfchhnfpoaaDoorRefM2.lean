/- The document's log: Cancel. Printed by a program of this claim. -/
import Derived.Test.YtkpcnfchhnfpoaaDoorRefM1
import Derived.Test.YtkpcnfchhnfpoaaDoorLogICancelw
import Derived.Test.YtkpcnfchhnfpoaaDoorAbs2
set_option linter.unusedVariables false
namespace Go.Proofs.YtkpcnfchhnfpoaaDoor
open Go.RowKit Go.Proofs.YtkpcnfchhnfpoaaDoorW.PrintWords Go.Proofs.YtkpcnfchhnfpoaaDoor.Sep Log
open LogI (Gr g0 flat_glen flat_last flat_init flat_push one_g one_gs blk_new_set ls_cases live_eq filter_step below_undrewN flat_drop1 reads_nil flat_take flat_drop)
namespace RefL
section
variable {w w' w5 W : World} {p : Nat} {s s' : RS} {S : Nat → Prop} {init : List Gr} {g : Gr} {N : Nat} {v5 : Value}
set_option maxHeartbeats 12800000
set_option maxRecDepth 100000
theorem gdr {w w' : World} {row : Option Nat} (h : w.drew.drew.grownBy w' row) : w.grownBy w' row := ⟨h.os, h.tape, h.output, h.size, h.block⟩
theorem below_of_drew {w w' : World} (h : Below w.drew.heap.size w.drew w') : Below w.heap.size w w' := ⟨h.os, h.tape, h.output, h.size, h.block⟩
/-- The group at hand goes to undo, and stays at hand. -/
theorem RAt.push (h : RAt w p s) (hW : Upd (fun k => k = p) w W) (hB : Blk W p 93 s.cells)
    (ho5 : OwnS w5 91 3 v5 (s.undo.length + 1) (s.undo.flatMap Gr.cells ++ s.now.cells)) (hg5 : W.grownBy w5 s.uv.ownBlock) (hb5 : v5.ownBlock = s.uv.ownBlock ∨ ∀ k, v5.ownBlock = some k → W.heap.size ≤ k) :
    RAt (w5.setCell ⟨p, 1, none⟩ v5) p { s with uv := v5, undo := s.undo ++ [s.now] } ∧ Upd (fun k => k = p ∨ s.uv.ownBlock = some k) w (w5.setCell ⟨p, 1, none⟩ v5) ∧ Fr W p s { s with uv := v5, undo := s.undo ++ [s.now] } := by
  have hgu : Upd (fun k => s.uv.ownBlock = some k) W w5 := Upd.grown hg5 (fun k e => e)
  have hu5 : Upd (fun k => k = p ∨ s.uv.ownBlock = some k) w w5 := (hW.mono (fun k e => .inl e)).then_ hgu (fun k hk => .inl (.inr hk))
  have hB5 : Blk w5 p 93 s.cells := hB.upd hgu h.up
  have hu6 : Upd (fun k => k = p ∨ s.uv.ownBlock = some k) w (w5.setCell ⟨p, 1, none⟩ v5) := hu5.setCell (.inl (.inl rfl)) _
  have hgm : ∀ g ∈ ({ s with uv := v5, undo := s.undo ++ [s.now] } : RS).groups, g ∈ s.groups := fun g hg => by
    simp only [RS.groups, List.mem_cons, List.mem_append, List.not_mem_nil, or_false] at hg ⊢
    rcases hg with rfl | (hg | rfl) | hg
    · exact .inl rfl
    · exact .inr (.inl hg)
    · exact .inl rfl
    · exact .inr (.inr hg)
  have hb := h.build (s' := { s with uv := v5, undo := s.undo ++ [s.now] }) (hu6.mono (fun k hk => hk.elim .inl (fun e => .inr (.inl e)))) (by (apply Blk.eq_; (focus (repeat' (first | with_reducible exact hB5 | with_reducible apply Blk.drewN | with_reducible apply Blk.drew | with_reducible apply Blk.set_ | with_reducible apply Blk.alloc))); all_goals (simp only [RS.cells, List.setIfInBounds_toArray, List.set_cons_succ, List.set_cons_zero] <;> rfl))) (by
    show OwnS _ _ _ v5 (s.undo ++ [_]).length ((s.undo ++ [_]).flatMap Gr.cells)
    rw [flat_push, List.length_append]
    exact ho5.keep (fun k hk => Below.heap_setCell _ _ _ _ (fun e => ho5.ne_blk hB5 (by decide) (by rw [hk, e])))) (h.r.upd hu6 (fun k hk e => e.elim (fun e => h.rp (by rw [← e]; exact hk)) (fun e => h.ur k e hk)))
    (fun k hk e => by
      rcases hb5 with hb | hb
      · exact h.ur k (by rw [← hb]; exact hk) e
      · have h1 := hb k hk
        have h2 := h.r.lt k e
        have h3 := hW.size
        omega) (fun g hg => ⟨g, hgm g hg, rfl, rfl⟩) (fun k hk => by
      rcases hb5 with hb | hb
      · exact .inl (by rw [← hb]; exact hk)
      · exact .inr (Nat.le_trans hW.size (hb k hk))) (fun k hk => .inl hk)
  exact ⟨hb.1, hu6, Fr.build (fun k hk => by
      rcases hb5 with hb | hb
      · exact .inl (by rw [← hb]; exact hk)
      · exact .inr (hb k hk)) (fun k hk => .inl hk) (From.sub hgm)⟩
/-- The group at hand is cut back. -/
theorem RAt.cutNow (h : RAt w p s) {A : Option Addr} {nn c : Nat} (hdv : s.now.dv = .slice A nn c) (hN : s.now.ds.length = nn) (f : Nat) (hf : f ≤ nn) (u : Upd (fun k => k = p) w W) (hb : Blk W p 93 ({ s with op := false, now := { s.now with dv := .slice A f c, ds := s.now.ds.take f } } : RS).cells) :
    RAt W p { s with op := false, now := { s.now with dv := .slice A f c, ds := s.now.ds.take f } } ∧ ∀ k, foot p { s with op := false, now := { s.now with dv := .slice A f c, ds := s.now.ds.take f } } k → foot p s k := by
  have hbl : (Value.slice A f c).ownBlock = s.now.dv.ownBlock := by rw [hdv]; cases A <;> rfl
  have hD := h.dKeep u (fun k hk => .inl hk)
  refine ⟨⟨hb, h.u.upd u (fun k hk e => h.up (by rw [← e]; exact hk)), h.r.upd u (fun k hk e => h.rp (by rw [← e]; exact hk)), h.ur, fun g hg => ?_⟩, fun k hk => ?_⟩
  · have hg : g ∈ ({ s.now with dv := .slice A f c, ds := s.now.ds.take f } : Gr) :: (s.undo ++ s.redo) := hg
    rcases List.mem_cons.1 hg with rfl | hg
    · have h1 := hD s.now (by simp [RS.groups])
      unfold OwnD at h1 ⊢
      rw [hdv, hN] at h1
      have h2 := OwnS.take h1 f hf
      rw [show (s.now.ds.take f).length = f by rw [List.length_take, hN]; omega, ← flat_take]
      exact h2
    · exact hD g (List.mem_cons_of_mem _ hg)
  · rcases hk with hk | hk | hk | ⟨g, hg, hk⟩
    · exact .inl hk
    · exact .inr (.inl hk)
    · exact .inr (.inr (.inl hk))
    · have hg : g ∈ ({ s.now with dv := .slice A f c, ds := s.now.ds.take f } : Gr) :: (s.undo ++ s.redo) := hg
      rcases List.mem_cons.1 hg with rfl | hg
      · exact .inr (.inr (.inr ⟨s.now, by simp [RS.groups], by rw [← hbl]; exact hk⟩))
      · exact .inr (.inr (.inr ⟨g, List.mem_cons_of_mem _ hg, hk⟩))
theorem cancel_no (h : RAt w p s) (ho : s.op = false) : Calls Tryd.prog 64 #[.pointer (some ⟨p, 0, none⟩)] w fun e w' => e = .returned (.tuple #[.slice none 0 0, .bool false]) ∧ w = w' := by
  obtain ⟨_, _, _, c3, -⟩ := h.cells
  rw [ho] at c3
  clear h ho
  go_enter Tryd.func64, Tryd.ntmps64
  go_wp2
  go_ret2
  exact ⟨rfl, rfl⟩
theorem cancel_nil_false (h : RAt w p s) (ho : s.op = true) (hres : s.res = false) (hdv : s.now.dv = .slice none 0 0) (hfs : s.had = 0) (hD : s.now.ds.drop s.had = []) (hN : s.now.ds.length = 0) (hf : s.had ≤ s.now.ds.length) (hn : s.now.ds.length ≤ 1000000000000) (hun : s.undo.length ≤ 2000) :
    Calls Tryd.prog 64 #[.pointer (some ⟨p, 0, none⟩)] w fun e w' => ∃ v, e = .returned (.tuple #[v, .bool true]) ∧ LeftL w w' p s s.abs.cancel v s.abs.cancelL := by
  obtain ⟨i0, hi0, hz0, hz1, hz2⟩ := info_parts info91
  obtain ⟨c0, c1, c2, c3, c4, c5, c6, c7, c8, cf⟩ := h.cells
  have hpw := h.blk.lt
  have HCA : Hid (s.abs.cancelL = back (s.now.ds.drop s.had)) := Lib.hid (by unfold RS.abs AS.cancelL; dsimp only; rw [if_pos ho]; rfl)
  have HAB : Hid (s.abs.cancel = { s.abs with cur := none, undo := if s.res = true then s.abs.undo ++ [{ s.now.abs with ds := s.now.ds.take s.had }] else s.abs.undo }) := Lib.hid (by unfold RS.abs AS.cancel; dsimp only; rw [if_pos ho]; rfl)
  have HA := Lib.hid h
  have HDV := Lib.hid hdv
  have HFS := Lib.hid hfs
  have HF := Lib.hid hf
  have HN := Lib.hid hn
  have HLN := Lib.hid hN
  have HRES := Lib.hid hres
  obtain ⟨A2, cr, huv, hul⟩ := h.u.form
  have HUV := Lib.hid huv
  obtain ⟨n2, hn2⟩ : ∃ n2, n2 = s.undo.length := ⟨_, rfl⟩
  have HN2 := Lib.hid hn2
  have hn3 : n2 ≤ 2000 := by omega
  rw [hdv] at c4
  rw [ho] at c3
  rw [hres] at c8
  rw [hfs] at c7
  rw [huv, ← hn2] at c1
  have hU1 : Upd (fun k => k = p) w (w.setCell ⟨p, 3, none⟩ (.bool false)) := by (repeat' (first | with_reducible exact Upd.refl _ _ | with_reducible refine Upd.drewN ?_ _ | with_reducible refine Upd.drew ?_ | with_reducible refine Upd.alloc ?_ _ | (with_reducible refine Upd.setCell ?_ ?_ _; rotate_left; first | exact Or.inl rfl | exact Or.inl (foot_p _ _))))
  have hB0 : Blk w p 93 s.cells := h.blk
  have hB1 : Blk (w.setCell ⟨p, 3, none⟩ (.bool false)) p 93 ({ s with op := false } : RS).cells := by (apply Blk.eq_; (focus (repeat' (first | with_reducible exact hB0 | with_reducible apply Blk.drewN | with_reducible apply Blk.drew | with_reducible apply Blk.set_ | with_reducible apply Blk.alloc))); all_goals (simp only [RS.cells, List.setIfInBounds_toArray, List.set_cons_succ, List.set_cons_zero] <;> rfl))
  have HD := Lib.hid hD
  clear hD
  have HU1 := Lib.hid hU1
  have HB1 := Lib.hid hB1
  clear h ho hdv hres hfs hf hn hN huv hn2 hul hun hU1 hB1 hB0
  have HINV : Hid (∀ w0 : World, w0 = (w.setCell ⟨p, 3, none⟩ (.bool false)).drew → ∀ A' n' c', ReadsD (w.setCell ⟨p, 3, none⟩ (.bool false)) (w.setCell ⟨p, 3, none⟩ (.bool false)).heap.size A' n' [] → Calls Tryd.prog 77 #[.slice A' n' c'] w0 _) := Lib.hid (fun w0 e A' n' c' hr => by subst e; exact inverted_d (w.setCell ⟨p, 3, none⟩ (.bool false)).drew A' n' c' [] hr (by have h1 := hr.1; simp only [List.length_nil] at h1; omega))
  go_enter Tryd.func64, Tryd.ntmps64
  go_wp2
  have m4 := HB1.out.cell 4
  have m7 := HB1.out.cell 7
  simp only [RS.cells, List.getElem?_toArray, List.getElem?_cons_succ, List.getElem?_cons_zero] at m4 m7
  rw [HDV.out] at m4
  rw [HFS.out] at m7
  go_region_held3 (fun w' => w'.cell? ⟨p, 4, none⟩ = some (.slice none 0 0) ∧ w'.cell? ⟨p, 7, none⟩ = some (.int .i64 ((0 : Nat) : Int)))
    (first | go_keep | exact ⟨q4, q7⟩ | exact ⟨m4, m7⟩)
    ((go_at_call 77; refine (HINV.out _ rfl _ _ _ (reads_nil _ _ _)).mono ?_; rintro e w7 ⟨v7, rfl, ho7, hk7, hb7⟩; have hb7 := below_of_drew hb7; have hp7 := HB1.out.upd (Upd.below hb7 No) (fun h => h); have q1 := hp7.cell 1; have q4 := hp7.cell 4; have q7 := hp7.cell 7; have q8 := hp7.cell 8; have qf := hp7.frozen; have qc := hp7.cell 5; have qd := hp7.cell 6; simp only [RS.cells, List.getElem?_toArray, List.getElem?_cons_succ, List.getElem?_cons_zero] at q1 q4 q7 q8 qc qd; rw [HUV.out, ← HN2.out] at q1; rw [HDV.out] at q4; rw [HFS.out] at q7; rw [HRES.out] at q8; have hlp := hp7.lt; have HP7 := Lib.hid hp7; have HO7 := Lib.hid ho7; have HK7 := Lib.hid hk7; have HW7 := Lib.hid hb7; clear ho7 hk7 hb7 hp7))
  go_wp2
  go_ret2
  have hub : Upd (fun k => k = p) w w7 := HU1.out.then_ (Upd.below HW7.out No) (fun k hk => hk.elim)
  obtain ⟨h1, h2, h3⟩ := HA.out.top_ (s' := { s with op := false }) hub HP7.out rfl rfl rfl rfl (.inl ⟨rfl, rfl⟩)
  refine ⟨_, rfl, _, h1, ?_, h2, h3, ?_, fun k hk => ?_⟩
  · rw [HAB.out, HRES.out]
    rfl
  · rw [HCA.out]
    exact (by rw [HD.out]; exact HO7.out)
  · have h4 : (w.setCell ⟨p, 3, none⟩ (.bool false)).heap.size ≤ k := HK7.out k hk
    have h5 := HU1.out.size
    refine ⟨by omega, fun hf => ?_⟩
    have h6 : foot p s k := hf
    have := HA.out.lt k h6
    omega
theorem cancel_nil_true (h : RAt w p s) (ho : s.op = true) (hres : s.res = true) (hdv : s.now.dv = .slice none 0 0) (hfs : s.had = 0) (hD : s.now.ds.drop s.had = []) (hN : s.now.ds.length = 0) (hf : s.had ≤ s.now.ds.length) (hn : s.now.ds.length ≤ 1000000000000) (hun : s.undo.length ≤ 2000) :
    Calls Tryd.prog 64 #[.pointer (some ⟨p, 0, none⟩)] w fun e w' => ∃ v, e = .returned (.tuple #[v, .bool true]) ∧ LeftL w w' p s s.abs.cancel v s.abs.cancelL := by
  obtain ⟨i0, hi0, hz0, hz1, hz2⟩ := info_parts info91
  obtain ⟨c0, c1, c2, c3, c4, c5, c6, c7, c8, cf⟩ := h.cells
  have hpw := h.blk.lt
  have HCA : Hid (s.abs.cancelL = back (s.now.ds.drop s.had)) := Lib.hid (by unfold RS.abs AS.cancelL; dsimp only; rw [if_pos ho]; rfl)
  have HAB : Hid (s.abs.cancel = { s.abs with cur := none, undo := if s.res = true then s.abs.undo ++ [{ s.now.abs with ds := s.now.ds.take s.had }] else s.abs.undo }) := Lib.hid (by unfold RS.abs AS.cancel; dsimp only; rw [if_pos ho]; rfl)
  have HA := Lib.hid h
  have HDV := Lib.hid hdv
  have HFS := Lib.hid hfs
  have HF := Lib.hid hf
  have HN := Lib.hid hn
  have HLN := Lib.hid hN
  have HRES := Lib.hid hres
  obtain ⟨A2, cr, huv, hul⟩ := h.u.form
  have HUV := Lib.hid huv
  obtain ⟨n2, hn2⟩ : ∃ n2, n2 = s.undo.length := ⟨_, rfl⟩
  have HN2 := Lib.hid hn2
  have hn3 : n2 ≤ 2000 := by omega
  rw [hdv] at c4
  rw [ho] at c3
  rw [hres] at c8
  rw [hfs] at c7
  rw [huv, ← hn2] at c1
  have hU1 : Upd (fun k => k = p) w (w.setCell ⟨p, 3, none⟩ (.bool false)) := by (repeat' (first | with_reducible exact Upd.refl _ _ | with_reducible refine Upd.drewN ?_ _ | with_reducible refine Upd.drew ?_ | with_reducible refine Upd.alloc ?_ _ | (with_reducible refine Upd.setCell ?_ ?_ _; rotate_left; first | exact Or.inl rfl | exact Or.inl (foot_p _ _))))
  have hB0 : Blk w p 93 s.cells := h.blk
  have hB1 : Blk (w.setCell ⟨p, 3, none⟩ (.bool false)) p 93 ({ s with op := false } : RS).cells := by (apply Blk.eq_; (focus (repeat' (first | with_reducible exact hB0 | with_reducible apply Blk.drewN | with_reducible apply Blk.drew | with_reducible apply Blk.set_ | with_reducible apply Blk.alloc))); all_goals (simp only [RS.cells, List.setIfInBounds_toArray, List.set_cons_succ, List.set_cons_zero] <;> rfl))
  have HD := Lib.hid hD
  clear hD
  have HU1 := Lib.hid hU1
  have HB1 := Lib.hid hB1
  clear h ho hdv hres hfs hf hn hN huv hn2 hul hun hU1 hB1 hB0
  have HINV : Hid (∀ w0 : World, w0 = (w.setCell ⟨p, 3, none⟩ (.bool false)).drew → ∀ A' n' c', ReadsD (w.setCell ⟨p, 3, none⟩ (.bool false)) (w.setCell ⟨p, 3, none⟩ (.bool false)).heap.size A' n' [] → Calls Tryd.prog 77 #[.slice A' n' c'] w0 _) := Lib.hid (fun w0 e A' n' c' hr => by subst e; exact inverted_d (w.setCell ⟨p, 3, none⟩ (.bool false)).drew A' n' c' [] hr (by have h1 := hr.1; simp only [List.length_nil] at h1; omega))
  go_enter Tryd.func64, Tryd.ntmps64
  go_wp2
  have m4 := HB1.out.cell 4
  have m7 := HB1.out.cell 7
  simp only [RS.cells, List.getElem?_toArray, List.getElem?_cons_succ, List.getElem?_cons_zero] at m4 m7
  rw [HDV.out] at m4
  rw [HFS.out] at m7
  go_region_held3 (fun w' => w'.cell? ⟨p, 4, none⟩ = some (.slice none 0 0) ∧ w'.cell? ⟨p, 7, none⟩ = some (.int .i64 ((0 : Nat) : Int)))
    (first | go_keep | exact ⟨q4, q7⟩ | exact ⟨m4, m7⟩)
    ((go_at_call 77; refine (HINV.out _ rfl _ _ _ (reads_nil _ _ _)).mono ?_; rintro e w7 ⟨v7, rfl, ho7, hk7, hb7⟩; have hb7 := below_of_drew hb7; have hp7 := HB1.out.upd (Upd.below hb7 No) (fun h => h); have q1 := hp7.cell 1; have q4 := hp7.cell 4; have q7 := hp7.cell 7; have q8 := hp7.cell 8; have qf := hp7.frozen; have qc := hp7.cell 5; have qd := hp7.cell 6; simp only [RS.cells, List.getElem?_toArray, List.getElem?_cons_succ, List.getElem?_cons_zero] at q1 q4 q7 q8 qc qd; rw [HUV.out, ← HN2.out] at q1; rw [HDV.out] at q4; rw [HFS.out] at q7; rw [HRES.out] at q8; have hlp := hp7.lt; have HP7 := Lib.hid hp7; have HO7 := Lib.hid ho7; have HK7 := Lib.hid hk7; have HW7 := Lib.hid hb7; clear ho7 hk7 hb7 hp7))
  have hub : Upd (fun k => k = p) w (w7.setCell ⟨p, 4, none⟩ (.slice none 0 0)) := (HU1.out.then_ (Upd.below HW7.out No) (fun k hk => hk.elim)).setCell (.inl rfl) _
  have hP7 := HP7.out
  have hB7 : Blk (w7.setCell ⟨p, 4, none⟩ (.slice none 0 0)) p 93 ({ s with op := false, now := (⟨.slice none 0 0, s.now.ds.take 0, s.now.ah, s.now.be⟩ : Gr) } : RS).cells := by (apply Blk.eq_; (focus (repeat' (first | with_reducible exact hP7 | with_reducible apply Blk.drewN | with_reducible apply Blk.drew | with_reducible apply Blk.set_ | with_reducible apply Blk.alloc))); all_goals (simp only [RS.cells, List.setIfInBounds_toArray, List.set_cons_succ, List.set_cons_zero] <;> rfl))
  obtain ⟨hR7, hF7⟩ := HA.out.cutNow (W := (w7.setCell ⟨p, 4, none⟩ (.slice none 0 0))) (HDV.out) (HLN.out) 0 (by have := HF.out; have := HFS.out; have := HLN.out; omega) hub hB7
  have hWu : Upd (fun k => k = p) (w7.setCell ⟨p, 4, none⟩ (.slice none 0 0)) ((w7.setCell ⟨p, 4, none⟩ (.slice none 0 0)).alloc (.cells #[.slice none 0 0, .int .i64 s.now.ah, .int .i64 s.now.be] 91)) := (Upd.refl _ _).alloc _
  have hWB : Blk ((w7.setCell ⟨p, 4, none⟩ (.slice none 0 0)).alloc (.cells #[.slice none 0 0, .int .i64 s.now.ah, .int .i64 s.now.be] 91)) p 93 ({ s with op := false, now := (⟨.slice none 0 0, s.now.ds.take 0, s.now.ah, s.now.be⟩ : Gr) } : RS).cells := hB7.alloc _
  have hor := HA.out.u.upd (hub.alloc (.cells #[.slice none 0 0, .int .i64 s.now.ah, .int .i64 s.now.be] 91)) (fun k hk e => HA.out.up (by rw [← e]; exact hk))
  rw [HUV.out, ← HN2.out] at hor
  have HOr := Lib.hid hor
  have hrn := reads_gr (w7.setCell ⟨p, 4, none⟩ (.slice none 0 0)) (⟨.slice none 0 0, s.now.ds.take 0, s.now.ah, s.now.be⟩ : Gr)
  rw [show (w7.setCell ⟨p, 4, none⟩ (.slice none 0 0)).heap.size = w7.heap.size by simp [World.setCell]] at hrn
  have HRn := Lib.hid hrn
  have HC1 := Lib.hid (one_g (⟨.slice none 0 0, s.now.ds.take 0, s.now.ah, s.now.be⟩ : Gr) _ _ _ rfl)
  have HFIN : Hid (∀ v5 w5, _ → _ → _ → _) := Lib.hid (fun v5 w5 => RAt.push (v5 := v5) (w5 := w5) hR7 hWu hWB)
  have HWB := Lib.hid hWB
  have HUP := Lib.hid HA.out.up
  have HUB := Lib.hid hub
  have HF7 := Lib.hid hF7
  have HR7 := Lib.hid hR7
  clear hor hrn hWu hWB hub hB7 hP7 hR7 hF7
  go_wp2
  go_region
  all_goals
    go_wp2
    go_region_law (first
      | (refine step_append_s (v := .slice A2 n2 cr) (by rfl) _ _ _ (by rfl) Tryd.underlying89 hi0 hz0 hz1 hz2 rfl (by omega) (by rfl) HOr.out (by rfl) HRn.out HC1.out (by unfold maxLen; omega) (by omega) ?_; intro v5 w5 ho5 hg5 hb5; have HO5 := Lib.hid ho5; have hg5 : ((w7.setCell ⟨p, 4, none⟩ (.slice none 0 0)).alloc (.cells #[.slice none 0 0, .int .i64 s.now.ah, .int .i64 s.now.be] 91)).grownBy w5 (Value.slice A2 n2 cr).ownBlock := ⟨hg5.os, hg5.tape, hg5.output, hg5.size, hg5.block⟩; have HG5 := Lib.hid hg5; have HB5 := Lib.hid hb5; have hb6 := HWB.out.upd (Upd.grown (S := fun k => (Value.slice A2 n2 cr).ownBlock = some k) HG5.out (fun k e => e)) (fun e => HUP.out (by rw [HUV.out, ← HN2.out]; exact e)); have f0 := hb6.cell 0; have f1 := hb6.cell 1; have ff := hb6.frozen; have hlp5 := hb6.lt; obtain ⟨A5, c5, hv5, hl5⟩ := HO5.out.form; subst hv5; clear ho5 hg5 hb5 hb6; simp only [RS.cells, List.getElem?_toArray, List.getElem?_cons_succ, List.getElem?_cons_zero] at f0 f1; rw [HUV.out, ← HN2.out] at f1))
  all_goals
    have hfin := HFIN.out (.slice A5 (n2 + 1) c5) w5 (by rw [← HN2.out]; exact HO5.out) (by rw [HUV.out, ← HN2.out]; exact HG5.out) (by rw [HUV.out, ← HN2.out]; exact HB5.out)
    have HFN := Lib.hid hfin
    clear hfin
    go_wp2
    go_ret2
    obtain ⟨hA, hU, hF⟩ := HFN.out
    have hws : w.heap.size ≤ w7.heap.size := by have := HUB.out.size; simpa using this
    have hvk : ∀ k, v7.ownBlock = some k → w.heap.size ≤ k ∧ k < w7.heap.size := fun k hk => by
      have h1 : (w.setCell ⟨p, 3, none⟩ (.bool false)).heap.size ≤ k := HK7.out k hk
      have h2 := OwnS.lt HO7.out k hk
      simp at h1
      exact ⟨h1, h2⟩
    refine ⟨_, rfl, _, hA, ?_, ?_, fun k hk => ?_, ?_, fun k hk => ?_⟩
    · rw [HAB.out, HRES.out, HFS.out]
      unfold RS.abs
      simp [Gr.abs]
    · refine (HUB.out.mono (fun k e => ?_)).then_ hU (fun k hk => ?_)
      · subst e
        exact foot_p _ _
      · rcases hk with hk | hk
        · subst hk
          exact .inl (foot_p _ _)
        · exact .inl (.inr (.inl hk))
    · rcases hF k hk with e | e
      · exact .inl (HF7.out k e)
      · exact .inr (by simp at e; omega)
    · rw [HCA.out]
      have hu8 : Upd (fun k => k = p ∨ s.uv.ownBlock = some k) w7 (w5.setCell ⟨p, 1, none⟩ (.slice A5 (n2 + 1) c5)) :=
        (((Upd.refl (fun k => k = p ∨ s.uv.ownBlock = some k) w7).setCell (p := ⟨p, 4, none⟩) (.inl (.inl rfl)) (.slice none 0 0))).then_ hU (fun k hk => .inl hk)
      have h9 := OwnS.upd HO7.out hu8 (fun k hk e => by
        obtain ⟨h1, h2⟩ := hvk k hk
        rcases e with e | e
        · have := HA.out.blk.lt
          omega
        · have := HA.out.u.lt k e
          omega)
      rw [HD.out]
      exact h9
    · obtain ⟨h1, h2⟩ := hvk k hk
      refine ⟨h1, fun hf => ?_⟩
      rcases hF k hf with e | e
      · have := HA.out.lt k (HF7.out k e)
        omega
      · simp at e
        omega
theorem cancel_end1_false (h : RAt w p s) (ho : s.op = true) (hres : s.res = false) (g3 off3 f : Nat) (hdv : s.now.dv = .slice (some ⟨g3, off3, none⟩) f f) (hfs : s.had = f) (hD : s.now.ds.drop s.had = []) (hN : s.now.ds.length = f) (hf : s.had ≤ s.now.ds.length) (hn : s.now.ds.length ≤ 1000000000000) (hun : s.undo.length ≤ 2000) :
    Calls Tryd.prog 64 #[.pointer (some ⟨p, 0, none⟩)] w fun e w' => ∃ v, e = .returned (.tuple #[v, .bool true]) ∧ LeftL w w' p s s.abs.cancel v s.abs.cancelL := by
  obtain ⟨i0, hi0, hz0, hz1, hz2⟩ := info_parts info91
  obtain ⟨c0, c1, c2, c3, c4, c5, c6, c7, c8, cf⟩ := h.cells
  have hpw := h.blk.lt
  have HCA : Hid (s.abs.cancelL = back (s.now.ds.drop s.had)) := Lib.hid (by unfold RS.abs AS.cancelL; dsimp only; rw [if_pos ho]; rfl)
  have HAB : Hid (s.abs.cancel = { s.abs with cur := none, undo := if s.res = true then s.abs.undo ++ [{ s.now.abs with ds := s.now.ds.take s.had }] else s.abs.undo }) := Lib.hid (by unfold RS.abs AS.cancel; dsimp only; rw [if_pos ho]; rfl)
  have HA := Lib.hid h
  have HDV := Lib.hid hdv
  have HFS := Lib.hid hfs
  have HF := Lib.hid hf
  have HN := Lib.hid hn
  have HLN := Lib.hid hN
  have HRES := Lib.hid hres
  obtain ⟨A2, cr, huv, hul⟩ := h.u.form
  have HUV := Lib.hid huv
  obtain ⟨n2, hn2⟩ : ∃ n2, n2 = s.undo.length := ⟨_, rfl⟩
  have HN2 := Lib.hid hn2
  have hn3 : n2 ≤ 2000 := by omega
  rw [hdv] at c4
  rw [ho] at c3
  rw [hres] at c8
  rw [hfs] at c7
  rw [huv, ← hn2] at c1
  have hU1 : Upd (fun k => k = p) w (w.setCell ⟨p, 3, none⟩ (.bool false)) := by (repeat' (first | with_reducible exact Upd.refl _ _ | with_reducible refine Upd.drewN ?_ _ | with_reducible refine Upd.drew ?_ | with_reducible refine Upd.alloc ?_ _ | (with_reducible refine Upd.setCell ?_ ?_ _; rotate_left; first | exact Or.inl rfl | exact Or.inl (foot_p _ _))))
  have hB0 : Blk w p 93 s.cells := h.blk
  have hB1 : Blk (w.setCell ⟨p, 3, none⟩ (.bool false)) p 93 ({ s with op := false } : RS).cells := by (apply Blk.eq_; (focus (repeat' (first | with_reducible exact hB0 | with_reducible apply Blk.drewN | with_reducible apply Blk.drew | with_reducible apply Blk.set_ | with_reducible apply Blk.alloc))); all_goals (simp only [RS.cells, List.setIfInBounds_toArray, List.set_cons_succ, List.set_cons_zero] <;> rfl))
  have HD := Lib.hid hD
  clear hD
  have hN1 : f ≤ 1000000000000 := by omega
  have HU1 := Lib.hid hU1
  have HB1 := Lib.hid hB1
  clear h ho hdv hres hfs hf hn hN huv hn2 hul hun hU1 hB1 hB0
  have HINV : Hid (∀ w0 : World, w0 = (w.setCell ⟨p, 3, none⟩ (.bool false)).drew → ∀ A' n' c', ReadsD (w.setCell ⟨p, 3, none⟩ (.bool false)) (w.setCell ⟨p, 3, none⟩ (.bool false)).heap.size A' n' [] → Calls Tryd.prog 77 #[.slice A' n' c'] w0 _) := Lib.hid (fun w0 e A' n' c' hr => by subst e; exact inverted_d (w.setCell ⟨p, 3, none⟩ (.bool false)).drew A' n' c' [] hr (by have h1 := hr.1; simp only [List.length_nil] at h1; omega))
  go_enter Tryd.func64, Tryd.ntmps64
  go_wp2
  have m4 := HB1.out.cell 4
  have m7 := HB1.out.cell 7
  simp only [RS.cells, List.getElem?_toArray, List.getElem?_cons_succ, List.getElem?_cons_zero] at m4 m7
  rw [HDV.out] at m4
  rw [HFS.out] at m7
  go_region_held3 (fun w' => w'.cell? ⟨p, 4, none⟩ = some (.slice (some ⟨g3, off3, none⟩) f f) ∧ w'.cell? ⟨p, 7, none⟩ = some (.int .i64 ((f : Nat) : Int)))
    (first | go_keep | exact ⟨q4, q7⟩ | exact ⟨m4, m7⟩)
    ((go_at_call 77; refine (HINV.out _ rfl _ _ _ (reads_nil _ _ _)).mono ?_; rintro e w7 ⟨v7, rfl, ho7, hk7, hb7⟩; have hb7 := below_of_drew hb7; have hp7 := HB1.out.upd (Upd.below hb7 No) (fun h => h); have q1 := hp7.cell 1; have q4 := hp7.cell 4; have q7 := hp7.cell 7; have q8 := hp7.cell 8; have qf := hp7.frozen; have qc := hp7.cell 5; have qd := hp7.cell 6; simp only [RS.cells, List.getElem?_toArray, List.getElem?_cons_succ, List.getElem?_cons_zero] at q1 q4 q7 q8 qc qd; rw [HUV.out, ← HN2.out] at q1; rw [HDV.out] at q4; rw [HFS.out] at q7; rw [HRES.out] at q8; have hlp := hp7.lt; have HP7 := Lib.hid hp7; have HO7 := Lib.hid ho7; have HK7 := Lib.hid hk7; have HW7 := Lib.hid hb7; clear ho7 hk7 hb7 hp7))
  go_wp2
  go_ret2
  have hub : Upd (fun k => k = p) w w7 := HU1.out.then_ (Upd.below HW7.out No) (fun k hk => hk.elim)
  obtain ⟨h1, h2, h3⟩ := HA.out.top_ (s' := { s with op := false }) hub HP7.out rfl rfl rfl rfl (.inl ⟨rfl, rfl⟩)
  refine ⟨_, rfl, _, h1, ?_, h2, h3, ?_, fun k hk => ?_⟩
  · rw [HAB.out, HRES.out]
    rfl
  · rw [HCA.out]
    exact (by rw [HD.out]; exact HO7.out)
  · have h4 : (w.setCell ⟨p, 3, none⟩ (.bool false)).heap.size ≤ k := HK7.out k hk
    have h5 := HU1.out.size
    refine ⟨by omega, fun hf => ?_⟩
    have h6 : foot p s k := hf
    have := HA.out.lt k h6
    omega
theorem cancel_end1_true (h : RAt w p s) (ho : s.op = true) (hres : s.res = true) (g3 off3 f : Nat) (hdv : s.now.dv = .slice (some ⟨g3, off3, none⟩) f f) (hfs : s.had = f) (hD : s.now.ds.drop s.had = []) (hN : s.now.ds.length = f) (hf : s.had ≤ s.now.ds.length) (hn : s.now.ds.length ≤ 1000000000000) (hun : s.undo.length ≤ 2000) :
    Calls Tryd.prog 64 #[.pointer (some ⟨p, 0, none⟩)] w fun e w' => ∃ v, e = .returned (.tuple #[v, .bool true]) ∧ LeftL w w' p s s.abs.cancel v s.abs.cancelL := by
  obtain ⟨i0, hi0, hz0, hz1, hz2⟩ := info_parts info91
  obtain ⟨c0, c1, c2, c3, c4, c5, c6, c7, c8, cf⟩ := h.cells
  have hpw := h.blk.lt
  have HCA : Hid (s.abs.cancelL = back (s.now.ds.drop s.had)) := Lib.hid (by unfold RS.abs AS.cancelL; dsimp only; rw [if_pos ho]; rfl)
  have HAB : Hid (s.abs.cancel = { s.abs with cur := none, undo := if s.res = true then s.abs.undo ++ [{ s.now.abs with ds := s.now.ds.take s.had }] else s.abs.undo }) := Lib.hid (by unfold RS.abs AS.cancel; dsimp only; rw [if_pos ho]; rfl)
  have HA := Lib.hid h
  have HDV := Lib.hid hdv
  have HFS := Lib.hid hfs
  have HF := Lib.hid hf
  have HN := Lib.hid hn
  have HLN := Lib.hid hN
  have HRES := Lib.hid hres
  obtain ⟨A2, cr, huv, hul⟩ := h.u.form
  have HUV := Lib.hid huv
  obtain ⟨n2, hn2⟩ : ∃ n2, n2 = s.undo.length := ⟨_, rfl⟩
  have HN2 := Lib.hid hn2
  have hn3 : n2 ≤ 2000 := by omega
  rw [hdv] at c4
  rw [ho] at c3
  rw [hres] at c8
  rw [hfs] at c7
  rw [huv, ← hn2] at c1
  have hU1 : Upd (fun k => k = p) w (w.setCell ⟨p, 3, none⟩ (.bool false)) := by (repeat' (first | with_reducible exact Upd.refl _ _ | with_reducible refine Upd.drewN ?_ _ | with_reducible refine Upd.drew ?_ | with_reducible refine Upd.alloc ?_ _ | (with_reducible refine Upd.setCell ?_ ?_ _; rotate_left; first | exact Or.inl rfl | exact Or.inl (foot_p _ _))))
  have hB0 : Blk w p 93 s.cells := h.blk
  have hB1 : Blk (w.setCell ⟨p, 3, none⟩ (.bool false)) p 93 ({ s with op := false } : RS).cells := by (apply Blk.eq_; (focus (repeat' (first | with_reducible exact hB0 | with_reducible apply Blk.drewN | with_reducible apply Blk.drew | with_reducible apply Blk.set_ | with_reducible apply Blk.alloc))); all_goals (simp only [RS.cells, List.setIfInBounds_toArray, List.set_cons_succ, List.set_cons_zero] <;> rfl))
  have HD := Lib.hid hD
  clear hD
  have hN1 : f ≤ 1000000000000 := by omega
  have HU1 := Lib.hid hU1
  have HB1 := Lib.hid hB1
  clear h ho hdv hres hfs hf hn hN huv hn2 hul hun hU1 hB1 hB0
  have HINV : Hid (∀ w0 : World, w0 = (w.setCell ⟨p, 3, none⟩ (.bool false)).drew → ∀ A' n' c', ReadsD (w.setCell ⟨p, 3, none⟩ (.bool false)) (w.setCell ⟨p, 3, none⟩ (.bool false)).heap.size A' n' [] → Calls Tryd.prog 77 #[.slice A' n' c'] w0 _) := Lib.hid (fun w0 e A' n' c' hr => by subst e; exact inverted_d (w.setCell ⟨p, 3, none⟩ (.bool false)).drew A' n' c' [] hr (by have h1 := hr.1; simp only [List.length_nil] at h1; omega))
  go_enter Tryd.func64, Tryd.ntmps64
  go_wp2
  have m4 := HB1.out.cell 4
  have m7 := HB1.out.cell 7
  simp only [RS.cells, List.getElem?_toArray, List.getElem?_cons_succ, List.getElem?_cons_zero] at m4 m7
  rw [HDV.out] at m4
  rw [HFS.out] at m7
  go_region_held3 (fun w' => w'.cell? ⟨p, 4, none⟩ = some (.slice (some ⟨g3, off3, none⟩) f f) ∧ w'.cell? ⟨p, 7, none⟩ = some (.int .i64 ((f : Nat) : Int)))
    (first | go_keep | exact ⟨q4, q7⟩ | exact ⟨m4, m7⟩)
    ((go_at_call 77; refine (HINV.out _ rfl _ _ _ (reads_nil _ _ _)).mono ?_; rintro e w7 ⟨v7, rfl, ho7, hk7, hb7⟩; have hb7 := below_of_drew hb7; have hp7 := HB1.out.upd (Upd.below hb7 No) (fun h => h); have q1 := hp7.cell 1; have q4 := hp7.cell 4; have q7 := hp7.cell 7; have q8 := hp7.cell 8; have qf := hp7.frozen; have qc := hp7.cell 5; have qd := hp7.cell 6; simp only [RS.cells, List.getElem?_toArray, List.getElem?_cons_succ, List.getElem?_cons_zero] at q1 q4 q7 q8 qc qd; rw [HUV.out, ← HN2.out] at q1; rw [HDV.out] at q4; rw [HFS.out] at q7; rw [HRES.out] at q8; have hlp := hp7.lt; have HP7 := Lib.hid hp7; have HO7 := Lib.hid ho7; have HK7 := Lib.hid hk7; have HW7 := Lib.hid hb7; clear ho7 hk7 hb7 hp7))
  have hub : Upd (fun k => k = p) w (w7.setCell ⟨p, 4, none⟩ (.slice (some ⟨g3, off3, none⟩) f f)) := (HU1.out.then_ (Upd.below HW7.out No) (fun k hk => hk.elim)).setCell (.inl rfl) _
  have hP7 := HP7.out
  have hB7 : Blk (w7.setCell ⟨p, 4, none⟩ (.slice (some ⟨g3, off3, none⟩) f f)) p 93 ({ s with op := false, now := (⟨.slice (some ⟨g3, off3, none⟩) f f, s.now.ds.take f, s.now.ah, s.now.be⟩ : Gr) } : RS).cells := by (apply Blk.eq_; (focus (repeat' (first | with_reducible exact hP7 | with_reducible apply Blk.drewN | with_reducible apply Blk.drew | with_reducible apply Blk.set_ | with_reducible apply Blk.alloc))); all_goals (simp only [RS.cells, List.setIfInBounds_toArray, List.set_cons_succ, List.set_cons_zero] <;> rfl))
  obtain ⟨hR7, hF7⟩ := HA.out.cutNow (W := (w7.setCell ⟨p, 4, none⟩ (.slice (some ⟨g3, off3, none⟩) f f))) (HDV.out) (HLN.out) f (by have := HF.out; have := HFS.out; have := HLN.out; omega) hub hB7
  have hWu : Upd (fun k => k = p) (w7.setCell ⟨p, 4, none⟩ (.slice (some ⟨g3, off3, none⟩) f f)) ((w7.setCell ⟨p, 4, none⟩ (.slice (some ⟨g3, off3, none⟩) f f)).alloc (.cells #[.slice (some ⟨g3, off3, none⟩) f f, .int .i64 s.now.ah, .int .i64 s.now.be] 91)) := (Upd.refl _ _).alloc _
  have hWB : Blk ((w7.setCell ⟨p, 4, none⟩ (.slice (some ⟨g3, off3, none⟩) f f)).alloc (.cells #[.slice (some ⟨g3, off3, none⟩) f f, .int .i64 s.now.ah, .int .i64 s.now.be] 91)) p 93 ({ s with op := false, now := (⟨.slice (some ⟨g3, off3, none⟩) f f, s.now.ds.take f, s.now.ah, s.now.be⟩ : Gr) } : RS).cells := hB7.alloc _
  have hor := HA.out.u.upd (hub.alloc (.cells #[.slice (some ⟨g3, off3, none⟩) f f, .int .i64 s.now.ah, .int .i64 s.now.be] 91)) (fun k hk e => HA.out.up (by rw [← e]; exact hk))
  rw [HUV.out, ← HN2.out] at hor
  have HOr := Lib.hid hor
  have hrn := reads_gr (w7.setCell ⟨p, 4, none⟩ (.slice (some ⟨g3, off3, none⟩) f f)) (⟨.slice (some ⟨g3, off3, none⟩) f f, s.now.ds.take f, s.now.ah, s.now.be⟩ : Gr)
  rw [show (w7.setCell ⟨p, 4, none⟩ (.slice (some ⟨g3, off3, none⟩) f f)).heap.size = w7.heap.size by simp [World.setCell]] at hrn
  have HRn := Lib.hid hrn
  have HC1 := Lib.hid (one_g (⟨.slice (some ⟨g3, off3, none⟩) f f, s.now.ds.take f, s.now.ah, s.now.be⟩ : Gr) _ _ _ rfl)
  have HFIN : Hid (∀ v5 w5, _ → _ → _ → _) := Lib.hid (fun v5 w5 => RAt.push (v5 := v5) (w5 := w5) hR7 hWu hWB)
  have HWB := Lib.hid hWB
  have HUP := Lib.hid HA.out.up
  have HUB := Lib.hid hub
  have HF7 := Lib.hid hF7
  have HR7 := Lib.hid hR7
  clear hor hrn hWu hWB hub hB7 hP7 hR7 hF7
  go_wp2
  go_region
  all_goals
    go_wp2
    go_region_law (first
      | (refine step_append_s (v := .slice A2 n2 cr) (by rfl) _ _ _ (by rfl) Tryd.underlying89 hi0 hz0 hz1 hz2 rfl (by omega) (by rfl) HOr.out (by rfl) HRn.out HC1.out (by unfold maxLen; omega) (by omega) ?_; intro v5 w5 ho5 hg5 hb5; have HO5 := Lib.hid ho5; have hg5 : ((w7.setCell ⟨p, 4, none⟩ (.slice (some ⟨g3, off3, none⟩) f f)).alloc (.cells #[.slice (some ⟨g3, off3, none⟩) f f, .int .i64 s.now.ah, .int .i64 s.now.be] 91)).grownBy w5 (Value.slice A2 n2 cr).ownBlock := ⟨hg5.os, hg5.tape, hg5.output, hg5.size, hg5.block⟩; have HG5 := Lib.hid hg5; have HB5 := Lib.hid hb5; have hb6 := HWB.out.upd (Upd.grown (S := fun k => (Value.slice A2 n2 cr).ownBlock = some k) HG5.out (fun k e => e)) (fun e => HUP.out (by rw [HUV.out, ← HN2.out]; exact e)); have f0 := hb6.cell 0; have f1 := hb6.cell 1; have ff := hb6.frozen; have hlp5 := hb6.lt; obtain ⟨A5, c5, hv5, hl5⟩ := HO5.out.form; subst hv5; clear ho5 hg5 hb5 hb6; simp only [RS.cells, List.getElem?_toArray, List.getElem?_cons_succ, List.getElem?_cons_zero] at f0 f1; rw [HUV.out, ← HN2.out] at f1))
  all_goals
    have hfin := HFIN.out (.slice A5 (n2 + 1) c5) w5 (by rw [← HN2.out]; exact HO5.out) (by rw [HUV.out, ← HN2.out]; exact HG5.out) (by rw [HUV.out, ← HN2.out]; exact HB5.out)
    have HFN := Lib.hid hfin
    clear hfin
    go_wp2
    go_ret2
    obtain ⟨hA, hU, hF⟩ := HFN.out
    have hws : w.heap.size ≤ w7.heap.size := by have := HUB.out.size; simpa using this
    have hvk : ∀ k, v7.ownBlock = some k → w.heap.size ≤ k ∧ k < w7.heap.size := fun k hk => by
      have h1 : (w.setCell ⟨p, 3, none⟩ (.bool false)).heap.size ≤ k := HK7.out k hk
      have h2 := OwnS.lt HO7.out k hk
      simp at h1
      exact ⟨h1, h2⟩
    refine ⟨_, rfl, _, hA, ?_, ?_, fun k hk => ?_, ?_, fun k hk => ?_⟩
    · rw [HAB.out, HRES.out, HFS.out]
      unfold RS.abs
      simp [Gr.abs]
    · refine (HUB.out.mono (fun k e => ?_)).then_ hU (fun k hk => ?_)
      · subst e
        exact foot_p _ _
      · rcases hk with hk | hk
        · subst hk
          exact .inl (foot_p _ _)
        · exact .inl (.inr (.inl hk))
    · rcases hF k hk with e | e
      · exact .inl (HF7.out k e)
      · exact .inr (by simp at e; omega)
    · rw [HCA.out]
      have hu8 : Upd (fun k => k = p ∨ s.uv.ownBlock = some k) w7 (w5.setCell ⟨p, 1, none⟩ (.slice A5 (n2 + 1) c5)) :=
        (((Upd.refl (fun k => k = p ∨ s.uv.ownBlock = some k) w7).setCell (p := ⟨p, 4, none⟩) (.inl (.inl rfl)) (.slice (some ⟨g3, off3, none⟩) f f))).then_ hU (fun k hk => .inl hk)
      have h9 := OwnS.upd HO7.out hu8 (fun k hk e => by
        obtain ⟨h1, h2⟩ := hvk k hk
        rcases e with e | e
        · have := HA.out.blk.lt
          omega
        · have := HA.out.u.lt k e
          omega)
      rw [HD.out]
      exact h9
    · obtain ⟨h1, h2⟩ := hvk k hk
      refine ⟨h1, fun hf => ?_⟩
      rcases hF k hf with e | e
      · have := HA.out.lt k (HF7.out k e)
        omega
      · simp at e
        omega
theorem cancel_end2_false (h : RAt w p s) (ho : s.op = true) (hres : s.res = false) (g3 off3 f cx : Nat) (hdv : s.now.dv = .slice (some ⟨g3, off3, none⟩) f (f + (cx + 1))) (hfs : s.had = f) (hD : s.now.ds.drop s.had = []) (hN : s.now.ds.length = f) (hf : s.had ≤ s.now.ds.length) (hn : s.now.ds.length ≤ 1000000000000) (hun : s.undo.length ≤ 2000) :
    Calls Tryd.prog 64 #[.pointer (some ⟨p, 0, none⟩)] w fun e w' => ∃ v, e = .returned (.tuple #[v, .bool true]) ∧ LeftL w w' p s s.abs.cancel v s.abs.cancelL := by
  obtain ⟨i0, hi0, hz0, hz1, hz2⟩ := info_parts info91
  obtain ⟨c0, c1, c2, c3, c4, c5, c6, c7, c8, cf⟩ := h.cells
  have hpw := h.blk.lt
  have HCA : Hid (s.abs.cancelL = back (s.now.ds.drop s.had)) := Lib.hid (by unfold RS.abs AS.cancelL; dsimp only; rw [if_pos ho]; rfl)
  have HAB : Hid (s.abs.cancel = { s.abs with cur := none, undo := if s.res = true then s.abs.undo ++ [{ s.now.abs with ds := s.now.ds.take s.had }] else s.abs.undo }) := Lib.hid (by unfold RS.abs AS.cancel; dsimp only; rw [if_pos ho]; rfl)
  have HA := Lib.hid h
  have HDV := Lib.hid hdv
  have HFS := Lib.hid hfs
  have HF := Lib.hid hf
  have HN := Lib.hid hn
  have HLN := Lib.hid hN
  have HRES := Lib.hid hres
  obtain ⟨A2, cr, huv, hul⟩ := h.u.form
  have HUV := Lib.hid huv
  obtain ⟨n2, hn2⟩ : ∃ n2, n2 = s.undo.length := ⟨_, rfl⟩
  have HN2 := Lib.hid hn2
  have hn3 : n2 ≤ 2000 := by omega
  rw [hdv] at c4
  rw [ho] at c3
  rw [hres] at c8
  rw [hfs] at c7
  rw [huv, ← hn2] at c1
  have hU1 : Upd (fun k => k = p) w (w.setCell ⟨p, 3, none⟩ (.bool false)) := by (repeat' (first | with_reducible exact Upd.refl _ _ | with_reducible refine Upd.drewN ?_ _ | with_reducible refine Upd.drew ?_ | with_reducible refine Upd.alloc ?_ _ | (with_reducible refine Upd.setCell ?_ ?_ _; rotate_left; first | exact Or.inl rfl | exact Or.inl (foot_p _ _))))
  have hB0 : Blk w p 93 s.cells := h.blk
  have hB1 : Blk (w.setCell ⟨p, 3, none⟩ (.bool false)) p 93 ({ s with op := false } : RS).cells := by (apply Blk.eq_; (focus (repeat' (first | with_reducible exact hB0 | with_reducible apply Blk.drewN | with_reducible apply Blk.drew | with_reducible apply Blk.set_ | with_reducible apply Blk.alloc))); all_goals (simp only [RS.cells, List.setIfInBounds_toArray, List.set_cons_succ, List.set_cons_zero] <;> rfl))
  have HD := Lib.hid hD
  clear hD
  have hN1 : f ≤ 1000000000000 := by omega
  have hb2 : f ≤ f + (cx + 1) := by omega
  have hb3 : ¬ f + (cx + 1) = f := by omega
  have hb5 : f + (cx + 1) - f = cx + 1 := by omega
  have hb7 : (f + (cx + 1) == f) = false := by rw [beq_eq_false_iff_ne]; omega
  have HU1 := Lib.hid hU1
  have HB1 := Lib.hid hB1
  clear h ho hdv hres hfs hf hn hN huv hn2 hul hun hU1 hB1 hB0
  have HINV : Hid (∀ w0 : World, w0 = (w.setCell ⟨p, 3, none⟩ (.bool false)).drew → ∀ A' n' c', ReadsD (w.setCell ⟨p, 3, none⟩ (.bool false)) (w.setCell ⟨p, 3, none⟩ (.bool false)).heap.size A' n' [] → Calls Tryd.prog 77 #[.slice A' n' c'] w0 _) := Lib.hid (fun w0 e A' n' c' hr => by subst e; exact inverted_d (w.setCell ⟨p, 3, none⟩ (.bool false)).drew A' n' c' [] hr (by have h1 := hr.1; simp only [List.length_nil] at h1; omega))
  go_enter Tryd.func64, Tryd.ntmps64
  go_wp2
  have m4 := HB1.out.cell 4
  have m7 := HB1.out.cell 7
  simp only [RS.cells, List.getElem?_toArray, List.getElem?_cons_succ, List.getElem?_cons_zero] at m4 m7
  rw [HDV.out] at m4
  rw [HFS.out] at m7
  go_region_held3 (fun w' => w'.cell? ⟨p, 4, none⟩ = some (.slice (some ⟨g3, off3, none⟩) f (f + (cx + 1))) ∧ w'.cell? ⟨p, 7, none⟩ = some (.int .i64 ((f : Nat) : Int)))
    (first | go_keep | exact ⟨q4, q7⟩ | exact ⟨m4, m7⟩)
    ((go_at_call 77; refine (HINV.out _ rfl _ _ _ (reads_nil _ _ _)).mono ?_; rintro e w7 ⟨v7, rfl, ho7, hk7, hb7⟩; have hb7 := below_of_drew hb7; have hp7 := HB1.out.upd (Upd.below hb7 No) (fun h => h); have q1 := hp7.cell 1; have q4 := hp7.cell 4; have q7 := hp7.cell 7; have q8 := hp7.cell 8; have qf := hp7.frozen; have qc := hp7.cell 5; have qd := hp7.cell 6; simp only [RS.cells, List.getElem?_toArray, List.getElem?_cons_succ, List.getElem?_cons_zero] at q1 q4 q7 q8 qc qd; rw [HUV.out, ← HN2.out] at q1; rw [HDV.out] at q4; rw [HFS.out] at q7; rw [HRES.out] at q8; have hlp := hp7.lt; have HP7 := Lib.hid hp7; have HO7 := Lib.hid ho7; have HK7 := Lib.hid hk7; have HW7 := Lib.hid hb7; clear ho7 hk7 hb7 hp7))
  go_wp2
  go_ret2
  have hub : Upd (fun k => k = p) w w7 := HU1.out.then_ (Upd.below HW7.out No) (fun k hk => hk.elim)
  obtain ⟨h1, h2, h3⟩ := HA.out.top_ (s' := { s with op := false }) hub HP7.out rfl rfl rfl rfl (.inl ⟨rfl, rfl⟩)
  refine ⟨_, rfl, _, h1, ?_, h2, h3, ?_, fun k hk => ?_⟩
  · rw [HAB.out, HRES.out]
    rfl
  · rw [HCA.out]
    exact (by rw [HD.out]; exact HO7.out)
  · have h4 : (w.setCell ⟨p, 3, none⟩ (.bool false)).heap.size ≤ k := HK7.out k hk
    have h5 := HU1.out.size
    refine ⟨by omega, fun hf => ?_⟩
    have h6 : foot p s k := hf
    have := HA.out.lt k h6
    omega
theorem cancel_end2_true (h : RAt w p s) (ho : s.op = true) (hres : s.res = true) (g3 off3 f cx : Nat) (hdv : s.now.dv = .slice (some ⟨g3, off3, none⟩) f (f + (cx + 1))) (hfs : s.had = f) (hD : s.now.ds.drop s.had = []) (hN : s.now.ds.length = f) (hf : s.had ≤ s.now.ds.length) (hn : s.now.ds.length ≤ 1000000000000) (hun : s.undo.length ≤ 2000) :
    Calls Tryd.prog 64 #[.pointer (some ⟨p, 0, none⟩)] w fun e w' => ∃ v, e = .returned (.tuple #[v, .bool true]) ∧ LeftL w w' p s s.abs.cancel v s.abs.cancelL := by
  obtain ⟨i0, hi0, hz0, hz1, hz2⟩ := info_parts info91
  obtain ⟨c0, c1, c2, c3, c4, c5, c6, c7, c8, cf⟩ := h.cells
  have hpw := h.blk.lt
  have HCA : Hid (s.abs.cancelL = back (s.now.ds.drop s.had)) := Lib.hid (by unfold RS.abs AS.cancelL; dsimp only; rw [if_pos ho]; rfl)
  have HAB : Hid (s.abs.cancel = { s.abs with cur := none, undo := if s.res = true then s.abs.undo ++ [{ s.now.abs with ds := s.now.ds.take s.had }] else s.abs.undo }) := Lib.hid (by unfold RS.abs AS.cancel; dsimp only; rw [if_pos ho]; rfl)
  have HA := Lib.hid h
  have HDV := Lib.hid hdv
  have HFS := Lib.hid hfs
  have HF := Lib.hid hf
  have HN := Lib.hid hn
  have HLN := Lib.hid hN
  have HRES := Lib.hid hres
  obtain ⟨A2, cr, huv, hul⟩ := h.u.form
  have HUV := Lib.hid huv
  obtain ⟨n2, hn2⟩ : ∃ n2, n2 = s.undo.length := ⟨_, rfl⟩
  have HN2 := Lib.hid hn2
  have hn3 : n2 ≤ 2000 := by omega
  rw [hdv] at c4
  rw [ho] at c3
  rw [hres] at c8
  rw [hfs] at c7
  rw [huv, ← hn2] at c1
  have hU1 : Upd (fun k => k = p) w (w.setCell ⟨p, 3, none⟩ (.bool false)) := by (repeat' (first | with_reducible exact Upd.refl _ _ | with_reducible refine Upd.drewN ?_ _ | with_reducible refine Upd.drew ?_ | with_reducible refine Upd.alloc ?_ _ | (with_reducible refine Upd.setCell ?_ ?_ _; rotate_left; first | exact Or.inl rfl | exact Or.inl (foot_p _ _))))
  have hB0 : Blk w p 93 s.cells := h.blk
  have hB1 : Blk (w.setCell ⟨p, 3, none⟩ (.bool false)) p 93 ({ s with op := false } : RS).cells := by (apply Blk.eq_; (focus (repeat' (first | with_reducible exact hB0 | with_reducible apply Blk.drewN | with_reducible apply Blk.drew | with_reducible apply Blk.set_ | with_reducible apply Blk.alloc))); all_goals (simp only [RS.cells, List.setIfInBounds_toArray, List.set_cons_succ, List.set_cons_zero] <;> rfl))
  have HD := Lib.hid hD
  clear hD
  have hN1 : f ≤ 1000000000000 := by omega
  have hb2 : f ≤ f + (cx + 1) := by omega
  have hb3 : ¬ f + (cx + 1) = f := by omega
  have hb5 : f + (cx + 1) - f = cx + 1 := by omega
  have hb7 : (f + (cx + 1) == f) = false := by rw [beq_eq_false_iff_ne]; omega
  have HU1 := Lib.hid hU1
  have HB1 := Lib.hid hB1
  clear h ho hdv hres hfs hf hn hN huv hn2 hul hun hU1 hB1 hB0
  have HINV : Hid (∀ w0 : World, w0 = (w.setCell ⟨p, 3, none⟩ (.bool false)).drew → ∀ A' n' c', ReadsD (w.setCell ⟨p, 3, none⟩ (.bool false)) (w.setCell ⟨p, 3, none⟩ (.bool false)).heap.size A' n' [] → Calls Tryd.prog 77 #[.slice A' n' c'] w0 _) := Lib.hid (fun w0 e A' n' c' hr => by subst e; exact inverted_d (w.setCell ⟨p, 3, none⟩ (.bool false)).drew A' n' c' [] hr (by have h1 := hr.1; simp only [List.length_nil] at h1; omega))
  go_enter Tryd.func64, Tryd.ntmps64
  go_wp2
  have m4 := HB1.out.cell 4
  have m7 := HB1.out.cell 7
  simp only [RS.cells, List.getElem?_toArray, List.getElem?_cons_succ, List.getElem?_cons_zero] at m4 m7
  rw [HDV.out] at m4
  rw [HFS.out] at m7
  go_region_held3 (fun w' => w'.cell? ⟨p, 4, none⟩ = some (.slice (some ⟨g3, off3, none⟩) f (f + (cx + 1))) ∧ w'.cell? ⟨p, 7, none⟩ = some (.int .i64 ((f : Nat) : Int)))
    (first | go_keep | exact ⟨q4, q7⟩ | exact ⟨m4, m7⟩)
    ((go_at_call 77; refine (HINV.out _ rfl _ _ _ (reads_nil _ _ _)).mono ?_; rintro e w7 ⟨v7, rfl, ho7, hk7, hb7⟩; have hb7 := below_of_drew hb7; have hp7 := HB1.out.upd (Upd.below hb7 No) (fun h => h); have q1 := hp7.cell 1; have q4 := hp7.cell 4; have q7 := hp7.cell 7; have q8 := hp7.cell 8; have qf := hp7.frozen; have qc := hp7.cell 5; have qd := hp7.cell 6; simp only [RS.cells, List.getElem?_toArray, List.getElem?_cons_succ, List.getElem?_cons_zero] at q1 q4 q7 q8 qc qd; rw [HUV.out, ← HN2.out] at q1; rw [HDV.out] at q4; rw [HFS.out] at q7; rw [HRES.out] at q8; have hlp := hp7.lt; have HP7 := Lib.hid hp7; have HO7 := Lib.hid ho7; have HK7 := Lib.hid hk7; have HW7 := Lib.hid hb7; clear ho7 hk7 hb7 hp7))
  have hub : Upd (fun k => k = p) w (w7.setCell ⟨p, 4, none⟩ (.slice (some ⟨g3, off3, none⟩) f (f + (cx + 1)))) := (HU1.out.then_ (Upd.below HW7.out No) (fun k hk => hk.elim)).setCell (.inl rfl) _
  have hP7 := HP7.out
  have hB7 : Blk (w7.setCell ⟨p, 4, none⟩ (.slice (some ⟨g3, off3, none⟩) f (f + (cx + 1)))) p 93 ({ s with op := false, now := (⟨.slice (some ⟨g3, off3, none⟩) f (f + (cx + 1)), s.now.ds.take f, s.now.ah, s.now.be⟩ : Gr) } : RS).cells := by (apply Blk.eq_; (focus (repeat' (first | with_reducible exact hP7 | with_reducible apply Blk.drewN | with_reducible apply Blk.drew | with_reducible apply Blk.set_ | with_reducible apply Blk.alloc))); all_goals (simp only [RS.cells, List.setIfInBounds_toArray, List.set_cons_succ, List.set_cons_zero] <;> rfl))
  obtain ⟨hR7, hF7⟩ := HA.out.cutNow (W := (w7.setCell ⟨p, 4, none⟩ (.slice (some ⟨g3, off3, none⟩) f (f + (cx + 1))))) (HDV.out) (HLN.out) f (by have := HF.out; have := HFS.out; have := HLN.out; omega) hub hB7
  have hWu : Upd (fun k => k = p) (w7.setCell ⟨p, 4, none⟩ (.slice (some ⟨g3, off3, none⟩) f (f + (cx + 1)))) ((w7.setCell ⟨p, 4, none⟩ (.slice (some ⟨g3, off3, none⟩) f (f + (cx + 1)))).alloc (.cells #[.slice (some ⟨g3, off3, none⟩) f (f + (cx + 1)), .int .i64 s.now.ah, .int .i64 s.now.be] 91)) := (Upd.refl _ _).alloc _
  have hWB : Blk ((w7.setCell ⟨p, 4, none⟩ (.slice (some ⟨g3, off3, none⟩) f (f + (cx + 1)))).alloc (.cells #[.slice (some ⟨g3, off3, none⟩) f (f + (cx + 1)), .int .i64 s.now.ah, .int .i64 s.now.be] 91)) p 93 ({ s with op := false, now := (⟨.slice (some ⟨g3, off3, none⟩) f (f + (cx + 1)), s.now.ds.take f, s.now.ah, s.now.be⟩ : Gr) } : RS).cells := hB7.alloc _
  have hor := HA.out.u.upd (hub.alloc (.cells #[.slice (some ⟨g3, off3, none⟩) f (f + (cx + 1)), .int .i64 s.now.ah, .int .i64 s.now.be] 91)) (fun k hk e => HA.out.up (by rw [← e]; exact hk))
  rw [HUV.out, ← HN2.out] at hor
  have HOr := Lib.hid hor
  have hrn := reads_gr (w7.setCell ⟨p, 4, none⟩ (.slice (some ⟨g3, off3, none⟩) f (f + (cx + 1)))) (⟨.slice (some ⟨g3, off3, none⟩) f (f + (cx + 1)), s.now.ds.take f, s.now.ah, s.now.be⟩ : Gr)
  rw [show (w7.setCell ⟨p, 4, none⟩ (.slice (some ⟨g3, off3, none⟩) f (f + (cx + 1)))).heap.size = w7.heap.size by simp [World.setCell]] at hrn
  have HRn := Lib.hid hrn
  have HC1 := Lib.hid (one_g (⟨.slice (some ⟨g3, off3, none⟩) f (f + (cx + 1)), s.now.ds.take f, s.now.ah, s.now.be⟩ : Gr) _ _ _ rfl)
  have HFIN : Hid (∀ v5 w5, _ → _ → _ → _) := Lib.hid (fun v5 w5 => RAt.push (v5 := v5) (w5 := w5) hR7 hWu hWB)
  have HWB := Lib.hid hWB
  have HUP := Lib.hid HA.out.up
  have HUB := Lib.hid hub
  have HF7 := Lib.hid hF7
  have HR7 := Lib.hid hR7
  clear hor hrn hWu hWB hub hB7 hP7 hR7 hF7
  go_wp2
  go_region
  all_goals
    go_wp2
    go_region_law (first
      | (refine step_append_s (v := .slice A2 n2 cr) (by rfl) _ _ _ (by rfl) Tryd.underlying89 hi0 hz0 hz1 hz2 rfl (by omega) (by rfl) HOr.out (by rfl) HRn.out HC1.out (by unfold maxLen; omega) (by omega) ?_; intro v5 w5 ho5 hg5 hb5; have HO5 := Lib.hid ho5; have hg5 : ((w7.setCell ⟨p, 4, none⟩ (.slice (some ⟨g3, off3, none⟩) f (f + (cx + 1)))).alloc (.cells #[.slice (some ⟨g3, off3, none⟩) f (f + (cx + 1)), .int .i64 s.now.ah, .int .i64 s.now.be] 91)).grownBy w5 (Value.slice A2 n2 cr).ownBlock := ⟨hg5.os, hg5.tape, hg5.output, hg5.size, hg5.block⟩; have HG5 := Lib.hid hg5; have HB5 := Lib.hid hb5; have hb6 := HWB.out.upd (Upd.grown (S := fun k => (Value.slice A2 n2 cr).ownBlock = some k) HG5.out (fun k e => e)) (fun e => HUP.out (by rw [HUV.out, ← HN2.out]; exact e)); have f0 := hb6.cell 0; have f1 := hb6.cell 1; have ff := hb6.frozen; have hlp5 := hb6.lt; obtain ⟨A5, c5, hv5, hl5⟩ := HO5.out.form; subst hv5; clear ho5 hg5 hb5 hb6; simp only [RS.cells, List.getElem?_toArray, List.getElem?_cons_succ, List.getElem?_cons_zero] at f0 f1; rw [HUV.out, ← HN2.out] at f1))
  all_goals
    have hfin := HFIN.out (.slice A5 (n2 + 1) c5) w5 (by rw [← HN2.out]; exact HO5.out) (by rw [HUV.out, ← HN2.out]; exact HG5.out) (by rw [HUV.out, ← HN2.out]; exact HB5.out)
    have HFN := Lib.hid hfin
    clear hfin
    go_wp2
    go_ret2
    obtain ⟨hA, hU, hF⟩ := HFN.out
    have hws : w.heap.size ≤ w7.heap.size := by have := HUB.out.size; simpa using this
    have hvk : ∀ k, v7.ownBlock = some k → w.heap.size ≤ k ∧ k < w7.heap.size := fun k hk => by
      have h1 : (w.setCell ⟨p, 3, none⟩ (.bool false)).heap.size ≤ k := HK7.out k hk
      have h2 := OwnS.lt HO7.out k hk
      simp at h1
      exact ⟨h1, h2⟩
    refine ⟨_, rfl, _, hA, ?_, ?_, fun k hk => ?_, ?_, fun k hk => ?_⟩
    · rw [HAB.out, HRES.out, HFS.out]
      unfold RS.abs
      simp [Gr.abs]
    · refine (HUB.out.mono (fun k e => ?_)).then_ hU (fun k hk => ?_)
      · subst e
        exact foot_p _ _
      · rcases hk with hk | hk
        · subst hk
          exact .inl (foot_p _ _)
        · exact .inl (.inr (.inl hk))
    · rcases hF k hk with e | e
      · exact .inl (HF7.out k e)
      · exact .inr (by simp at e; omega)
    · rw [HCA.out]
      have hu8 : Upd (fun k => k = p ∨ s.uv.ownBlock = some k) w7 (w5.setCell ⟨p, 1, none⟩ (.slice A5 (n2 + 1) c5)) :=
        (((Upd.refl (fun k => k = p ∨ s.uv.ownBlock = some k) w7).setCell (p := ⟨p, 4, none⟩) (.inl (.inl rfl)) (.slice (some ⟨g3, off3, none⟩) f (f + (cx + 1))))).then_ hU (fun k hk => .inl hk)
      have h9 := OwnS.upd HO7.out hu8 (fun k hk e => by
        obtain ⟨h1, h2⟩ := hvk k hk
        rcases e with e | e
        · have := HA.out.blk.lt
          omega
        · have := HA.out.u.lt k e
          omega)
      rw [HD.out]
      exact h9
    · obtain ⟨h1, h2⟩ := hvk k hk
      refine ⟨h1, fun hf => ?_⟩
      rcases hF k hf with e | e
      · have := HA.out.lt k (HF7.out k e)
        omega
      · simp at e
        omega
theorem cancel_more_false (h : RAt w p s) (ho : s.op = true) (hres : s.res = false) (g3 off3 f nn cc : Nat) (hfn : f < nn) (hnc : nn ≤ cc) (hdv : s.now.dv = .slice (some ⟨g3, off3, none⟩) nn cc) (hfs : s.had = f) (hN : s.now.ds.length = nn) (hf : s.had ≤ s.now.ds.length) (hn : s.now.ds.length ≤ 1000000000000) (hun : s.undo.length ≤ 2000) :
    Calls Tryd.prog 64 #[.pointer (some ⟨p, 0, none⟩)] w fun e w' => ∃ v, e = .returned (.tuple #[v, .bool true]) ∧ LeftL w w' p s s.abs.cancel v s.abs.cancelL := by
  obtain ⟨i0, hi0, hz0, hz1, hz2⟩ := info_parts info91
  obtain ⟨c0, c1, c2, c3, c4, c5, c6, c7, c8, cf⟩ := h.cells
  have hpw := h.blk.lt
  have HCA : Hid (s.abs.cancelL = back (s.now.ds.drop s.had)) := Lib.hid (by unfold RS.abs AS.cancelL; dsimp only; rw [if_pos ho]; rfl)
  have HAB : Hid (s.abs.cancel = { s.abs with cur := none, undo := if s.res = true then s.abs.undo ++ [{ s.now.abs with ds := s.now.ds.take s.had }] else s.abs.undo }) := Lib.hid (by unfold RS.abs AS.cancel; dsimp only; rw [if_pos ho]; rfl)
  have HA := Lib.hid h
  have HDV := Lib.hid hdv
  have HFS := Lib.hid hfs
  have HF := Lib.hid hf
  have HN := Lib.hid hn
  have HLN := Lib.hid hN
  have HRES := Lib.hid hres
  obtain ⟨A2, cr, huv, hul⟩ := h.u.form
  have HUV := Lib.hid huv
  obtain ⟨n2, hn2⟩ : ∃ n2, n2 = s.undo.length := ⟨_, rfl⟩
  have HN2 := Lib.hid hn2
  have hn3 : n2 ≤ 2000 := by omega
  rw [hdv] at c4
  rw [ho] at c3
  rw [hres] at c8
  rw [hfs] at c7
  rw [huv, ← hn2] at c1
  have hU1 : Upd (fun k => k = p) w (w.setCell ⟨p, 3, none⟩ (.bool false)) := by (repeat' (first | with_reducible exact Upd.refl _ _ | with_reducible refine Upd.drewN ?_ _ | with_reducible refine Upd.drew ?_ | with_reducible refine Upd.alloc ?_ _ | (with_reducible refine Upd.setCell ?_ ?_ _; rotate_left; first | exact Or.inl rfl | exact Or.inl (foot_p _ _))))
  have hB0 : Blk w p 93 s.cells := h.blk
  have hB1 : Blk (w.setCell ⟨p, 3, none⟩ (.bool false)) p 93 ({ s with op := false } : RS).cells := by (apply Blk.eq_; (focus (repeat' (first | with_reducible exact hB0 | with_reducible apply Blk.drewN | with_reducible apply Blk.drew | with_reducible apply Blk.set_ | with_reducible apply Blk.alloc))); all_goals (simp only [RS.cells, List.setIfInBounds_toArray, List.set_cons_succ, List.set_cons_zero] <;> rfl))
  have hN1 : nn ≤ 1000000000000 := by omega
  have hb0 : (0 : Int) ≤ (f : Int) := by omega
  have hb1 : (f : Int) ≤ (nn : Int) := by omega
  have hb2 : (f : Int) ≤ (cc : Int) := by omega
  have hb3 : ¬ cc = f := by omega
  have hb4 : (nn : Int) ≤ (cc : Int) := by omega
  have hb5 : ¬ cc - f = 0 := by omega
  have hb7 : (cc == f) = false := by rw [beq_eq_false_iff_ne]; omega
  have HRX : Hid (ReadsD (w.setCell ⟨p, 3, none⟩ (.bool false)) (w.setCell ⟨p, 3, none⟩ (.bool false)).heap.size (some ⟨g3, off3 + f * 3, none⟩) (nn - f) (s.now.ds.drop s.had)) := Lib.hid (by
    have h1 := h.dKeep hU1 (fun k hk => .inl hk) s.now (by simp [RS.groups])
    unfold OwnD at h1
    rw [hdv, hN] at h1
    have h2 := Reads.cut (OwnS.reads h1) (k := f) (by omega) hnc
    rw [if_neg (by omega), flat_drop, ← hfs] at h2
    refine ⟨by rw [List.length_drop, hN]; omega, ?_⟩
    have h3 : (some (⟨g3, off3, none⟩ : Addr)).map (fun x => x.add (s.had * 3)) = some ⟨g3, off3 + s.had * 3, none⟩ := by simp [add_off]
    rw [h3] at h2
    rw [← hfs]
    exact h2)
  have HU1 := Lib.hid hU1
  have HB1 := Lib.hid hB1
  clear h ho hdv hres hfs hf hn hN huv hn2 hul hun hU1 hB1 hB0
  have HINV : Hid (∀ w0 : World, w0 = (w.setCell ⟨p, 3, none⟩ (.bool false)).drew → ∀ A' n' c', ReadsD (w.setCell ⟨p, 3, none⟩ (.bool false)) (w.setCell ⟨p, 3, none⟩ (.bool false)).heap.size A' n' (s.now.ds.drop s.had) → Calls Tryd.prog 77 #[.slice A' n' c'] w0 _) := Lib.hid (fun w0 e A' n' c' hr => by subst e; exact inverted_d (w.setCell ⟨p, 3, none⟩ (.bool false)).drew A' n' c' (s.now.ds.drop s.had) hr (by have h1 := hr.1; have h2 := HN.out; have h3 : (s.now.ds.drop s.had).length ≤ s.now.ds.length := (by simp); omega))
  go_enter Tryd.func64, Tryd.ntmps64
  go_wp2
  have m4 := HB1.out.cell 4
  have m7 := HB1.out.cell 7
  simp only [RS.cells, List.getElem?_toArray, List.getElem?_cons_succ, List.getElem?_cons_zero] at m4 m7
  rw [HDV.out] at m4
  rw [HFS.out] at m7
  go_region_held3 (fun w' => w'.cell? ⟨p, 4, none⟩ = some (.slice (some ⟨g3, off3, none⟩) nn cc) ∧ w'.cell? ⟨p, 7, none⟩ = some (.int .i64 ((f : Nat) : Int)))
    (first | go_keep | exact ⟨q4, q7⟩ | exact ⟨m4, m7⟩)
    ((go_at_call 77; refine (HINV.out _ rfl _ _ _ HRX.out).mono ?_; rintro e w7 ⟨v7, rfl, ho7, hk7, hb7⟩; have hb7 := below_of_drew hb7; have hp7 := HB1.out.upd (Upd.below hb7 No) (fun h => h); have q1 := hp7.cell 1; have q4 := hp7.cell 4; have q7 := hp7.cell 7; have q8 := hp7.cell 8; have qf := hp7.frozen; have qc := hp7.cell 5; have qd := hp7.cell 6; simp only [RS.cells, List.getElem?_toArray, List.getElem?_cons_succ, List.getElem?_cons_zero] at q1 q4 q7 q8 qc qd; rw [HUV.out, ← HN2.out] at q1; rw [HDV.out] at q4; rw [HFS.out] at q7; rw [HRES.out] at q8; have hlp := hp7.lt; have HP7 := Lib.hid hp7; have HO7 := Lib.hid ho7; have HK7 := Lib.hid hk7; have HW7 := Lib.hid hb7; clear ho7 hk7 hb7 hp7))
  go_wp2
  go_ret2
  have hub : Upd (fun k => k = p) w w7 := HU1.out.then_ (Upd.below HW7.out No) (fun k hk => hk.elim)
  obtain ⟨h1, h2, h3⟩ := HA.out.top_ (s' := { s with op := false }) hub HP7.out rfl rfl rfl rfl (.inl ⟨rfl, rfl⟩)
  refine ⟨_, rfl, _, h1, ?_, h2, h3, ?_, fun k hk => ?_⟩
  · rw [HAB.out, HRES.out]
    rfl
  · rw [HCA.out]
    exact HO7.out
  · have h4 : (w.setCell ⟨p, 3, none⟩ (.bool false)).heap.size ≤ k := HK7.out k hk
    have h5 := HU1.out.size
    refine ⟨by omega, fun hf => ?_⟩
    have h6 : foot p s k := hf
    have := HA.out.lt k h6
    omega
theorem cancel_more_true (h : RAt w p s) (ho : s.op = true) (hres : s.res = true) (g3 off3 f nn cc : Nat) (hfn : f < nn) (hnc : nn ≤ cc) (hdv : s.now.dv = .slice (some ⟨g3, off3, none⟩) nn cc) (hfs : s.had = f) (hN : s.now.ds.length = nn) (hf : s.had ≤ s.now.ds.length) (hn : s.now.ds.length ≤ 1000000000000) (hun : s.undo.length ≤ 2000) :
    Calls Tryd.prog 64 #[.pointer (some ⟨p, 0, none⟩)] w fun e w' => ∃ v, e = .returned (.tuple #[v, .bool true]) ∧ LeftL w w' p s s.abs.cancel v s.abs.cancelL := by
  obtain ⟨i0, hi0, hz0, hz1, hz2⟩ := info_parts info91
  obtain ⟨c0, c1, c2, c3, c4, c5, c6, c7, c8, cf⟩ := h.cells
  have hpw := h.blk.lt
  have HCA : Hid (s.abs.cancelL = back (s.now.ds.drop s.had)) := Lib.hid (by unfold RS.abs AS.cancelL; dsimp only; rw [if_pos ho]; rfl)
  have HAB : Hid (s.abs.cancel = { s.abs with cur := none, undo := if s.res = true then s.abs.undo ++ [{ s.now.abs with ds := s.now.ds.take s.had }] else s.abs.undo }) := Lib.hid (by unfold RS.abs AS.cancel; dsimp only; rw [if_pos ho]; rfl)
  have HA := Lib.hid h
  have HDV := Lib.hid hdv
  have HFS := Lib.hid hfs
  have HF := Lib.hid hf
  have HN := Lib.hid hn
  have HLN := Lib.hid hN
  have HRES := Lib.hid hres
  obtain ⟨A2, cr, huv, hul⟩ := h.u.form
  have HUV := Lib.hid huv
  obtain ⟨n2, hn2⟩ : ∃ n2, n2 = s.undo.length := ⟨_, rfl⟩
  have HN2 := Lib.hid hn2
  have hn3 : n2 ≤ 2000 := by omega
  rw [hdv] at c4
  rw [ho] at c3
  rw [hres] at c8
  rw [hfs] at c7
  rw [huv, ← hn2] at c1
  have hU1 : Upd (fun k => k = p) w (w.setCell ⟨p, 3, none⟩ (.bool false)) := by (repeat' (first | with_reducible exact Upd.refl _ _ | with_reducible refine Upd.drewN ?_ _ | with_reducible refine Upd.drew ?_ | with_reducible refine Upd.alloc ?_ _ | (with_reducible refine Upd.setCell ?_ ?_ _; rotate_left; first | exact Or.inl rfl | exact Or.inl (foot_p _ _))))
  have hB0 : Blk w p 93 s.cells := h.blk
  have hB1 : Blk (w.setCell ⟨p, 3, none⟩ (.bool false)) p 93 ({ s with op := false } : RS).cells := by (apply Blk.eq_; (focus (repeat' (first | with_reducible exact hB0 | with_reducible apply Blk.drewN | with_reducible apply Blk.drew | with_reducible apply Blk.set_ | with_reducible apply Blk.alloc))); all_goals (simp only [RS.cells, List.setIfInBounds_toArray, List.set_cons_succ, List.set_cons_zero] <;> rfl))
  have hN1 : nn ≤ 1000000000000 := by omega
  have hb0 : (0 : Int) ≤ (f : Int) := by omega
  have hb1 : (f : Int) ≤ (nn : Int) := by omega
  have hb2 : (f : Int) ≤ (cc : Int) := by omega
  have hb3 : ¬ cc = f := by omega
  have hb4 : (nn : Int) ≤ (cc : Int) := by omega
  have hb5 : ¬ cc - f = 0 := by omega
  have hb7 : (cc == f) = false := by rw [beq_eq_false_iff_ne]; omega
  have HRX : Hid (ReadsD (w.setCell ⟨p, 3, none⟩ (.bool false)) (w.setCell ⟨p, 3, none⟩ (.bool false)).heap.size (some ⟨g3, off3 + f * 3, none⟩) (nn - f) (s.now.ds.drop s.had)) := Lib.hid (by
    have h1 := h.dKeep hU1 (fun k hk => .inl hk) s.now (by simp [RS.groups])
    unfold OwnD at h1
    rw [hdv, hN] at h1
    have h2 := Reads.cut (OwnS.reads h1) (k := f) (by omega) hnc
    rw [if_neg (by omega), flat_drop, ← hfs] at h2
    refine ⟨by rw [List.length_drop, hN]; omega, ?_⟩
    have h3 : (some (⟨g3, off3, none⟩ : Addr)).map (fun x => x.add (s.had * 3)) = some ⟨g3, off3 + s.had * 3, none⟩ := by simp [add_off]
    rw [h3] at h2
    rw [← hfs]
    exact h2)
  have HU1 := Lib.hid hU1
  have HB1 := Lib.hid hB1
  clear h ho hdv hres hfs hf hn hN huv hn2 hul hun hU1 hB1 hB0
  have HINV : Hid (∀ w0 : World, w0 = (w.setCell ⟨p, 3, none⟩ (.bool false)).drew → ∀ A' n' c', ReadsD (w.setCell ⟨p, 3, none⟩ (.bool false)) (w.setCell ⟨p, 3, none⟩ (.bool false)).heap.size A' n' (s.now.ds.drop s.had) → Calls Tryd.prog 77 #[.slice A' n' c'] w0 _) := Lib.hid (fun w0 e A' n' c' hr => by subst e; exact inverted_d (w.setCell ⟨p, 3, none⟩ (.bool false)).drew A' n' c' (s.now.ds.drop s.had) hr (by have h1 := hr.1; have h2 := HN.out; have h3 : (s.now.ds.drop s.had).length ≤ s.now.ds.length := (by simp); omega))
  go_enter Tryd.func64, Tryd.ntmps64
  go_wp2
  have m4 := HB1.out.cell 4
  have m7 := HB1.out.cell 7
  simp only [RS.cells, List.getElem?_toArray, List.getElem?_cons_succ, List.getElem?_cons_zero] at m4 m7
  rw [HDV.out] at m4
  rw [HFS.out] at m7
  go_region_held3 (fun w' => w'.cell? ⟨p, 4, none⟩ = some (.slice (some ⟨g3, off3, none⟩) nn cc) ∧ w'.cell? ⟨p, 7, none⟩ = some (.int .i64 ((f : Nat) : Int)))
    (first | go_keep | exact ⟨q4, q7⟩ | exact ⟨m4, m7⟩)
    ((go_at_call 77; refine (HINV.out _ rfl _ _ _ HRX.out).mono ?_; rintro e w7 ⟨v7, rfl, ho7, hk7, hb7⟩; have hb7 := below_of_drew hb7; have hp7 := HB1.out.upd (Upd.below hb7 No) (fun h => h); have q1 := hp7.cell 1; have q4 := hp7.cell 4; have q7 := hp7.cell 7; have q8 := hp7.cell 8; have qf := hp7.frozen; have qc := hp7.cell 5; have qd := hp7.cell 6; simp only [RS.cells, List.getElem?_toArray, List.getElem?_cons_succ, List.getElem?_cons_zero] at q1 q4 q7 q8 qc qd; rw [HUV.out, ← HN2.out] at q1; rw [HDV.out] at q4; rw [HFS.out] at q7; rw [HRES.out] at q8; have hlp := hp7.lt; have HP7 := Lib.hid hp7; have HO7 := Lib.hid ho7; have HK7 := Lib.hid hk7; have HW7 := Lib.hid hb7; clear ho7 hk7 hb7 hp7))
  have hub : Upd (fun k => k = p) w (w7.setCell ⟨p, 4, none⟩ (.slice (some ⟨g3, off3, none⟩) f cc)) := (HU1.out.then_ (Upd.below HW7.out No) (fun k hk => hk.elim)).setCell (.inl rfl) _
  have hP7 := HP7.out
  have hB7 : Blk (w7.setCell ⟨p, 4, none⟩ (.slice (some ⟨g3, off3, none⟩) f cc)) p 93 ({ s with op := false, now := (⟨.slice (some ⟨g3, off3, none⟩) f cc, s.now.ds.take f, s.now.ah, s.now.be⟩ : Gr) } : RS).cells := by (apply Blk.eq_; (focus (repeat' (first | with_reducible exact hP7 | with_reducible apply Blk.drewN | with_reducible apply Blk.drew | with_reducible apply Blk.set_ | with_reducible apply Blk.alloc))); all_goals (simp only [RS.cells, List.setIfInBounds_toArray, List.set_cons_succ, List.set_cons_zero] <;> rfl))
  obtain ⟨hR7, hF7⟩ := HA.out.cutNow (W := (w7.setCell ⟨p, 4, none⟩ (.slice (some ⟨g3, off3, none⟩) f cc))) (HDV.out) (HLN.out) f (by have := HF.out; have := HFS.out; have := HLN.out; omega) hub hB7
  have hWu : Upd (fun k => k = p) (w7.setCell ⟨p, 4, none⟩ (.slice (some ⟨g3, off3, none⟩) f cc)) ((w7.setCell ⟨p, 4, none⟩ (.slice (some ⟨g3, off3, none⟩) f cc)).alloc (.cells #[.slice (some ⟨g3, off3, none⟩) f cc, .int .i64 s.now.ah, .int .i64 s.now.be] 91)) := (Upd.refl _ _).alloc _
  have hWB : Blk ((w7.setCell ⟨p, 4, none⟩ (.slice (some ⟨g3, off3, none⟩) f cc)).alloc (.cells #[.slice (some ⟨g3, off3, none⟩) f cc, .int .i64 s.now.ah, .int .i64 s.now.be] 91)) p 93 ({ s with op := false, now := (⟨.slice (some ⟨g3, off3, none⟩) f cc, s.now.ds.take f, s.now.ah, s.now.be⟩ : Gr) } : RS).cells := hB7.alloc _
  have hor := HA.out.u.upd (hub.alloc (.cells #[.slice (some ⟨g3, off3, none⟩) f cc, .int .i64 s.now.ah, .int .i64 s.now.be] 91)) (fun k hk e => HA.out.up (by rw [← e]; exact hk))
  rw [HUV.out, ← HN2.out] at hor
  have HOr := Lib.hid hor
  have hrn := reads_gr (w7.setCell ⟨p, 4, none⟩ (.slice (some ⟨g3, off3, none⟩) f cc)) (⟨.slice (some ⟨g3, off3, none⟩) f cc, s.now.ds.take f, s.now.ah, s.now.be⟩ : Gr)
  rw [show (w7.setCell ⟨p, 4, none⟩ (.slice (some ⟨g3, off3, none⟩) f cc)).heap.size = w7.heap.size by simp [World.setCell]] at hrn
  have HRn := Lib.hid hrn
  have HC1 := Lib.hid (one_g (⟨.slice (some ⟨g3, off3, none⟩) f cc, s.now.ds.take f, s.now.ah, s.now.be⟩ : Gr) _ _ _ rfl)
  have HFIN : Hid (∀ v5 w5, _ → _ → _ → _) := Lib.hid (fun v5 w5 => RAt.push (v5 := v5) (w5 := w5) hR7 hWu hWB)
  have HWB := Lib.hid hWB
  have HUP := Lib.hid HA.out.up
  have HUB := Lib.hid hub
  have HF7 := Lib.hid hF7
  have HR7 := Lib.hid hR7
  clear hor hrn hWu hWB hub hB7 hP7 hR7 hF7
  go_wp2
  go_region
  all_goals
    go_wp2
    go_region_law (first
      | (refine step_append_s (v := .slice A2 n2 cr) (by rfl) _ _ _ (by rfl) Tryd.underlying89 hi0 hz0 hz1 hz2 rfl (by omega) (by rfl) HOr.out (by rfl) HRn.out HC1.out (by unfold maxLen; omega) (by omega) ?_; intro v5 w5 ho5 hg5 hb5; have HO5 := Lib.hid ho5; have hg5 : ((w7.setCell ⟨p, 4, none⟩ (.slice (some ⟨g3, off3, none⟩) f cc)).alloc (.cells #[.slice (some ⟨g3, off3, none⟩) f cc, .int .i64 s.now.ah, .int .i64 s.now.be] 91)).grownBy w5 (Value.slice A2 n2 cr).ownBlock := ⟨hg5.os, hg5.tape, hg5.output, hg5.size, hg5.block⟩; have HG5 := Lib.hid hg5; have HB5 := Lib.hid hb5; have hb6 := HWB.out.upd (Upd.grown (S := fun k => (Value.slice A2 n2 cr).ownBlock = some k) HG5.out (fun k e => e)) (fun e => HUP.out (by rw [HUV.out, ← HN2.out]; exact e)); have f0 := hb6.cell 0; have f1 := hb6.cell 1; have ff := hb6.frozen; have hlp5 := hb6.lt; obtain ⟨A5, c5, hv5, hl5⟩ := HO5.out.form; subst hv5; clear ho5 hg5 hb5 hb6; simp only [RS.cells, List.getElem?_toArray, List.getElem?_cons_succ, List.getElem?_cons_zero] at f0 f1; rw [HUV.out, ← HN2.out] at f1))
  all_goals
    have hfin := HFIN.out (.slice A5 (n2 + 1) c5) w5 (by rw [← HN2.out]; exact HO5.out) (by rw [HUV.out, ← HN2.out]; exact HG5.out) (by rw [HUV.out, ← HN2.out]; exact HB5.out)
    have HFN := Lib.hid hfin
    clear hfin
    go_wp2
    go_ret2
    obtain ⟨hA, hU, hF⟩ := HFN.out
    have hws : w.heap.size ≤ w7.heap.size := by have := HUB.out.size; simpa using this
    have hvk : ∀ k, v7.ownBlock = some k → w.heap.size ≤ k ∧ k < w7.heap.size := fun k hk => by
      have h1 : (w.setCell ⟨p, 3, none⟩ (.bool false)).heap.size ≤ k := HK7.out k hk
      have h2 := OwnS.lt HO7.out k hk
      simp at h1
      exact ⟨h1, h2⟩
    refine ⟨_, rfl, _, hA, ?_, ?_, fun k hk => ?_, ?_, fun k hk => ?_⟩
    · rw [HAB.out, HRES.out, HFS.out]
      unfold RS.abs
      simp [Gr.abs]
    · refine (HUB.out.mono (fun k e => ?_)).then_ hU (fun k hk => ?_)
      · subst e
        exact foot_p _ _
      · rcases hk with hk | hk
        · subst hk
          exact .inl (foot_p _ _)
        · exact .inl (.inr (.inl hk))
    · rcases hF k hk with e | e
      · exact .inl (HF7.out k e)
      · exact .inr (by simp at e; omega)
    · rw [HCA.out]
      have hu8 : Upd (fun k => k = p ∨ s.uv.ownBlock = some k) w7 (w5.setCell ⟨p, 1, none⟩ (.slice A5 (n2 + 1) c5)) :=
        (((Upd.refl (fun k => k = p ∨ s.uv.ownBlock = some k) w7).setCell (p := ⟨p, 4, none⟩) (.inl (.inl rfl)) (.slice (some ⟨g3, off3, none⟩) f cc))).then_ hU (fun k hk => .inl hk)
      have h9 := OwnS.upd HO7.out hu8 (fun k hk e => by
        obtain ⟨h1, h2⟩ := hvk k hk
        rcases e with e | e
        · have := HA.out.blk.lt
          omega
        · have := HA.out.u.lt k e
          omega)
      exact h9
    · obtain ⟨h1, h2⟩ := hvk k hk
      refine ⟨h1, fun hf => ?_⟩
      rcases hF k hf with e | e
      · have := HA.out.lt k (HF7.out k e)
        omega
      · simp at e
        omega
end
end RefL
end Go.Proofs.YtkpcnfchhnfpoaaDoor
/- The document's log: each method told once. -/
set_option linter.unusedVariables false
namespace Go.Proofs.YtkpcnfchhnfpoaaDoor
open Go.RowKit Go.Proofs.YtkpcnfchhnfpoaaDoorW.PrintWords Go.Proofs.YtkpcnfchhnfpoaaDoor.Sep Log
open LogI (Gr g0 ls_cases)
namespace RefL
section
variable {w w' w1 w5 W : World} {p : Nat} {s s' : RS} {S : Nat → Prop} {init : List Gr} {g : Gr} {v5 : Value} {N : Nat}
theorem begin_a (h : RAt w p s) (x : A) (b : Bool) (hb : (!s.abs.isOpen) = b) (a : AS A) (ha : s.abs.begin_ zA x = a) : Calls Tryd.prog 60 #[.pointer (some ⟨p, 0, none⟩), .int .i64 x] w fun e w' => e = .returned (.bool b) ∧ Left w w' p s a := by
  rw [abs_open] at hb
  subst hb; subst ha
  cases ho : s.op with
  | true =>
    refine (begin_no h ho x).mono ?_
    rintro e w' ⟨rfl, rfl⟩
    exact ⟨rfl, s, h, by unfold RS.abs AS.begin_; rw [ho]; rfl, Upd.refl _ _, Fr.refl _ _ _⟩
  | false => exact begin_yes h ho x
theorem resume_a (h : RAt w p s) (hi : AS.Inv N s.abs) (hN : N ≤ 100000000000) (b : Bool) (hb : s.abs.resumeG.isSome = b) (a : AS A) (ha : s.abs.resume = a) : Calls Tryd.prog 61 #[.pointer (some ⟨p, 0, none⟩)] w fun e w' => e = .returned (.bool b) ∧ Left w w' p s a := by
  obtain ⟨hb1, hb2, hb3, hb4, hb5⟩ := bounds hi hN
  subst hb; subst ha
  have same : ∀ (e : s.abs.resumeG = none), (Calls Tryd.prog 61 #[.pointer (some ⟨p, 0, none⟩)] w fun e w' => e = .returned (.bool false) ∧ w = w') → Calls Tryd.prog 61 #[.pointer (some ⟨p, 0, none⟩)] w fun e w' => e = .returned (.bool s.abs.resumeG.isSome) ∧ Left w w' p s s.abs.resume := by
    intro e hc
    refine hc.mono ?_
    rintro e1 w' ⟨rfl, rfl⟩
    refine ⟨by rw [e]; rfl, s, h, ?_, Upd.refl _ _, Fr.refl _ _ _⟩
    unfold AS.resume
    rw [e]
  cases ho : s.op with
  | true => exact same (by unfold AS.resumeG RS.abs; simp [ho]) (resume_open h ho)
  | false =>
    rcases ls_cases s.redo with hr | ⟨i, g, hr⟩
    · rcases ls_cases s.undo with hu | ⟨i, g, hu⟩
      · exact same (by unfold AS.resumeG RS.abs; simp [ho, hr, hu]) (resume_none h ho hr hu)
      · refine (resume_yes h ho i g hu hr (by rw [hu] at hb2; simp at hb2; omega)).mono ?_
        rintro e w' ⟨rfl, h2⟩
        refine ⟨?_, h2⟩
        unfold AS.resumeG RS.abs
        simp [ho, hr, hu]
    · exact same (by unfold AS.resumeG RS.abs; simp [ho, hr]) (resume_redo h ho (by rw [hr]; simp))
theorem add_a (h : RAt w p s) (hi : AS.Inv N s.abs) (A : Option Addr) (n c : Nat) (ds : List Delta) (hr : ReadsD w w.heap.size A n ds) (hN : N + n ≤ 100000000000) (b : Bool) (hb : s.abs.isOpen = b) (a : AS RefL.A) (ha : s.abs.add ds = a) :
    Calls Tryd.prog 62 #[.pointer (some ⟨p, 0, none⟩), .slice A n c] w fun e w' => e = .returned (.bool b) ∧ Left w w' p s a := by
  obtain ⟨hb1, hb2, hb3, hb4, hb5⟩ := bounds hi (by omega)
  rw [abs_open] at hb
  subst hb; subst ha
  cases ho : s.op with
  | false =>
    refine (add_no h ho _).mono ?_
    rintro e w' ⟨rfl, rfl⟩
    exact ⟨rfl, s, h, by unfold RS.abs AS.add; rw [ho]; rfl, Upd.refl _ _, Fr.refl _ _ _⟩
  | true => exact add_yes h ho A n c ds hr (by have := (hb5 ho).1; omega)
theorem commit_a (h : RAt w p s) (hi : AS.Inv N s.abs) (hN : N ≤ 100000000000) (x : A) (b : Bool) (hb : s.abs.commitB = b) (a : AS A) (ha : s.abs.commit x = a) : Calls Tryd.prog 63 #[.pointer (some ⟨p, 0, none⟩), .int .i64 x] w fun e w' => e = .returned (.bool b) ∧ Left w w' p s a := by
  obtain ⟨hb1, hb2, hb3, hb4, hb5⟩ := bounds hi hN
  subst hb; subst ha
  cases ho : s.op with
  | false =>
    refine (commit_no h ho x).mono ?_
    rintro e w' ⟨rfl, rfl⟩
    exact ⟨by unfold RS.abs AS.commitB; rw [ho]; rfl, s, h, by unfold RS.abs AS.commit; rw [ho]; rfl, Upd.refl _ _, Fr.refl _ _ _⟩
  | true =>
    by_cases hd : s.now.ds = []
    · refine (commit_empty h ho hd x).mono ?_
      rintro e w' ⟨rfl, h2⟩
      exact ⟨by unfold RS.abs AS.commitB; simp [ho, Gr.abs, hd], h2⟩
    · refine (commit_yes h ho hd x (by omega)).mono ?_
      rintro e w' ⟨rfl, h2⟩
      exact ⟨by unfold RS.abs AS.commitB; simp [ho, Gr.abs, hd], h2⟩
theorem cancel_a (h : RAt w p s) (hi : AS.Inv N s.abs) (hN : N ≤ 100000000000) (b : Bool) (hb : s.abs.isOpen = b) (ds : List Delta) (hd : s.abs.cancelL = ds) (a : AS A) (ha : s.abs.cancel = a) : Calls Tryd.prog 64 #[.pointer (some ⟨p, 0, none⟩)] w fun e w' => ∃ v, e = .returned (.tuple #[v, .bool b]) ∧ LeftL w w' p s a v ds := by
  obtain ⟨hb1, hb2, hb3, hb4, hb5⟩ := bounds hi hN
  rw [abs_open] at hb
  subst hb; subst ha; subst hd
  cases ho : s.op with
  | false =>
    refine (cancel_no h ho).mono ?_
    rintro e w' ⟨rfl, rfl⟩
    refine ⟨_, rfl, ?_⟩
    rw [show s.abs.cancelL = [] by unfold RS.abs AS.cancelL; rw [ho]; rfl, show s.abs.cancel = s.abs by unfold RS.abs AS.cancel; rw [ho]; rfl]
    exact ⟨s, h, rfl, Upd.refl _ _, Fr.refl _ _ _, OwnS.nil _ _ _, fun k hk => by cases hk⟩
  | true =>
    obtain ⟨hn, hf⟩ := hb5 ho
    have hnl : s.now.ds.length ≤ 1000000000000 := by omega
    have hul : s.undo.length ≤ 2000 := by omega
    have hm := h.d s.now (by simp [RS.groups])
    rcases Nat.lt_or_ge s.had s.now.ds.length with hlt | hge
    · obtain ⟨g3, off3, cc, hv, hnc, _⟩ := OwnS.some_ hm (by omega)
      cases hr : s.res with
      | false => exact cancel_more_false h ho hr g3 off3 s.had s.now.ds.length cc hlt hnc hv rfl rfl hf hnl hul
      | true => exact cancel_more_true h ho hr g3 off3 s.had s.now.ds.length cc hlt hnc hv rfl rfl hf hnl hul
    · have hN2 : s.now.ds.length = s.had := by omega
      have hD : s.now.ds.drop s.had = [] := List.drop_eq_nil_of_le (by omega)
      rcases hm.2 with ⟨hv, h0⟩ | ⟨g3, off3, cap, cur, hv, _, hl, _⟩
      · have hf0 : s.had = 0 := by omega
        cases hr : s.res with
        | false => exact cancel_nil_false h ho hr hv hf0 hD h0 hf hnl hul
        | true => exact cancel_nil_true h ho hr hv hf0 hD h0 hf hnl hul
      · rcases Nat.lt_or_ge s.had cap with hc | hc
        · obtain ⟨c2, hc2⟩ : ∃ c2, cap = s.had + (c2 + 1) := ⟨cap - s.had - 1, by omega⟩
          rw [hN2, hc2] at hv
          cases hr : s.res with
          | false => exact cancel_end2_false h ho hr g3 off3 s.had c2 hv rfl hD hN2 hf hnl hul
          | true => exact cancel_end2_true h ho hr g3 off3 s.had c2 hv rfl hD hN2 hf hnl hul
        · have hc2 : cap = s.had := by omega
          rw [hN2, hc2] at hv
          cases hr : s.res with
          | false => exact cancel_end1_false h ho hr g3 off3 s.had hv rfl hD hN2 hf hnl hul
          | true => exact cancel_end1_true h ho hr g3 off3 s.had hv rfl hD hN2 hf hnl hul
theorem undo_a (h : RAt w p s) (hi : AS.Inv N s.abs) (hN : N ≤ 100000000000) (ds : List Delta) (hd : s.abs.undoL = ds) (x : A) (hx : s.abs.undoA zA = x) (c : Int) (hc : s.abs.undoE = c) (a : AS A) (ha : s.abs.undo_ = a) : Calls Tryd.prog 65 #[.pointer (some ⟨p, 0, none⟩)] w fun e w' => ∃ v, e = .returned (.tuple #[v, .int .i64 x, .int .i64 c]) ∧ LeftL w w' p s a v ds := by
  obtain ⟨hb1, hb2, hb3, hb4, hb5⟩ := bounds hi hN
  subst hd; subst hx; subst hc; subst ha
  have none_ : s.abs.undoG = none → (Calls Tryd.prog 65 #[.pointer (some ⟨p, 0, none⟩)] w fun e w' => e = .returned (.tuple #[.slice none 0 0, .int .i64 zA, .int .i64 3]) ∧ w = w') → Calls Tryd.prog 65 #[.pointer (some ⟨p, 0, none⟩)] w fun e w' => ∃ v, e = .returned (.tuple #[v, .int .i64 (s.abs.undoA zA), .int .i64 s.abs.undoE]) ∧ LeftL w w' p s s.abs.undo_ v s.abs.undoL := fun e hc => by
    refine hc.mono ?_
    rintro e1 w' ⟨rfl, hw⟩
    unfold AS.undoL AS.undoA AS.undoE AS.undo_
    rw [e]
    exact ⟨_, rfl, LeftL.same h hw _ rfl⟩
  cases ho : s.op with
  | true => exact none_ (by unfold AS.undoG RS.abs; simp [ho]) (undo_open h ho)
  | false =>
    rcases ls_cases s.undo with hu | ⟨i, g, hu⟩
    · exact none_ (by unfold AS.undoG RS.abs; simp [ho, hu]) (undo_none h ho hu)
    · have e : s.abs.undoG = some g.abs := by unfold AS.undoG RS.abs; simp [ho, hu]
      refine (undo_some h ho i g hu (by omega) (by rw [hu] at hb2; simp at hb2; omega) (by have := hb4 g (by rw [hu]; simp); omega)).mono ?_
      rintro e1 w' ⟨v, rfl, s', h3, h4, h5, h6, h1, h2⟩
      refine ⟨v, ?_, s', h3, h4, h5, h6, ?_, h2⟩
      · unfold AS.undoA AS.undoE
        rw [e]
        rfl
      · unfold AS.undoL
        rw [e]
        exact h1
theorem redo_a (h : RAt w p s) (hi : AS.Inv N s.abs) (hN : N ≤ 100000000000) (ds : List Delta) (hd : s.abs.redoL = ds) (x : A) (hx : s.abs.redoA zA = x) (c : Int) (hc : s.abs.redoE = c) (a : AS A) (ha : s.abs.redo_ = a) : Calls Tryd.prog 66 #[.pointer (some ⟨p, 0, none⟩)] w fun e w' => ∃ v, e = .returned (.tuple #[v, .int .i64 x, .int .i64 c]) ∧ LeftL w w' p s a v ds := by
  obtain ⟨hb1, hb2, hb3, hb4, hb5⟩ := bounds hi hN
  subst hd; subst hx; subst hc; subst ha
  have none_ : s.abs.redoG = none → (Calls Tryd.prog 66 #[.pointer (some ⟨p, 0, none⟩)] w fun e w' => e = .returned (.tuple #[.slice none 0 0, .int .i64 zA, .int .i64 4]) ∧ w = w') → Calls Tryd.prog 66 #[.pointer (some ⟨p, 0, none⟩)] w fun e w' => ∃ v, e = .returned (.tuple #[v, .int .i64 (s.abs.redoA zA), .int .i64 s.abs.redoE]) ∧ LeftL w w' p s s.abs.redo_ v s.abs.redoL := fun e hc => by
    refine hc.mono ?_
    rintro e1 w' ⟨rfl, hw⟩
    unfold AS.redoL AS.redoA AS.redoE AS.redo_
    rw [e]
    exact ⟨_, rfl, LeftL.same h hw _ rfl⟩
  cases ho : s.op with
  | true => exact none_ (by unfold AS.redoG RS.abs; simp [ho]) (redo_open h ho)
  | false =>
    rcases ls_cases s.redo with hu | ⟨i, g, hu⟩
    · exact none_ (by unfold AS.redoG RS.abs; simp [ho, hu]) (redo_none h ho hu)
    · have e : s.abs.redoG = some g.abs := by unfold AS.redoG RS.abs; simp [ho, hu]
      refine (redo_some h ho i g hu (by omega) (by rw [hu] at hb3; simp at hb3; omega) (by have := hb4 g (by rw [hu]; simp); omega)).mono ?_
      rintro e1 w' ⟨v, rfl, s', h3, h4, h5, h6, h1, h2⟩
      refine ⟨v, ?_, s', h3, h4, h5, h6, ?_, h2⟩
      · unfold AS.redoA AS.redoE
        rw [e]
        rfl
      · unfold AS.redoL
        rw [e]
        exact h1
theorem clear_a (h : RAt w p s) : Calls Tryd.prog 67 #[.pointer (some ⟨p, 0, none⟩)] w fun e w' => e = .returned (.tuple #[]) ∧ Left w w' p s s.abs.clear := clear_ h
end
end RefL
end Go.Proofs.YtkpcnfchhnfpoaaDoor
/- The document's log in new memory. -/
set_option linter.unusedVariables false
namespace Go.Proofs.YtkpcnfchhnfpoaaDoor
open Go.RowKit Go.Proofs.YtkpcnfchhnfpoaaDoorW.PrintWords Go.Proofs.YtkpcnfchhnfpoaaDoor.Sep Log
namespace RefL
/-- A log in state a in memory newer than w0. -/
structure LB (w0 w : World) (p : Nat) (s : RS) (a : AS A) (N : Nat) : Prop where
  at_ : RAt w p s
  abs : s.abs = a
  new : ∀ k, foot p s k → w0.heap.size ≤ k
  below : Below w0.heap.size w0 w
  inv : AS.Inv N a
  small : N ≤ 100000000000
section
variable {w0 w w' : World} {p : Nat} {s s' : RS} {a a' : AS A} {N M : Nat} {S : Nat → Prop}
/-- What a call on the box leaves. -/
def Box (w0 w w' : World) (p : Nat) (s : RS) (a : AS A) (N : Nat) : Prop := ∃ s', LB w0 w' p s' a N ∧ Upd (foot p s) w w' ∧ Fr w p s s'
def BoxL (w0 w w' : World) (p : Nat) (s : RS) (a : AS A) (N : Nat) (v : Value) (ds : List Delta) : Prop := ∃ s', LB w0 w' p s' a N ∧ Upd (foot p s) w w' ∧ Fr w p s s' ∧ OwnD w' v ds ∧ ∀ k, v.ownBlock = some k → w.heap.size ≤ k ∧ ¬ foot p s' k
theorem LB.left (h : LB w0 w p s a N) (hl : Left w w' p s a') (hi : AS.Inv M a') (hm : M ≤ 100000000000) : Box w0 w w' p s a' M := by
  obtain ⟨s', h1, h2, h3, h4⟩ := hl
  exact ⟨s', ⟨h1, h2, fun k hk => (h4 k hk).elim (h.new k) (fun e => Nat.le_trans h.below.size e), h.below.trans (h3.toBelow h.below.size h.new), hi, hm⟩, h3, h4⟩
theorem LB.leftL (h : LB w0 w p s a N) {v : Value} {ds : List Delta} (hl : LeftL w w' p s a' v ds) (hi : AS.Inv M a') (hm : M ≤ 100000000000) : BoxL w0 w w' p s a' M v ds := by
  obtain ⟨s', h1, h2, h3, h4, h5, h6⟩ := hl
  exact ⟨s', ⟨h1, h2, fun k hk => (h4 k hk).elim (h.new k) (fun e => Nat.le_trans h.below.size e), h.below.trans (h3.toBelow h.below.size h.new), hi, hm⟩, h3, h4, h5, h6⟩
theorem LB.later (h : LB w0 w p s a N) (hb : Below w.heap.size w w') : LB w0 w' p s a N :=
  ⟨h.at_.below hb, h.abs, h.new, h.below.trans (hb.mono h.below.size), h.inv, h.small⟩
theorem LB.beside (h : LB w0 w p s a N) (hu : Upd S w w') (hd : ∀ k, S k → w0.heap.size ≤ k ∧ ¬ foot p s k) : LB w0 w' p s a N :=
  ⟨h.at_.upd hu (fun k hk hs => (hd k hs).2 hk), h.abs, h.new, h.below.trans (hu.toBelow h.below.size (fun k hk => (hd k hk).1)), h.inv, h.small⟩
theorem LB.drewN (h : LB w0 w p s a N) (n : Nat) : LB w0 (w.drewN n) p s a N := ⟨h.at_.below (Below.drewN' (Below.refl _ _) n), h.abs, h.new, Below.drewN' h.below n, h.inv, h.small⟩
theorem LB.drew (h : LB w0 w p s a N) : LB w0 w.drew p s a N := ⟨h.at_.below ⟨rfl, rfl, rfl, Nat.le_refl _, fun _ _ => rfl⟩, h.abs, h.new, ⟨h.below.os, h.below.tape, h.below.output, h.below.size, h.below.block⟩, h.inv, h.small⟩
theorem new_b (n : Int) (hb : Below w0.heap.size w0 w) (a : AS A) (ha : AS.new (min (max n 0) 1000).toNat = a) (N : Nat) (hN : N ≤ 100000000000) : Calls Tryd.prog 28 #[.int .i64 n] w fun e w' => ∃ p s, e = .returned (.pointer (some ⟨p, 0, none⟩)) ∧ LB w0 w' p s a N ∧ (∀ k, foot p s k → w.heap.size ≤ k) ∧ Below w.heap.size w w' := by
  subst ha
  refine (new_ w n).mono ?_
  rintro e w' ⟨p, s, rfl, h1, h2, h3, h4⟩
  exact ⟨p, s, rfl, ⟨h1, h2, fun k hk => Nat.le_trans hb.size (h3 k hk), hb.trans (h4.mono hb.size), AS.Inv.new _ (by omega) N, hN⟩, h3, h4⟩
theorem begin_b (h : LB w0 w p s a N) (x : A) (b : Bool) (hb : (!a.isOpen) = b) (a' : AS A) (ha : a.begin_ zA x = a') : Calls Tryd.prog 60 #[.pointer (some ⟨p, 0, none⟩), .int .i64 x] w fun e w' => e = .returned (.bool b) ∧ Box w0 w w' p s a' N := by
  refine (begin_a h.at_ x b (by rw [h.abs]; exact hb) a' (by rw [h.abs]; exact ha)).mono ?_
  rintro e w' ⟨rfl, hl⟩
  exact ⟨rfl, h.left hl (by rw [← ha]; exact h.inv.begin_ _ _) h.small⟩
theorem resume_b (h : LB w0 w p s a N) (b : Bool) (hb : a.resumeG.isSome = b) (a' : AS A) (ha : a.resume = a') : Calls Tryd.prog 61 #[.pointer (some ⟨p, 0, none⟩)] w fun e w' => e = .returned (.bool b) ∧ Box w0 w w' p s a' N := by
  refine (resume_a h.at_ (N := N) (by rw [h.abs]; exact h.inv) h.small b (by rw [h.abs]; exact hb) a' (by rw [h.abs]; exact ha)).mono ?_
  rintro e w' ⟨rfl, hl⟩
  exact ⟨rfl, h.left hl (by rw [← ha]; exact h.inv.resume) h.small⟩
theorem add_b (h : LB w0 w p s a N) (A : Option Addr) (n c : Nat) (ds : List Delta) (hr : ReadsD w w.heap.size A n ds) (hN : N + n ≤ 100000000000) (b : Bool) (hb : a.isOpen = b) (a' : AS RefL.A) (ha : a.add ds = a') :
    Calls Tryd.prog 62 #[.pointer (some ⟨p, 0, none⟩), .slice A n c] w fun e w' => e = .returned (.bool b) ∧ Box w0 w w' p s a' (N + n) := by
  refine (add_a h.at_ (N := N) (by rw [h.abs]; exact h.inv) A n c ds hr hN b (by rw [h.abs]; exact hb) a' (by rw [h.abs]; exact ha)).mono ?_
  rintro e w' ⟨rfl, hl⟩
  exact ⟨rfl, h.left hl (by rw [← ha, ← hr.1]; exact h.inv.add _) hN⟩
theorem commit_b (h : LB w0 w p s a N) (x : A) (b : Bool) (hb : a.commitB = b) (a' : AS A) (ha : a.commit x = a') : Calls Tryd.prog 63 #[.pointer (some ⟨p, 0, none⟩), .int .i64 x] w fun e w' => e = .returned (.bool b) ∧ Box w0 w w' p s a' N := by
  refine (commit_a h.at_ (N := N) (by rw [h.abs]; exact h.inv) h.small x b (by rw [h.abs]; exact hb) a' (by rw [h.abs]; exact ha)).mono ?_
  rintro e w' ⟨rfl, hl⟩
  exact ⟨rfl, h.left hl (by rw [← ha]; exact h.inv.commit _) h.small⟩
theorem cancel_b (h : LB w0 w p s a N) (b : Bool) (hb : a.isOpen = b) (ds : List Delta) (hd : a.cancelL = ds) (a' : AS A) (ha : a.cancel = a') : Calls Tryd.prog 64 #[.pointer (some ⟨p, 0, none⟩)] w fun e w' => ∃ v, e = .returned (.tuple #[v, .bool b]) ∧ BoxL w0 w w' p s a' N v ds := by
  refine (cancel_a h.at_ (N := N) (by rw [h.abs]; exact h.inv) h.small b (by rw [h.abs]; exact hb) ds (by rw [h.abs]; exact hd) a' (by rw [h.abs]; exact ha)).mono ?_
  rintro e w' ⟨v, rfl, hl⟩
  exact ⟨v, rfl, h.leftL hl (by rw [← ha]; exact h.inv.cancel) h.small⟩
theorem undo_b (h : LB w0 w p s a N) (ds : List Delta) (hd : a.undoL = ds) (x : A) (hx : a.undoA zA = x) (c : Int) (hc : a.undoE = c) (a' : AS A) (ha : a.undo_ = a') : Calls Tryd.prog 65 #[.pointer (some ⟨p, 0, none⟩)] w fun e w' => ∃ v, e = .returned (.tuple #[v, .int .i64 x, .int .i64 c]) ∧ BoxL w0 w w' p s a' N v ds := by
  refine (undo_a h.at_ (N := N) (by rw [h.abs]; exact h.inv) h.small ds (by rw [h.abs]; exact hd) x (by rw [h.abs]; exact hx) c (by rw [h.abs]; exact hc) a' (by rw [h.abs]; exact ha)).mono ?_
  rintro e w' ⟨v, rfl, hl⟩
  exact ⟨v, rfl, h.leftL hl (by rw [← ha]; exact h.inv.undo_) h.small⟩
theorem redo_b (h : LB w0 w p s a N) (ds : List Delta) (hd : a.redoL = ds) (x : A) (hx : a.redoA zA = x) (c : Int) (hc : a.redoE = c) (a' : AS A) (ha : a.redo_ = a') : Calls Tryd.prog 66 #[.pointer (some ⟨p, 0, none⟩)] w fun e w' => ∃ v, e = .returned (.tuple #[v, .int .i64 x, .int .i64 c]) ∧ BoxL w0 w w' p s a' N v ds := by
  refine (redo_a h.at_ (N := N) (by rw [h.abs]; exact h.inv) h.small ds (by rw [h.abs]; exact hd) x (by rw [h.abs]; exact hx) c (by rw [h.abs]; exact hc) a' (by rw [h.abs]; exact ha)).mono ?_
  rintro e w' ⟨v, rfl, hl⟩
  exact ⟨v, rfl, h.leftL hl (by rw [← ha]; exact h.inv.redo_) h.small⟩
theorem clear_b (h : LB w0 w p s a N) (a' : AS A) (ha : a.clear = a') : Calls Tryd.prog 67 #[.pointer (some ⟨p, 0, none⟩)] w fun e w' => e = .returned (.tuple #[]) ∧ Box w0 w w' p s a' N := by
  subst ha
  refine (clear_a h.at_).mono ?_
  rintro e w' ⟨rfl, hl⟩
  rw [h.abs] at hl
  exact ⟨rfl, h.left hl h.inv.clear h.small⟩
end
end RefL
end Go.Proofs.YtkpcnfchhnfpoaaDoor
