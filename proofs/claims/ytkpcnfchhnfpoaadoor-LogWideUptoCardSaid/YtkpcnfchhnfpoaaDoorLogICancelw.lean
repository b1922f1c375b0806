/- A log's Cancel, walked. Printed by a program of this claim. -/
import Derived.Test.YtkpcnfchhnfpoaaDoorLogICancel
import Derived.Handy
import Derived.WalkSpells
import Derived.WalkLawsBesides
import Derived.Deep.RegionHeld3
import Derived.LoopTactic
import Derived.BigQuiet
import Derived.IntWalk
import Derived.StillTailTactics
set_option linter.unusedVariables false
namespace Go.Proofs.YtkpcnfchhnfpoaaDoor
open Go.RowKit Go.Proofs.YtkpcnfchhnfpoaaDoorW.PrintWords Go.Proofs.YtkpcnfchhnfpoaaDoor.Sep Log
namespace LogI
section
variable {w w' w1 w5 W : World} {p : Nat} {s s' : LS} {S : Nat → Prop} {init : List Gr} {g : Gr} {v5 : Value}
set_option maxHeartbeats 3200000
set_option maxRecDepth 100000
theorem reads_nil (w : World) (B : Nat) (A : Option Addr) : ReadsD w B A 0 [] := ⟨rfl, Reads.none_⟩
theorem gdr {w w' : World} {row : Option Nat} (h : w.drew.drew.grownBy w' row) : w.grownBy w' row := ⟨h.os, h.tape, h.output, h.size, h.block⟩
theorem below_of_drew {w w' : World} (h : Below w.drew.heap.size w.drew w') : Below w.heap.size w w' := ⟨h.os, h.tape, h.output, h.size, h.block⟩

theorem cancel_nil_false (h : At w p s) (ho : s.op = true) (hres : s.res = false) (hdv : s.now.dv = .slice none 0 0) (hfs : s.fst = 0) (hD : s.now.ds.drop s.fst = []) (hN : s.now.ds.length = 0) (hf : s.fst ≤ s.now.ds.length) (hn : s.now.ds.length ≤ 1000000000000) (hun : s.undo.length ≤ 2000) :
    Calls Tryd.prog 46 #[.pointer (some ⟨p, 0, none⟩)] w fun e w' => ∃ v s', e = .returned (.tuple #[v, .bool true]) ∧ OwnD w' v s.abs.cancelL ∧ (∀ k, v.ownBlock = some k → w.heap.size ≤ k ∧ ¬ foot p s' k) ∧ At w' p s' ∧ s'.abs = s.abs.cancel ∧ Upd (foot p s) w w' ∧ Fr w p s s' := by
  obtain ⟨i0, hi0, hz0, hz1, hz2⟩ := info_parts info_g
  obtain ⟨_, _, _, _, _, _, c6, -⟩ := h.cells
  rw [ho] at c6
  have hpw := h.blk.lt
  have HC := close_ h
  rw [hdv] at HC
  have HCL := Lib.hid HC
  have HCA : Hid (s.abs.cancelL = back (s.now.ds.drop s.fst)) := Lib.hid (by unfold LS.abs AS.cancelL; dsimp only; rw [ho]; rfl)
  have HAB : Hid (s.abs.cancel = _) := Lib.hid (show s.abs.cancel = { s.abs with cur := none, undo := if s.res = true then s.abs.undo ++ [{ s.now.abs with ds := s.now.ds.take s.fst }] else s.abs.undo } by unfold LS.abs AS.cancel; dsimp only; rw [ho]; rfl)
  have HO := Lib.hid ho
  have HA := Lib.hid h
  have HDV := Lib.hid hdv
  have HRES := Lib.hid hres
  have HFS := Lib.hid hfs
  have HF := Lib.hid hf
  have HN := Lib.hid hn
  have HLN := Lib.hid hN
  obtain ⟨A2, cr, huv, hul⟩ := h.u.form
  have HUV := Lib.hid huv
  obtain ⟨n2, hn2⟩ : ∃ n2, n2 = s.undo.length := ⟨_, rfl⟩
  have HN2 := Lib.hid hn2
  have hn3 : n2 ≤ 2000 := by omega
  have HD := Lib.hid hD
  clear hD
  clear h ho hdv hres hfs hf hn hN HC huv hn2 hul hun
  go_enter Tryd.func46, Tryd.ntmps46
  go_wp2_with (go_at_call 68; refine HCL.out.mono ?_; rintro e w1 ⟨rfl, hb, hu⟩; have d6 := hb.cell 8; have df := hb.frozen; simp only [LS.cells, List.getElem?_toArray, List.getElem?_cons_succ, List.getElem?_cons_zero] at d6; rw [HFS.out] at d6; have hp1 := hb.lt; have HB1 := Lib.hid hb; have HU1 := Lib.hid hu; clear hb hu)
  have HBq : Hid (Blk (w1.alloc (.cells #[.slice none 0 0, .int .i64 s.now.ah, .int .i64 s.now.be] 81)) w1.heap.size 81 #[.slice none 0 0, .int .i64 s.now.ah, .int .i64 s.now.be]) := Lib.hid (Blk.new w1 _ _)
  have HBp := Lib.hid (HB1.out.alloc (.cells #[.slice none 0 0, .int .i64 s.now.ah, .int .i64 s.now.be] 81))
  have HINV : Hid (∀ w0 : World, w0 = (w1.alloc (.cells #[.slice none 0 0, .int .i64 s.now.ah, .int .i64 s.now.be] 81)).drew → ∀ A' n' c', ReadsD (w1.alloc (.cells #[.slice none 0 0, .int .i64 s.now.ah, .int .i64 s.now.be] 81)) (w1.alloc (.cells #[.slice none 0 0, .int .i64 s.now.ah, .int .i64 s.now.be] 81)).heap.size A' n' [] → Calls Tryd.prog 59 #[.slice A' n' c'] w0 _) := Lib.hid (fun w0 e A' n' c' hr => by subst e; exact inverted_p (w1.alloc (.cells #[.slice none 0 0, .int .i64 s.now.ah, .int .i64 s.now.be] 81)).drew A' n' c' [] hr (by rw [← hr.1]; simp))
  have m0 := HBq.out.cell 0
  have m6 := HBp.out.cell 8
  simp only [LS.cells, List.getElem?_toArray, List.getElem?_cons_succ, List.getElem?_cons_zero] at m0 m6
  rw [HFS.out] at m6
  go_region_held3 (fun w' => w'.cell? ⟨w1.heap.size, 0, none⟩ = some (.slice none 0 0) ∧ w'.cell? ⟨p, 8, none⟩ = some (.int .i64 ((0 : Nat) : Int)))
    (first | go_keep | exact ⟨l0, e6⟩ | exact ⟨m0, m6⟩)
    ((go_at_call 59; refine (HINV.out _ rfl _ _ _ (reads_nil _ _ _)).mono ?_; rintro e w7 ⟨v7, rfl, ho7, hk7, hb7⟩; have hb7 := below_of_drew hb7; have hp7 := HBp.out.upd (Upd.below hb7 No) (fun h => h); have hq7 := HBq.out.upd (Upd.below hb7 No) (fun h => h); have e1 := hp7.cell 1; have e5 := hp7.cell 7; have e6 := hp7.cell 8; have ef := hp7.frozen; have lf := hq7.frozen; have l0 := hq7.cell 0; have l1 := hq7.cell 1; have l2 := hq7.cell 2; simp only [LS.cells, List.getElem?_toArray, List.getElem?_cons_succ, List.getElem?_cons_zero] at e1 e5 e6 l0 l1 l2; rw [HUV.out, ← HN2.out] at e1; rw [HRES.out] at e5; rw [HFS.out] at e6; have hlp := hp7.lt; have hlq := hq7.lt; have HP7 := Lib.hid hp7; have HQ7 := Lib.hid hq7; have HO7 := Lib.hid ho7; have HK7 := Lib.hid hk7; have HW7 := Lib.hid hb7; clear ho7 hk7 hb7 hp7 hq7))
  go_wp2
  go_ret2
  have hub : Upd (fun k => k = p) w w7 := (HU1.out.alloc _).then_ (Upd.below HW7.out No) (fun k hk => hk.elim)
  refine ⟨_, _, rfl, ?_, fun k hk => ?_, HA.out.closed hub HP7.out, ?_, Upd.foot1 hub, Fr.top rfl rfl rfl rfl (.inr rfl)⟩
  · rw [HCA.out]
    rw [HD.out]
    exact HO7.out
  · have h1 : (w1.alloc (.cells #[.slice none 0 0, .int .i64 s.now.ah, .int .i64 s.now.be] 81)).heap.size ≤ k := HK7.out k hk
    have h2 := HU1.out.size
    simp at h1
    refine ⟨by omega, fun hf => ?_⟩
    have h3 : At w1 p _ := HA.out.closed HU1.out HB1.out
    have := h3.lt k hf
    omega
  · rw [HAB.out, HRES.out]
    rfl

theorem cancel_nil_true (h : At w p s) (ho : s.op = true) (hres : s.res = true) (hdv : s.now.dv = .slice none 0 0) (hfs : s.fst = 0) (hD : s.now.ds.drop s.fst = []) (hN : s.now.ds.length = 0) (hf : s.fst ≤ s.now.ds.length) (hn : s.now.ds.length ≤ 1000000000000) (hun : s.undo.length ≤ 2000) :
    Calls Tryd.prog 46 #[.pointer (some ⟨p, 0, none⟩)] w fun e w' => ∃ v s', e = .returned (.tuple #[v, .bool true]) ∧ OwnD w' v s.abs.cancelL ∧ (∀ k, v.ownBlock = some k → w.heap.size ≤ k ∧ ¬ foot p s' k) ∧ At w' p s' ∧ s'.abs = s.abs.cancel ∧ Upd (foot p s) w w' ∧ Fr w p s s' := by
  obtain ⟨i0, hi0, hz0, hz1, hz2⟩ := info_parts info_g
  obtain ⟨_, _, _, _, _, _, c6, -⟩ := h.cells
  rw [ho] at c6
  have hpw := h.blk.lt
  have HC := close_ h
  rw [hdv] at HC
  have HCL := Lib.hid HC
  have HCA : Hid (s.abs.cancelL = back (s.now.ds.drop s.fst)) := Lib.hid (by unfold LS.abs AS.cancelL; dsimp only; rw [ho]; rfl)
  have HAB : Hid (s.abs.cancel = _) := Lib.hid (show s.abs.cancel = { s.abs with cur := none, undo := if s.res = true then s.abs.undo ++ [{ s.now.abs with ds := s.now.ds.take s.fst }] else s.abs.undo } by unfold LS.abs AS.cancel; dsimp only; rw [ho]; rfl)
  have HO := Lib.hid ho
  have HA := Lib.hid h
  have HDV := Lib.hid hdv
  have HRES := Lib.hid hres
  have HFS := Lib.hid hfs
  have HF := Lib.hid hf
  have HN := Lib.hid hn
  have HLN := Lib.hid hN
  obtain ⟨A2, cr, huv, hul⟩ := h.u.form
  have HUV := Lib.hid huv
  obtain ⟨n2, hn2⟩ : ∃ n2, n2 = s.undo.length := ⟨_, rfl⟩
  have HN2 := Lib.hid hn2
  have hn3 : n2 ≤ 2000 := by omega
  have HD := Lib.hid hD
  clear hD
  clear h ho hdv hres hfs hf hn hN HC huv hn2 hul hun
  go_enter Tryd.func46, Tryd.ntmps46
  go_wp2_with (go_at_call 68; refine HCL.out.mono ?_; rintro e w1 ⟨rfl, hb, hu⟩; have d6 := hb.cell 8; have df := hb.frozen; simp only [LS.cells, List.getElem?_toArray, List.getElem?_cons_succ, List.getElem?_cons_zero] at d6; rw [HFS.out] at d6; have hp1 := hb.lt; have HB1 := Lib.hid hb; have HU1 := Lib.hid hu; clear hb hu)
  have HBq : Hid (Blk (w1.alloc (.cells #[.slice none 0 0, .int .i64 s.now.ah, .int .i64 s.now.be] 81)) w1.heap.size 81 #[.slice none 0 0, .int .i64 s.now.ah, .int .i64 s.now.be]) := Lib.hid (Blk.new w1 _ _)
  have HBp := Lib.hid (HB1.out.alloc (.cells #[.slice none 0 0, .int .i64 s.now.ah, .int .i64 s.now.be] 81))
  have HINV : Hid (∀ w0 : World, w0 = (w1.alloc (.cells #[.slice none 0 0, .int .i64 s.now.ah, .int .i64 s.now.be] 81)).drew → ∀ A' n' c', ReadsD (w1.alloc (.cells #[.slice none 0 0, .int .i64 s.now.ah, .int .i64 s.now.be] 81)) (w1.alloc (.cells #[.slice none 0 0, .int .i64 s.now.ah, .int .i64 s.now.be] 81)).heap.size A' n' [] → Calls Tryd.prog 59 #[.slice A' n' c'] w0 _) := Lib.hid (fun w0 e A' n' c' hr => by subst e; exact inverted_p (w1.alloc (.cells #[.slice none 0 0, .int .i64 s.now.ah, .int .i64 s.now.be] 81)).drew A' n' c' [] hr (by rw [← hr.1]; simp))
  have m0 := HBq.out.cell 0
  have m6 := HBp.out.cell 8
  simp only [LS.cells, List.getElem?_toArray, List.getElem?_cons_succ, List.getElem?_cons_zero] at m0 m6
  rw [HFS.out] at m6
  go_region_held3 (fun w' => w'.cell? ⟨w1.heap.size, 0, none⟩ = some (.slice none 0 0) ∧ w'.cell? ⟨p, 8, none⟩ = some (.int .i64 ((0 : Nat) : Int)))
    (first | go_keep | exact ⟨l0, e6⟩ | exact ⟨m0, m6⟩)
    ((go_at_call 59; refine (HINV.out _ rfl _ _ _ (reads_nil _ _ _)).mono ?_; rintro e w7 ⟨v7, rfl, ho7, hk7, hb7⟩; have hb7 := below_of_drew hb7; have hp7 := HBp.out.upd (Upd.below hb7 No) (fun h => h); have hq7 := HBq.out.upd (Upd.below hb7 No) (fun h => h); have e1 := hp7.cell 1; have e5 := hp7.cell 7; have e6 := hp7.cell 8; have ef := hp7.frozen; have lf := hq7.frozen; have l0 := hq7.cell 0; have l1 := hq7.cell 1; have l2 := hq7.cell 2; simp only [LS.cells, List.getElem?_toArray, List.getElem?_cons_succ, List.getElem?_cons_zero] at e1 e5 e6 l0 l1 l2; rw [HUV.out, ← HN2.out] at e1; rw [HRES.out] at e5; rw [HFS.out] at e6; have hlp := hp7.lt; have hlq := hq7.lt; have HP7 := Lib.hid hp7; have HQ7 := Lib.hid hq7; have HO7 := Lib.hid ho7; have HK7 := Lib.hid hk7; have HW7 := Lib.hid hb7; clear ho7 hk7 hb7 hp7 hq7))
  have hqp : ¬ p = w1.heap.size := by omega
  have hqp2 : ¬ w1.heap.size = p := by omega
  have hub : Upd (fun k => k = p) w w7 := (HU1.out.alloc _).then_ (Upd.below HW7.out No) (fun k hk => hk.elim)
  have hws : w.heap.size ≤ w1.heap.size := HU1.out.size
  have hWu : Upd (fun k => k = p) w ((w7.setCell ⟨w1.heap.size, 0, none⟩ (.slice none 0 0)).alloc (.cells #[.slice none 0 0, .int .i64 s.now.ah, .int .i64 s.now.be] 81)) := (hub.setCell (.inr hws) _).alloc _
  have hWB : Blk ((w7.setCell ⟨w1.heap.size, 0, none⟩ (.slice none 0 0)).alloc (.cells #[.slice none 0 0, .int .i64 s.now.ah, .int .i64 s.now.be] 81)) p 83 ({ s with now := g0, op := false } : LS).cells := (HP7.out.far (p := ⟨w1.heap.size, 0, none⟩) hqp _).alloc _
  have hor := HA.out.u.upd hWu (fun k hk e => HA.out.up (by rw [← e]; exact hk))
  rw [HUV.out, ← HN2.out] at hor
  have HOr := Lib.hid hor
  have hrn := reads_g (w7.setCell ⟨w1.heap.size, 0, none⟩ (.slice none 0 0)) ⟨.slice none 0 0, s.now.ds.take s.fst, s.now.ah, s.now.be⟩
  rw [show (w7.setCell ⟨w1.heap.size, 0, none⟩ (.slice none 0 0)).heap.size = w7.heap.size by simp [World.setCell]] at hrn
  have HRn := Lib.hid hrn
  have HC1 := Lib.hid (one_g ⟨.slice none 0 0, s.now.ds.take s.fst, s.now.ah, s.now.be⟩ _ _ _ rfl)
  have HFIN : Hid (∀ v5 w5, _ → _ → _ → _) := Lib.hid (fun v5 w5 => At.cancelled (v5 := v5) (w5 := w5) HA.out (A3 := none) (cd := 0) (HDV.out.trans (by rw [HLN.out])) HF.out hWu hWB)
  have HWu := Lib.hid hWu
  have HWB := Lib.hid hWB
  have HUP := Lib.hid HA.out.up
  clear hor hrn hWu hWB
  go_wp2
  go_region
  all_goals
    go_wp2
    go_region_law (first
      | (refine step_append_s (v := .slice A2 n2 cr) (by rfl) _ _ _ (by rfl) Tryd.underlying79 hi0 hz0 hz1 hz2 rfl (by omega) (by rfl) HOr.out (by rfl) HRn.out HC1.out (by unfold maxLen; omega) (by omega) ?_; intro v5 w5 ho5 hg5 hb5; have HO5 := Lib.hid ho5; have HG5 := Lib.hid (gdr hg5); have HB5 := Lib.hid hb5; have hb6 := HWB.out.upd (Upd.grown (S := fun k => (Value.slice A2 n2 cr).ownBlock = some k) HG5.out (fun k e => e)) (fun e => HUP.out (by rw [HUV.out, ← HN2.out]; exact e)); have f0 := hb6.cell 0; have f1 := hb6.cell 1; have ff := hb6.frozen; have hlp5 := hb6.lt; obtain ⟨A5, c5, hv5, hl5⟩ := HO5.out.form; subst hv5; clear ho5 hg5 hb5 hb6; simp only [LS.cells, List.getElem?_toArray, List.getElem?_cons_succ, List.getElem?_cons_zero] at f0 f1; rw [HUV.out, ← HN2.out] at f1))
  all_goals
    have hfin := HFIN.out (.slice A5 (n2 + 1) c5) w5 (by rw [← HN2.out]; show OwnS _ _ _ _ _ (_ ++ Gr.cells ⟨.slice _ s.fst s.fst, _, _, _⟩); rw [HFS.out]; exact HO5.out) (by rw [HUV.out, ← HN2.out]; exact HG5.out) (by rw [HUV.out, ← HN2.out]; exact HB5.out)
    have HFN := Lib.hid hfin
    clear hfin
    go_wp2
    go_ret2
    obtain ⟨hA, hU, hF, hF2⟩ := HFN.out
    have hvk : ∀ k, v7.ownBlock = some k → w1.heap.size < k ∧ k < w7.heap.size := fun k hk => by
      have h1 : (w1.alloc (.cells #[.slice none 0 0, .int .i64 s.now.ah, .int .i64 s.now.be] 81)).heap.size ≤ k := HK7.out k hk
      have h2 := OwnS.lt HO7.out k hk
      simp at h1
      omega
    refine ⟨_, _, rfl, ?_, fun k hk => ?_, hA, ?_, hU.mono (fun k hk => At.topFoot k hk), hF⟩
    · rw [HCA.out]
      have hu8 : Upd (fun k => k = w1.heap.size ∨ k = p ∨ s.uv.ownBlock = some k) w7 (w5.setCell ⟨p, 1, none⟩ (.slice A5 (n2 + 1) c5)) := by
        have a1 : Upd (fun k => k = w1.heap.size ∨ k = p ∨ s.uv.ownBlock = some k) w7 ((w7.setCell ⟨w1.heap.size, 0, none⟩ (.slice none 0 0)).alloc (.cells #[.slice none 0 0, .int .i64 s.now.ah, .int .i64 s.now.be] 81)) := ((Upd.refl _ _).setCell (.inl (.inl rfl)) _).alloc _
        have a2 := a1.trans (Upd.grown (S := fun k => k = w1.heap.size ∨ k = p ∨ s.uv.ownBlock = some k) HG5.out (fun k e => .inr (.inr (by rw [HUV.out, ← HN2.out]; exact e))))
        exact a2.setCell (.inl (.inr (.inl rfl))) _
      have h9 := OwnS.upd HO7.out hu8 (fun k hk e => by
        obtain ⟨h1, h2⟩ := hvk k hk
        rcases e with e | e | e
        · omega
        · omega
        · have := HA.out.u.lt k e
          omega)
      rw [HD.out]
      exact h9
    · obtain ⟨h1, h2⟩ := hvk k hk
      refine ⟨by omega, fun hf => ?_⟩
      rcases hF2 k hf with e | e
      · have := HA.out.lt k e
        omega
      · simp [World.setCell] at e
        omega
    · rw [HAB.out, HRES.out]
      unfold LS.back LS.abs
      simp [Gr.abs]

theorem cancel_end1_false (h : At w p s) (ho : s.op = true) (hres : s.res = false) (g3 off3 f : Nat) (hdv : s.now.dv = .slice (some ⟨g3, off3, none⟩) f f) (hfs : s.fst = f) (hD : s.now.ds.drop s.fst = []) (hN : s.now.ds.length = f) (hf : s.fst ≤ s.now.ds.length) (hn : s.now.ds.length ≤ 1000000000000) (hun : s.undo.length ≤ 2000) :
    Calls Tryd.prog 46 #[.pointer (some ⟨p, 0, none⟩)] w fun e w' => ∃ v s', e = .returned (.tuple #[v, .bool true]) ∧ OwnD w' v s.abs.cancelL ∧ (∀ k, v.ownBlock = some k → w.heap.size ≤ k ∧ ¬ foot p s' k) ∧ At w' p s' ∧ s'.abs = s.abs.cancel ∧ Upd (foot p s) w w' ∧ Fr w p s s' := by
  obtain ⟨i0, hi0, hz0, hz1, hz2⟩ := info_parts info_g
  obtain ⟨_, _, _, _, _, _, c6, -⟩ := h.cells
  rw [ho] at c6
  have hpw := h.blk.lt
  have HC := close_ h
  rw [hdv] at HC
  have HCL := Lib.hid HC
  have HCA : Hid (s.abs.cancelL = back (s.now.ds.drop s.fst)) := Lib.hid (by unfold LS.abs AS.cancelL; dsimp only; rw [ho]; rfl)
  have HAB : Hid (s.abs.cancel = _) := Lib.hid (show s.abs.cancel = { s.abs with cur := none, undo := if s.res = true then s.abs.undo ++ [{ s.now.abs with ds := s.now.ds.take s.fst }] else s.abs.undo } by unfold LS.abs AS.cancel; dsimp only; rw [ho]; rfl)
  have HO := Lib.hid ho
  have HA := Lib.hid h
  have HDV := Lib.hid hdv
  have HRES := Lib.hid hres
  have HFS := Lib.hid hfs
  have HF := Lib.hid hf
  have HN := Lib.hid hn
  have HLN := Lib.hid hN
  obtain ⟨A2, cr, huv, hul⟩ := h.u.form
  have HUV := Lib.hid huv
  obtain ⟨n2, hn2⟩ : ∃ n2, n2 = s.undo.length := ⟨_, rfl⟩
  have HN2 := Lib.hid hn2
  have hn3 : n2 ≤ 2000 := by omega
  have HD := Lib.hid hD
  clear hD
  have hN1 : f ≤ 1000000000000 := by omega
  clear h ho hdv hres hfs hf hn hN HC huv hn2 hul hun
  go_enter Tryd.func46, Tryd.ntmps46
  go_wp2_with (go_at_call 68; refine HCL.out.mono ?_; rintro e w1 ⟨rfl, hb, hu⟩; have d6 := hb.cell 8; have df := hb.frozen; simp only [LS.cells, List.getElem?_toArray, List.getElem?_cons_succ, List.getElem?_cons_zero] at d6; rw [HFS.out] at d6; have hp1 := hb.lt; have HB1 := Lib.hid hb; have HU1 := Lib.hid hu; clear hb hu)
  have HBq : Hid (Blk (w1.alloc (.cells #[.slice (some ⟨g3, off3, none⟩) f f, .int .i64 s.now.ah, .int .i64 s.now.be] 81)) w1.heap.size 81 #[.slice (some ⟨g3, off3, none⟩) f f, .int .i64 s.now.ah, .int .i64 s.now.be]) := Lib.hid (Blk.new w1 _ _)
  have HBp := Lib.hid (HB1.out.alloc (.cells #[.slice (some ⟨g3, off3, none⟩) f f, .int .i64 s.now.ah, .int .i64 s.now.be] 81))
  have HINV : Hid (∀ w0 : World, w0 = (w1.alloc (.cells #[.slice (some ⟨g3, off3, none⟩) f f, .int .i64 s.now.ah, .int .i64 s.now.be] 81)).drew → ∀ A' n' c', ReadsD (w1.alloc (.cells #[.slice (some ⟨g3, off3, none⟩) f f, .int .i64 s.now.ah, .int .i64 s.now.be] 81)) (w1.alloc (.cells #[.slice (some ⟨g3, off3, none⟩) f f, .int .i64 s.now.ah, .int .i64 s.now.be] 81)).heap.size A' n' [] → Calls Tryd.prog 59 #[.slice A' n' c'] w0 _) := Lib.hid (fun w0 e A' n' c' hr => by subst e; exact inverted_p (w1.alloc (.cells #[.slice (some ⟨g3, off3, none⟩) f f, .int .i64 s.now.ah, .int .i64 s.now.be] 81)).drew A' n' c' [] hr (by rw [← hr.1]; simp))
  have m0 := HBq.out.cell 0
  have m6 := HBp.out.cell 8
  simp only [LS.cells, List.getElem?_toArray, List.getElem?_cons_succ, List.getElem?_cons_zero] at m0 m6
  rw [HFS.out] at m6
  go_region_held3 (fun w' => w'.cell? ⟨w1.heap.size, 0, none⟩ = some (.slice (some ⟨g3, off3, none⟩) f f) ∧ w'.cell? ⟨p, 8, none⟩ = some (.int .i64 ((f : Nat) : Int)))
    (first | go_keep | exact ⟨l0, e6⟩ | exact ⟨m0, m6⟩)
    ((go_at_call 59; refine (HINV.out _ rfl _ _ _ (reads_nil _ _ _)).mono ?_; rintro e w7 ⟨v7, rfl, ho7, hk7, hb7⟩; have hb7 := below_of_drew hb7; have hp7 := HBp.out.upd (Upd.below hb7 No) (fun h => h); have hq7 := HBq.out.upd (Upd.below hb7 No) (fun h => h); have e1 := hp7.cell 1; have e5 := hp7.cell 7; have e6 := hp7.cell 8; have ef := hp7.frozen; have lf := hq7.frozen; have l0 := hq7.cell 0; have l1 := hq7.cell 1; have l2 := hq7.cell 2; simp only [LS.cells, List.getElem?_toArray, List.getElem?_cons_succ, List.getElem?_cons_zero] at e1 e5 e6 l0 l1 l2; rw [HUV.out, ← HN2.out] at e1; rw [HRES.out] at e5; rw [HFS.out] at e6; have hlp := hp7.lt; have hlq := hq7.lt; have HP7 := Lib.hid hp7; have HQ7 := Lib.hid hq7; have HO7 := Lib.hid ho7; have HK7 := Lib.hid hk7; have HW7 := Lib.hid hb7; clear ho7 hk7 hb7 hp7 hq7))
  go_wp2
  go_ret2
  have hub : Upd (fun k => k = p) w w7 := (HU1.out.alloc _).then_ (Upd.below HW7.out No) (fun k hk => hk.elim)
  refine ⟨_, _, rfl, ?_, fun k hk => ?_, HA.out.closed hub HP7.out, ?_, Upd.foot1 hub, Fr.top rfl rfl rfl rfl (.inr rfl)⟩
  · rw [HCA.out]
    rw [HD.out]
    exact HO7.out
  · have h1 : (w1.alloc (.cells #[.slice (some ⟨g3, off3, none⟩) f f, .int .i64 s.now.ah, .int .i64 s.now.be] 81)).heap.size ≤ k := HK7.out k hk
    have h2 := HU1.out.size
    simp at h1
    refine ⟨by omega, fun hf => ?_⟩
    have h3 : At w1 p _ := HA.out.closed HU1.out HB1.out
    have := h3.lt k hf
    omega
  · rw [HAB.out, HRES.out]
    rfl

theorem cancel_end1_true (h : At w p s) (ho : s.op = true) (hres : s.res = true) (g3 off3 f : Nat) (hdv : s.now.dv = .slice (some ⟨g3, off3, none⟩) f f) (hfs : s.fst = f) (hD : s.now.ds.drop s.fst = []) (hN : s.now.ds.length = f) (hf : s.fst ≤ s.now.ds.length) (hn : s.now.ds.length ≤ 1000000000000) (hun : s.undo.length ≤ 2000) :
    Calls Tryd.prog 46 #[.pointer (some ⟨p, 0, none⟩)] w fun e w' => ∃ v s', e = .returned (.tuple #[v, .bool true]) ∧ OwnD w' v s.abs.cancelL ∧ (∀ k, v.ownBlock = some k → w.heap.size ≤ k ∧ ¬ foot p s' k) ∧ At w' p s' ∧ s'.abs = s.abs.cancel ∧ Upd (foot p s) w w' ∧ Fr w p s s' := by
  obtain ⟨i0, hi0, hz0, hz1, hz2⟩ := info_parts info_g
  obtain ⟨_, _, _, _, _, _, c6, -⟩ := h.cells
  rw [ho] at c6
  have hpw := h.blk.lt
  have HC := close_ h
  rw [hdv] at HC
  have HCL := Lib.hid HC
  have HCA : Hid (s.abs.cancelL = back (s.now.ds.drop s.fst)) := Lib.hid (by unfold LS.abs AS.cancelL; dsimp only; rw [ho]; rfl)
  have HAB : Hid (s.abs.cancel = _) := Lib.hid (show s.abs.cancel = { s.abs with cur := none, undo := if s.res = true then s.abs.undo ++ [{ s.now.abs with ds := s.now.ds.take s.fst }] else s.abs.undo } by unfold LS.abs AS.cancel; dsimp only; rw [ho]; rfl)
  have HO := Lib.hid ho
  have HA := Lib.hid h
  have HDV := Lib.hid hdv
  have HRES := Lib.hid hres
  have HFS := Lib.hid hfs
  have HF := Lib.hid hf
  have HN := Lib.hid hn
  have HLN := Lib.hid hN
  obtain ⟨A2, cr, huv, hul⟩ := h.u.form
  have HUV := Lib.hid huv
  obtain ⟨n2, hn2⟩ : ∃ n2, n2 = s.undo.length := ⟨_, rfl⟩
  have HN2 := Lib.hid hn2
  have hn3 : n2 ≤ 2000 := by omega
  have HD := Lib.hid hD
  clear hD
  have hN1 : f ≤ 1000000000000 := by omega
  clear h ho hdv hres hfs hf hn hN HC huv hn2 hul hun
  go_enter Tryd.func46, Tryd.ntmps46
  go_wp2_with (go_at_call 68; refine HCL.out.mono ?_; rintro e w1 ⟨rfl, hb, hu⟩; have d6 := hb.cell 8; have df := hb.frozen; simp only [LS.cells, List.getElem?_toArray, List.getElem?_cons_succ, List.getElem?_cons_zero] at d6; rw [HFS.out] at d6; have hp1 := hb.lt; have HB1 := Lib.hid hb; have HU1 := Lib.hid hu; clear hb hu)
  have HBq : Hid (Blk (w1.alloc (.cells #[.slice (some ⟨g3, off3, none⟩) f f, .int .i64 s.now.ah, .int .i64 s.now.be] 81)) w1.heap.size 81 #[.slice (some ⟨g3, off3, none⟩) f f, .int .i64 s.now.ah, .int .i64 s.now.be]) := Lib.hid (Blk.new w1 _ _)
  have HBp := Lib.hid (HB1.out.alloc (.cells #[.slice (some ⟨g3, off3, none⟩) f f, .int .i64 s.now.ah, .int .i64 s.now.be] 81))
  have HINV : Hid (∀ w0 : World, w0 = (w1.alloc (.cells #[.slice (some ⟨g3, off3, none⟩) f f, .int .i64 s.now.ah, .int .i64 s.now.be] 81)).drew → ∀ A' n' c', ReadsD (w1.alloc (.cells #[.slice (some ⟨g3, off3, none⟩) f f, .int .i64 s.now.ah, .int .i64 s.now.be] 81)) (w1.alloc (.cells #[.slice (some ⟨g3, off3, none⟩) f f, .int .i64 s.now.ah, .int .i64 s.now.be] 81)).heap.size A' n' [] → Calls Tryd.prog 59 #[.slice A' n' c'] w0 _) := Lib.hid (fun w0 e A' n' c' hr => by subst e; exact inverted_p (w1.alloc (.cells #[.slice (some ⟨g3, off3, none⟩) f f, .int .i64 s.now.ah, .int .i64 s.now.be] 81)).drew A' n' c' [] hr (by rw [← hr.1]; simp))
  have m0 := HBq.out.cell 0
  have m6 := HBp.out.cell 8
  simp only [LS.cells, List.getElem?_toArray, List.getElem?_cons_succ, List.getElem?_cons_zero] at m0 m6
  rw [HFS.out] at m6
  go_region_held3 (fun w' => w'.cell? ⟨w1.heap.size, 0, none⟩ = some (.slice (some ⟨g3, off3, none⟩) f f) ∧ w'.cell? ⟨p, 8, none⟩ = some (.int .i64 ((f : Nat) : Int)))
    (first | go_keep | exact ⟨l0, e6⟩ | exact ⟨m0, m6⟩)
    ((go_at_call 59; refine (HINV.out _ rfl _ _ _ (reads_nil _ _ _)).mono ?_; rintro e w7 ⟨v7, rfl, ho7, hk7, hb7⟩; have hb7 := below_of_drew hb7; have hp7 := HBp.out.upd (Upd.below hb7 No) (fun h => h); have hq7 := HBq.out.upd (Upd.below hb7 No) (fun h => h); have e1 := hp7.cell 1; have e5 := hp7.cell 7; have e6 := hp7.cell 8; have ef := hp7.frozen; have lf := hq7.frozen; have l0 := hq7.cell 0; have l1 := hq7.cell 1; have l2 := hq7.cell 2; simp only [LS.cells, List.getElem?_toArray, List.getElem?_cons_succ, List.getElem?_cons_zero] at e1 e5 e6 l0 l1 l2; rw [HUV.out, ← HN2.out] at e1; rw [HRES.out] at e5; rw [HFS.out] at e6; have hlp := hp7.lt; have hlq := hq7.lt; have HP7 := Lib.hid hp7; have HQ7 := Lib.hid hq7; have HO7 := Lib.hid ho7; have HK7 := Lib.hid hk7; have HW7 := Lib.hid hb7; clear ho7 hk7 hb7 hp7 hq7))
  have hqp : ¬ p = w1.heap.size := by omega
  have hqp2 : ¬ w1.heap.size = p := by omega
  have hub : Upd (fun k => k = p) w w7 := (HU1.out.alloc _).then_ (Upd.below HW7.out No) (fun k hk => hk.elim)
  have hws : w.heap.size ≤ w1.heap.size := HU1.out.size
  have hWu : Upd (fun k => k = p) w ((w7.setCell ⟨w1.heap.size, 0, none⟩ (.slice (some ⟨g3, off3, none⟩) f f)).alloc (.cells #[.slice (some ⟨g3, off3, none⟩) f f, .int .i64 s.now.ah, .int .i64 s.now.be] 81)) := (hub.setCell (.inr hws) _).alloc _
  have hWB : Blk ((w7.setCell ⟨w1.heap.size, 0, none⟩ (.slice (some ⟨g3, off3, none⟩) f f)).alloc (.cells #[.slice (some ⟨g3, off3, none⟩) f f, .int .i64 s.now.ah, .int .i64 s.now.be] 81)) p 83 ({ s with now := g0, op := false } : LS).cells := (HP7.out.far (p := ⟨w1.heap.size, 0, none⟩) hqp _).alloc _
  have hor := HA.out.u.upd hWu (fun k hk e => HA.out.up (by rw [← e]; exact hk))
  rw [HUV.out, ← HN2.out] at hor
  have HOr := Lib.hid hor
  have hrn := reads_g (w7.setCell ⟨w1.heap.size, 0, none⟩ (.slice (some ⟨g3, off3, none⟩) f f)) ⟨.slice (some ⟨g3, off3, none⟩) f f, s.now.ds.take s.fst, s.now.ah, s.now.be⟩
  rw [show (w7.setCell ⟨w1.heap.size, 0, none⟩ (.slice (some ⟨g3, off3, none⟩) f f)).heap.size = w7.heap.size by simp [World.setCell]] at hrn
  have HRn := Lib.hid hrn
  have HC1 := Lib.hid (one_g ⟨.slice (some ⟨g3, off3, none⟩) f f, s.now.ds.take s.fst, s.now.ah, s.now.be⟩ _ _ _ rfl)
  have HFIN : Hid (∀ v5 w5, _ → _ → _ → _) := Lib.hid (fun v5 w5 => At.cancelled (v5 := v5) (w5 := w5) HA.out (A3 := (some ⟨g3, off3, none⟩)) (cd := f) (HDV.out.trans (by rw [HLN.out])) HF.out hWu hWB)
  have HWu := Lib.hid hWu
  have HWB := Lib.hid hWB
  have HUP := Lib.hid HA.out.up
  clear hor hrn hWu hWB
  go_wp2
  go_region
  all_goals
    go_wp2
    go_region_law (first
      | (refine step_append_s (v := .slice A2 n2 cr) (by rfl) _ _ _ (by rfl) Tryd.underlying79 hi0 hz0 hz1 hz2 rfl (by omega) (by rfl) HOr.out (by rfl) HRn.out HC1.out (by unfold maxLen; omega) (by omega) ?_; intro v5 w5 ho5 hg5 hb5; have HO5 := Lib.hid ho5; have HG5 := Lib.hid (gdr hg5); have HB5 := Lib.hid hb5; have hb6 := HWB.out.upd (Upd.grown (S := fun k => (Value.slice A2 n2 cr).ownBlock = some k) HG5.out (fun k e => e)) (fun e => HUP.out (by rw [HUV.out, ← HN2.out]; exact e)); have f0 := hb6.cell 0; have f1 := hb6.cell 1; have ff := hb6.frozen; have hlp5 := hb6.lt; obtain ⟨A5, c5, hv5, hl5⟩ := HO5.out.form; subst hv5; clear ho5 hg5 hb5 hb6; simp only [LS.cells, List.getElem?_toArray, List.getElem?_cons_succ, List.getElem?_cons_zero] at f0 f1; rw [HUV.out, ← HN2.out] at f1))
  all_goals
    have hfin := HFIN.out (.slice A5 (n2 + 1) c5) w5 (by rw [← HN2.out]; show OwnS _ _ _ _ _ (_ ++ Gr.cells ⟨.slice _ s.fst s.fst, _, _, _⟩); rw [HFS.out]; exact HO5.out) (by rw [HUV.out, ← HN2.out]; exact HG5.out) (by rw [HUV.out, ← HN2.out]; exact HB5.out)
    have HFN := Lib.hid hfin
    clear hfin
    go_wp2
    go_ret2
    obtain ⟨hA, hU, hF, hF2⟩ := HFN.out
    have hvk : ∀ k, v7.ownBlock = some k → w1.heap.size < k ∧ k < w7.heap.size := fun k hk => by
      have h1 : (w1.alloc (.cells #[.slice (some ⟨g3, off3, none⟩) f f, .int .i64 s.now.ah, .int .i64 s.now.be] 81)).heap.size ≤ k := HK7.out k hk
      have h2 := OwnS.lt HO7.out k hk
      simp at h1
      omega
    refine ⟨_, _, rfl, ?_, fun k hk => ?_, hA, ?_, hU.mono (fun k hk => At.topFoot k hk), hF⟩
    · rw [HCA.out]
      have hu8 : Upd (fun k => k = w1.heap.size ∨ k = p ∨ s.uv.ownBlock = some k) w7 (w5.setCell ⟨p, 1, none⟩ (.slice A5 (n2 + 1) c5)) := by
        have a1 : Upd (fun k => k = w1.heap.size ∨ k = p ∨ s.uv.ownBlock = some k) w7 ((w7.setCell ⟨w1.heap.size, 0, none⟩ (.slice (some ⟨g3, off3, none⟩) f f)).alloc (.cells #[.slice (some ⟨g3, off3, none⟩) f f, .int .i64 s.now.ah, .int .i64 s.now.be] 81)) := ((Upd.refl _ _).setCell (.inl (.inl rfl)) _).alloc _
        have a2 := a1.trans (Upd.grown (S := fun k => k = w1.heap.size ∨ k = p ∨ s.uv.ownBlock = some k) HG5.out (fun k e => .inr (.inr (by rw [HUV.out, ← HN2.out]; exact e))))
        exact a2.setCell (.inl (.inr (.inl rfl))) _
      have h9 := OwnS.upd HO7.out hu8 (fun k hk e => by
        obtain ⟨h1, h2⟩ := hvk k hk
        rcases e with e | e | e
        · omega
        · omega
        · have := HA.out.u.lt k e
          omega)
      rw [HD.out]
      exact h9
    · obtain ⟨h1, h2⟩ := hvk k hk
      refine ⟨by omega, fun hf => ?_⟩
      rcases hF2 k hf with e | e
      · have := HA.out.lt k e
        omega
      · simp [World.setCell] at e
        omega
    · rw [HAB.out, HRES.out]
      unfold LS.back LS.abs
      simp [Gr.abs]

theorem cancel_end2_false (h : At w p s) (ho : s.op = true) (hres : s.res = false) (g3 off3 f c2 : Nat) (hdv : s.now.dv = .slice (some ⟨g3, off3, none⟩) f (f + (c2 + 1))) (hfs : s.fst = f) (hD : s.now.ds.drop s.fst = []) (hN : s.now.ds.length = f) (hf : s.fst ≤ s.now.ds.length) (hn : s.now.ds.length ≤ 1000000000000) (hun : s.undo.length ≤ 2000) :
    Calls Tryd.prog 46 #[.pointer (some ⟨p, 0, none⟩)] w fun e w' => ∃ v s', e = .returned (.tuple #[v, .bool true]) ∧ OwnD w' v s.abs.cancelL ∧ (∀ k, v.ownBlock = some k → w.heap.size ≤ k ∧ ¬ foot p s' k) ∧ At w' p s' ∧ s'.abs = s.abs.cancel ∧ Upd (foot p s) w w' ∧ Fr w p s s' := by
  obtain ⟨i0, hi0, hz0, hz1, hz2⟩ := info_parts info_g
  obtain ⟨_, _, _, _, _, _, c6, -⟩ := h.cells
  rw [ho] at c6
  have hpw := h.blk.lt
  have HC := close_ h
  rw [hdv] at HC
  have HCL := Lib.hid HC
  have HCA : Hid (s.abs.cancelL = back (s.now.ds.drop s.fst)) := Lib.hid (by unfold LS.abs AS.cancelL; dsimp only; rw [ho]; rfl)
  have HAB : Hid (s.abs.cancel = _) := Lib.hid (show s.abs.cancel = { s.abs with cur := none, undo := if s.res = true then s.abs.undo ++ [{ s.now.abs with ds := s.now.ds.take s.fst }] else s.abs.undo } by unfold LS.abs AS.cancel; dsimp only; rw [ho]; rfl)
  have HO := Lib.hid ho
  have HA := Lib.hid h
  have HDV := Lib.hid hdv
  have HRES := Lib.hid hres
  have HFS := Lib.hid hfs
  have HF := Lib.hid hf
  have HN := Lib.hid hn
  have HLN := Lib.hid hN
  obtain ⟨A2, cr, huv, hul⟩ := h.u.form
  have HUV := Lib.hid huv
  obtain ⟨n2, hn2⟩ : ∃ n2, n2 = s.undo.length := ⟨_, rfl⟩
  have HN2 := Lib.hid hn2
  have hn3 : n2 ≤ 2000 := by omega
  have HD := Lib.hid hD
  clear hD
  have hN1 : f ≤ 1000000000000 := by omega
  have hb2 : f ≤ f + (c2 + 1) := by omega
  have hb3 : ¬ f + (c2 + 1) = f := by omega
  have hb5 : f + (c2 + 1) - f = c2 + 1 := by omega
  have hb7 : (f + (c2 + 1) == f) = false := by rw [beq_eq_false_iff_ne]; omega
  clear h ho hdv hres hfs hf hn hN HC huv hn2 hul hun
  go_enter Tryd.func46, Tryd.ntmps46
  go_wp2_with (go_at_call 68; refine HCL.out.mono ?_; rintro e w1 ⟨rfl, hb, hu⟩; have d6 := hb.cell 8; have df := hb.frozen; simp only [LS.cells, List.getElem?_toArray, List.getElem?_cons_succ, List.getElem?_cons_zero] at d6; rw [HFS.out] at d6; have hp1 := hb.lt; have HB1 := Lib.hid hb; have HU1 := Lib.hid hu; clear hb hu)
  have HBq : Hid (Blk (w1.alloc (.cells #[.slice (some ⟨g3, off3, none⟩) f (f + (c2 + 1)), .int .i64 s.now.ah, .int .i64 s.now.be] 81)) w1.heap.size 81 #[.slice (some ⟨g3, off3, none⟩) f (f + (c2 + 1)), .int .i64 s.now.ah, .int .i64 s.now.be]) := Lib.hid (Blk.new w1 _ _)
  have HBp := Lib.hid (HB1.out.alloc (.cells #[.slice (some ⟨g3, off3, none⟩) f (f + (c2 + 1)), .int .i64 s.now.ah, .int .i64 s.now.be] 81))
  have HINV : Hid (∀ w0 : World, w0 = (w1.alloc (.cells #[.slice (some ⟨g3, off3, none⟩) f (f + (c2 + 1)), .int .i64 s.now.ah, .int .i64 s.now.be] 81)).drew → ∀ A' n' c', ReadsD (w1.alloc (.cells #[.slice (some ⟨g3, off3, none⟩) f (f + (c2 + 1)), .int .i64 s.now.ah, .int .i64 s.now.be] 81)) (w1.alloc (.cells #[.slice (some ⟨g3, off3, none⟩) f (f + (c2 + 1)), .int .i64 s.now.ah, .int .i64 s.now.be] 81)).heap.size A' n' [] → Calls Tryd.prog 59 #[.slice A' n' c'] w0 _) := Lib.hid (fun w0 e A' n' c' hr => by subst e; exact inverted_p (w1.alloc (.cells #[.slice (some ⟨g3, off3, none⟩) f (f + (c2 + 1)), .int .i64 s.now.ah, .int .i64 s.now.be] 81)).drew A' n' c' [] hr (by rw [← hr.1]; simp))
  have m0 := HBq.out.cell 0
  have m6 := HBp.out.cell 8
  simp only [LS.cells, List.getElem?_toArray, List.getElem?_cons_succ, List.getElem?_cons_zero] at m0 m6
  rw [HFS.out] at m6
  go_region_held3 (fun w' => w'.cell? ⟨w1.heap.size, 0, none⟩ = some (.slice (some ⟨g3, off3, none⟩) f (f + (c2 + 1))) ∧ w'.cell? ⟨p, 8, none⟩ = some (.int .i64 ((f : Nat) : Int)))
    (first | go_keep | exact ⟨l0, e6⟩ | exact ⟨m0, m6⟩)
    ((go_at_call 59; refine (HINV.out _ rfl _ _ _ (reads_nil _ _ _)).mono ?_; rintro e w7 ⟨v7, rfl, ho7, hk7, hb7⟩; have hb7 := below_of_drew hb7; have hp7 := HBp.out.upd (Upd.below hb7 No) (fun h => h); have hq7 := HBq.out.upd (Upd.below hb7 No) (fun h => h); have e1 := hp7.cell 1; have e5 := hp7.cell 7; have e6 := hp7.cell 8; have ef := hp7.frozen; have lf := hq7.frozen; have l0 := hq7.cell 0; have l1 := hq7.cell 1; have l2 := hq7.cell 2; simp only [LS.cells, List.getElem?_toArray, List.getElem?_cons_succ, List.getElem?_cons_zero] at e1 e5 e6 l0 l1 l2; rw [HUV.out, ← HN2.out] at e1; rw [HRES.out] at e5; rw [HFS.out] at e6; have hlp := hp7.lt; have hlq := hq7.lt; have HP7 := Lib.hid hp7; have HQ7 := Lib.hid hq7; have HO7 := Lib.hid ho7; have HK7 := Lib.hid hk7; have HW7 := Lib.hid hb7; clear ho7 hk7 hb7 hp7 hq7))
  go_wp2
  go_ret2
  have hub : Upd (fun k => k = p) w w7 := (HU1.out.alloc _).then_ (Upd.below HW7.out No) (fun k hk => hk.elim)
  refine ⟨_, _, rfl, ?_, fun k hk => ?_, HA.out.closed hub HP7.out, ?_, Upd.foot1 hub, Fr.top rfl rfl rfl rfl (.inr rfl)⟩
  · rw [HCA.out]
    rw [HD.out]
    exact HO7.out
  · have h1 : (w1.alloc (.cells #[.slice (some ⟨g3, off3, none⟩) f (f + (c2 + 1)), .int .i64 s.now.ah, .int .i64 s.now.be] 81)).heap.size ≤ k := HK7.out k hk
    have h2 := HU1.out.size
    simp at h1
    refine ⟨by omega, fun hf => ?_⟩
    have h3 : At w1 p _ := HA.out.closed HU1.out HB1.out
    have := h3.lt k hf
    omega
  · rw [HAB.out, HRES.out]
    rfl

theorem cancel_end2_true (h : At w p s) (ho : s.op = true) (hres : s.res = true) (g3 off3 f c2 : Nat) (hdv : s.now.dv = .slice (some ⟨g3, off3, none⟩) f (f + (c2 + 1))) (hfs : s.fst = f) (hD : s.now.ds.drop s.fst = []) (hN : s.now.ds.length = f) (hf : s.fst ≤ s.now.ds.length) (hn : s.now.ds.length ≤ 1000000000000) (hun : s.undo.length ≤ 2000) :
    Calls Tryd.prog 46 #[.pointer (some ⟨p, 0, none⟩)] w fun e w' => ∃ v s', e = .returned (.tuple #[v, .bool true]) ∧ OwnD w' v s.abs.cancelL ∧ (∀ k, v.ownBlock = some k → w.heap.size ≤ k ∧ ¬ foot p s' k) ∧ At w' p s' ∧ s'.abs = s.abs.cancel ∧ Upd (foot p s) w w' ∧ Fr w p s s' := by
  obtain ⟨i0, hi0, hz0, hz1, hz2⟩ := info_parts info_g
  obtain ⟨_, _, _, _, _, _, c6, -⟩ := h.cells
  rw [ho] at c6
  have hpw := h.blk.lt
  have HC := close_ h
  rw [hdv] at HC
  have HCL := Lib.hid HC
  have HCA : Hid (s.abs.cancelL = back (s.now.ds.drop s.fst)) := Lib.hid (by unfold LS.abs AS.cancelL; dsimp only; rw [ho]; rfl)
  have HAB : Hid (s.abs.cancel = _) := Lib.hid (show s.abs.cancel = { s.abs with cur := none, undo := if s.res = true then s.abs.undo ++ [{ s.now.abs with ds := s.now.ds.take s.fst }] else s.abs.undo } by unfold LS.abs AS.cancel; dsimp only; rw [ho]; rfl)
  have HO := Lib.hid ho
  have HA := Lib.hid h
  have HDV := Lib.hid hdv
  have HRES := Lib.hid hres
  have HFS := Lib.hid hfs
  have HF := Lib.hid hf
  have HN := Lib.hid hn
  have HLN := Lib.hid hN
  obtain ⟨A2, cr, huv, hul⟩ := h.u.form
  have HUV := Lib.hid huv
  obtain ⟨n2, hn2⟩ : ∃ n2, n2 = s.undo.length := ⟨_, rfl⟩
  have HN2 := Lib.hid hn2
  have hn3 : n2 ≤ 2000 := by omega
  have HD := Lib.hid hD
  clear hD
  have hN1 : f ≤ 1000000000000 := by omega
  have hb2 : f ≤ f + (c2 + 1) := by omega
  have hb3 : ¬ f + (c2 + 1) = f := by omega
  have hb5 : f + (c2 + 1) - f = c2 + 1 := by omega
  have hb7 : (f + (c2 + 1) == f) = false := by rw [beq_eq_false_iff_ne]; omega
  clear h ho hdv hres hfs hf hn hN HC huv hn2 hul hun
  go_enter Tryd.func46, Tryd.ntmps46
  go_wp2_with (go_at_call 68; refine HCL.out.mono ?_; rintro e w1 ⟨rfl, hb, hu⟩; have d6 := hb.cell 8; have df := hb.frozen; simp only [LS.cells, List.getElem?_toArray, List.getElem?_cons_succ, List.getElem?_cons_zero] at d6; rw [HFS.out] at d6; have hp1 := hb.lt; have HB1 := Lib.hid hb; have HU1 := Lib.hid hu; clear hb hu)
  have HBq : Hid (Blk (w1.alloc (.cells #[.slice (some ⟨g3, off3, none⟩) f (f + (c2 + 1)), .int .i64 s.now.ah, .int .i64 s.now.be] 81)) w1.heap.size 81 #[.slice (some ⟨g3, off3, none⟩) f (f + (c2 + 1)), .int .i64 s.now.ah, .int .i64 s.now.be]) := Lib.hid (Blk.new w1 _ _)
  have HBp := Lib.hid (HB1.out.alloc (.cells #[.slice (some ⟨g3, off3, none⟩) f (f + (c2 + 1)), .int .i64 s.now.ah, .int .i64 s.now.be] 81))
  have HINV : Hid (∀ w0 : World, w0 = (w1.alloc (.cells #[.slice (some ⟨g3, off3, none⟩) f (f + (c2 + 1)), .int .i64 s.now.ah, .int .i64 s.now.be] 81)).drew → ∀ A' n' c', ReadsD (w1.alloc (.cells #[.slice (some ⟨g3, off3, none⟩) f (f + (c2 + 1)), .int .i64 s.now.ah, .int .i64 s.now.be] 81)) (w1.alloc (.cells #[.slice (some ⟨g3, off3, none⟩) f (f + (c2 + 1)), .int .i64 s.now.ah, .int .i64 s.now.be] 81)).heap.size A' n' [] → Calls Tryd.prog 59 #[.slice A' n' c'] w0 _) := Lib.hid (fun w0 e A' n' c' hr => by subst e; exact inverted_p (w1.alloc (.cells #[.slice (some ⟨g3, off3, none⟩) f (f + (c2 + 1)), .int .i64 s.now.ah, .int .i64 s.now.be] 81)).drew A' n' c' [] hr (by rw [← hr.1]; simp))
  have m0 := HBq.out.cell 0
  have m6 := HBp.out.cell 8
  simp only [LS.cells, List.getElem?_toArray, List.getElem?_cons_succ, List.getElem?_cons_zero] at m0 m6
  rw [HFS.out] at m6
  go_region_held3 (fun w' => w'.cell? ⟨w1.heap.size, 0, none⟩ = some (.slice (some ⟨g3, off3, none⟩) f (f + (c2 + 1))) ∧ w'.cell? ⟨p, 8, none⟩ = some (.int .i64 ((f : Nat) : Int)))
    (first | go_keep | exact ⟨l0, e6⟩ | exact ⟨m0, m6⟩)
    ((go_at_call 59; refine (HINV.out _ rfl _ _ _ (reads_nil _ _ _)).mono ?_; rintro e w7 ⟨v7, rfl, ho7, hk7, hb7⟩; have hb7 := below_of_drew hb7; have hp7 := HBp.out.upd (Upd.below hb7 No) (fun h => h); have hq7 := HBq.out.upd (Upd.below hb7 No) (fun h => h); have e1 := hp7.cell 1; have e5 := hp7.cell 7; have e6 := hp7.cell 8; have ef := hp7.frozen; have lf := hq7.frozen; have l0 := hq7.cell 0; have l1 := hq7.cell 1; have l2 := hq7.cell 2; simp only [LS.cells, List.getElem?_toArray, List.getElem?_cons_succ, List.getElem?_cons_zero] at e1 e5 e6 l0 l1 l2; rw [HUV.out, ← HN2.out] at e1; rw [HRES.out] at e5; rw [HFS.out] at e6; have hlp := hp7.lt; have hlq := hq7.lt; have HP7 := Lib.hid hp7; have HQ7 := Lib.hid hq7; have HO7 := Lib.hid ho7; have HK7 := Lib.hid hk7; have HW7 := Lib.hid hb7; clear ho7 hk7 hb7 hp7 hq7))
  have hqp : ¬ p = w1.heap.size := by omega
  have hqp2 : ¬ w1.heap.size = p := by omega
  have hub : Upd (fun k => k = p) w w7 := (HU1.out.alloc _).then_ (Upd.below HW7.out No) (fun k hk => hk.elim)
  have hws : w.heap.size ≤ w1.heap.size := HU1.out.size
  have hWu : Upd (fun k => k = p) w ((w7.setCell ⟨w1.heap.size, 0, none⟩ (.slice (some ⟨g3, off3, none⟩) f f)).alloc (.cells #[.slice (some ⟨g3, off3, none⟩) f f, .int .i64 s.now.ah, .int .i64 s.now.be] 81)) := (hub.setCell (.inr hws) _).alloc _
  have hWB : Blk ((w7.setCell ⟨w1.heap.size, 0, none⟩ (.slice (some ⟨g3, off3, none⟩) f f)).alloc (.cells #[.slice (some ⟨g3, off3, none⟩) f f, .int .i64 s.now.ah, .int .i64 s.now.be] 81)) p 83 ({ s with now := g0, op := false } : LS).cells := (HP7.out.far (p := ⟨w1.heap.size, 0, none⟩) hqp _).alloc _
  have hor := HA.out.u.upd hWu (fun k hk e => HA.out.up (by rw [← e]; exact hk))
  rw [HUV.out, ← HN2.out] at hor
  have HOr := Lib.hid hor
  have hrn := reads_g (w7.setCell ⟨w1.heap.size, 0, none⟩ (.slice (some ⟨g3, off3, none⟩) f f)) ⟨.slice (some ⟨g3, off3, none⟩) f f, s.now.ds.take s.fst, s.now.ah, s.now.be⟩
  rw [show (w7.setCell ⟨w1.heap.size, 0, none⟩ (.slice (some ⟨g3, off3, none⟩) f f)).heap.size = w7.heap.size by simp [World.setCell]] at hrn
  have HRn := Lib.hid hrn
  have HC1 := Lib.hid (one_g ⟨.slice (some ⟨g3, off3, none⟩) f f, s.now.ds.take s.fst, s.now.ah, s.now.be⟩ _ _ _ rfl)
  have HFIN : Hid (∀ v5 w5, _ → _ → _ → _) := Lib.hid (fun v5 w5 => At.cancelled (v5 := v5) (w5 := w5) HA.out (A3 := (some ⟨g3, off3, none⟩)) (cd := (f + (c2 + 1))) (HDV.out.trans (by rw [HLN.out])) HF.out hWu hWB)
  have HWu := Lib.hid hWu
  have HWB := Lib.hid hWB
  have HUP := Lib.hid HA.out.up
  clear hor hrn hWu hWB
  go_wp2
  go_region
  all_goals
    go_wp2
    go_region_law (first
      | (refine step_append_s (v := .slice A2 n2 cr) (by rfl) _ _ _ (by rfl) Tryd.underlying79 hi0 hz0 hz1 hz2 rfl (by omega) (by rfl) HOr.out (by rfl) HRn.out HC1.out (by unfold maxLen; omega) (by omega) ?_; intro v5 w5 ho5 hg5 hb5; have HO5 := Lib.hid ho5; have HG5 := Lib.hid (gdr hg5); have HB5 := Lib.hid hb5; have hb6 := HWB.out.upd (Upd.grown (S := fun k => (Value.slice A2 n2 cr).ownBlock = some k) HG5.out (fun k e => e)) (fun e => HUP.out (by rw [HUV.out, ← HN2.out]; exact e)); have f0 := hb6.cell 0; have f1 := hb6.cell 1; have ff := hb6.frozen; have hlp5 := hb6.lt; obtain ⟨A5, c5, hv5, hl5⟩ := HO5.out.form; subst hv5; clear ho5 hg5 hb5 hb6; simp only [LS.cells, List.getElem?_toArray, List.getElem?_cons_succ, List.getElem?_cons_zero] at f0 f1; rw [HUV.out, ← HN2.out] at f1))
  all_goals
    have hfin := HFIN.out (.slice A5 (n2 + 1) c5) w5 (by rw [← HN2.out]; show OwnS _ _ _ _ _ (_ ++ Gr.cells ⟨.slice _ s.fst s.fst, _, _, _⟩); rw [HFS.out]; exact HO5.out) (by rw [HUV.out, ← HN2.out]; exact HG5.out) (by rw [HUV.out, ← HN2.out]; exact HB5.out)
    have HFN := Lib.hid hfin
    clear hfin
    go_wp2
    go_ret2
    obtain ⟨hA, hU, hF, hF2⟩ := HFN.out
    have hvk : ∀ k, v7.ownBlock = some k → w1.heap.size < k ∧ k < w7.heap.size := fun k hk => by
      have h1 : (w1.alloc (.cells #[.slice (some ⟨g3, off3, none⟩) f (f + (c2 + 1)), .int .i64 s.now.ah, .int .i64 s.now.be] 81)).heap.size ≤ k := HK7.out k hk
      have h2 := OwnS.lt HO7.out k hk
      simp at h1
      omega
    refine ⟨_, _, rfl, ?_, fun k hk => ?_, hA, ?_, hU.mono (fun k hk => At.topFoot k hk), hF⟩
    · rw [HCA.out]
      have hu8 : Upd (fun k => k = w1.heap.size ∨ k = p ∨ s.uv.ownBlock = some k) w7 (w5.setCell ⟨p, 1, none⟩ (.slice A5 (n2 + 1) c5)) := by
        have a1 : Upd (fun k => k = w1.heap.size ∨ k = p ∨ s.uv.ownBlock = some k) w7 ((w7.setCell ⟨w1.heap.size, 0, none⟩ (.slice (some ⟨g3, off3, none⟩) f f)).alloc (.cells #[.slice (some ⟨g3, off3, none⟩) f f, .int .i64 s.now.ah, .int .i64 s.now.be] 81)) := ((Upd.refl _ _).setCell (.inl (.inl rfl)) _).alloc _
        have a2 := a1.trans (Upd.grown (S := fun k => k = w1.heap.size ∨ k = p ∨ s.uv.ownBlock = some k) HG5.out (fun k e => .inr (.inr (by rw [HUV.out, ← HN2.out]; exact e))))
        exact a2.setCell (.inl (.inr (.inl rfl))) _
      have h9 := OwnS.upd HO7.out hu8 (fun k hk e => by
        obtain ⟨h1, h2⟩ := hvk k hk
        rcases e with e | e | e
        · omega
        · omega
        · have := HA.out.u.lt k e
          omega)
      rw [HD.out]
      exact h9
    · obtain ⟨h1, h2⟩ := hvk k hk
      refine ⟨by omega, fun hf => ?_⟩
      rcases hF2 k hf with e | e
      · have := HA.out.lt k e
        omega
      · simp [World.setCell] at e
        omega
    · rw [HAB.out, HRES.out]
      unfold LS.back LS.abs
      simp [Gr.abs]

theorem cancel_more_false (h : At w p s) (ho : s.op = true) (hres : s.res = false) (g3 off3 f nn cc : Nat) (hfn : f < nn) (hnc : nn ≤ cc) (hdv : s.now.dv = .slice (some ⟨g3, off3, none⟩) nn cc) (hfs : s.fst = f) (hN : s.now.ds.length = nn) (hf : s.fst ≤ s.now.ds.length) (hn : s.now.ds.length ≤ 1000000000000) (hun : s.undo.length ≤ 2000) :
    Calls Tryd.prog 46 #[.pointer (some ⟨p, 0, none⟩)] w fun e w' => ∃ v s', e = .returned (.tuple #[v, .bool true]) ∧ OwnD w' v s.abs.cancelL ∧ (∀ k, v.ownBlock = some k → w.heap.size ≤ k ∧ ¬ foot p s' k) ∧ At w' p s' ∧ s'.abs = s.abs.cancel ∧ Upd (foot p s) w w' ∧ Fr w p s s' := by
  obtain ⟨i0, hi0, hz0, hz1, hz2⟩ := info_parts info_g
  obtain ⟨_, _, _, _, _, _, c6, -⟩ := h.cells
  rw [ho] at c6
  have hpw := h.blk.lt
  have HC := close_ h
  rw [hdv] at HC
  have HCL := Lib.hid HC
  have HCA : Hid (s.abs.cancelL = back (s.now.ds.drop s.fst)) := Lib.hid (by unfold LS.abs AS.cancelL; dsimp only; rw [ho]; rfl)
  have HAB : Hid (s.abs.cancel = _) := Lib.hid (show s.abs.cancel = { s.abs with cur := none, undo := if s.res = true then s.abs.undo ++ [{ s.now.abs with ds := s.now.ds.take s.fst }] else s.abs.undo } by unfold LS.abs AS.cancel; dsimp only; rw [ho]; rfl)
  have HO := Lib.hid ho
  have HA := Lib.hid h
  have HDV := Lib.hid hdv
  have HRES := Lib.hid hres
  have HFS := Lib.hid hfs
  have HF := Lib.hid hf
  have HN := Lib.hid hn
  have HLN := Lib.hid hN
  obtain ⟨A2, cr, huv, hul⟩ := h.u.form
  have HUV := Lib.hid huv
  obtain ⟨n2, hn2⟩ : ∃ n2, n2 = s.undo.length := ⟨_, rfl⟩
  have HN2 := Lib.hid hn2
  have hn3 : n2 ≤ 2000 := by omega
  have hN1 : nn ≤ 1000000000000 := by omega
  have hb0 : (0 : Int) ≤ (f : Int) := by omega
  have hb1 : (f : Int) ≤ (nn : Int) := by omega
  have hb2 : (f : Int) ≤ (cc : Int) := by omega
  have hb3 : ¬ cc = f := by omega
  have hb4 : (nn : Int) ≤ (cc : Int) := by omega
  have hb5 : ¬ cc - f = 0 := by omega
  have hb7 : (cc == f) = false := by rw [beq_eq_false_iff_ne]; omega
  have HRD : Hid (ReadsD w w.heap.size (some ⟨g3, off3 + f * 3, none⟩) (nn - f) (s.now.ds.drop s.fst)) := Lib.hid (by
    have h1 := h.d s.now (by simp [LS.groups])
    unfold OwnD at h1
    rw [hdv, hN] at h1
    have h2 := Reads.cut (OwnS.reads h1) (k := f) (by omega) hnc
    rw [if_neg (by omega), flat_drop, ← hfs] at h2
    refine ⟨by rw [List.length_drop, hN]; omega, ?_⟩
    have h3 : (some (⟨g3, off3, none⟩ : Addr)).map (fun x => x.add (s.fst * 3)) = some ⟨g3, off3 + s.fst * 3, none⟩ := by simp [add_off]
    rw [h3] at h2
    rw [← hfs]
    exact h2)
  have hN1 : f ≤ 1000000000000 := by omega
  clear h ho hdv hres hfs hf hn hN HC huv hn2 hul hun
  go_enter Tryd.func46, Tryd.ntmps46
  go_wp2_with (go_at_call 68; refine HCL.out.mono ?_; rintro e w1 ⟨rfl, hb, hu⟩; have d6 := hb.cell 8; have df := hb.frozen; simp only [LS.cells, List.getElem?_toArray, List.getElem?_cons_succ, List.getElem?_cons_zero] at d6; rw [HFS.out] at d6; have hp1 := hb.lt; have HB1 := Lib.hid hb; have HU1 := Lib.hid hu; clear hb hu)
  have HRX : Hid (ReadsD (w1.alloc (.cells #[.slice (some ⟨g3, off3, none⟩) nn cc, .int .i64 s.now.ah, .int .i64 s.now.be] 81)) (w1.alloc (.cells #[.slice (some ⟨g3, off3, none⟩) nn cc, .int .i64 s.now.ah, .int .i64 s.now.be] 81)).heap.size (some ⟨g3, off3 + f * 3, none⟩) (nn - f) (s.now.ds.drop s.fst)) := Lib.hid (by
    have hgp : g3 ≠ p := fun e => HA.out.notTop (g := s.now) (by simp [LS.groups]) (k := p) (by rw [HDV.out, e]; rfl) (.inl rfl)
    have hk : Upd (fun k => k = p) w (w1.alloc (.cells #[.slice (some ⟨g3, off3, none⟩) nn cc, .int .i64 s.now.ah, .int .i64 s.now.be] 81)) := HU1.out.alloc _
    refine ⟨HRD.out.1, HRD.out.2.1, fun h0 => ?_⟩
    obtain ⟨ad, e, hb, hc⟩ := HRD.out.2.2 h0
    refine ⟨ad, e, Nat.lt_of_lt_of_le hb hk.size, fun j u hu => hk.cell (hc j u hu) ?_⟩
    rw [block_of_add]
    injection e with e
    rw [← e]
    exact hgp)
  have HBq : Hid (Blk (w1.alloc (.cells #[.slice (some ⟨g3, off3, none⟩) nn cc, .int .i64 s.now.ah, .int .i64 s.now.be] 81)) w1.heap.size 81 #[.slice (some ⟨g3, off3, none⟩) nn cc, .int .i64 s.now.ah, .int .i64 s.now.be]) := Lib.hid (Blk.new w1 _ _)
  have HBp := Lib.hid (HB1.out.alloc (.cells #[.slice (some ⟨g3, off3, none⟩) nn cc, .int .i64 s.now.ah, .int .i64 s.now.be] 81))
  have HINV : Hid (∀ w0 : World, w0 = (w1.alloc (.cells #[.slice (some ⟨g3, off3, none⟩) nn cc, .int .i64 s.now.ah, .int .i64 s.now.be] 81)).drew → ∀ A' n' c', ReadsD (w1.alloc (.cells #[.slice (some ⟨g3, off3, none⟩) nn cc, .int .i64 s.now.ah, .int .i64 s.now.be] 81)) (w1.alloc (.cells #[.slice (some ⟨g3, off3, none⟩) nn cc, .int .i64 s.now.ah, .int .i64 s.now.be] 81)).heap.size A' n' (s.now.ds.drop s.fst) → Calls Tryd.prog 59 #[.slice A' n' c'] w0 _) := Lib.hid (fun w0 e A' n' c' hr => by subst e; exact inverted_p (w1.alloc (.cells #[.slice (some ⟨g3, off3, none⟩) nn cc, .int .i64 s.now.ah, .int .i64 s.now.be] 81)).drew A' n' c' (s.now.ds.drop s.fst) hr (by rw [← hr.1]; (simp; have := HN.out; omega)))
  have m0 := HBq.out.cell 0
  have m6 := HBp.out.cell 8
  simp only [LS.cells, List.getElem?_toArray, List.getElem?_cons_succ, List.getElem?_cons_zero] at m0 m6
  rw [HFS.out] at m6
  go_region_held3 (fun w' => w'.cell? ⟨w1.heap.size, 0, none⟩ = some (.slice (some ⟨g3, off3, none⟩) nn cc) ∧ w'.cell? ⟨p, 8, none⟩ = some (.int .i64 ((f : Nat) : Int)))
    (first | go_keep | exact ⟨l0, e6⟩ | exact ⟨m0, m6⟩)
    ((go_at_call 59; refine (HINV.out _ rfl _ _ _ HRX.out).mono ?_; rintro e w7 ⟨v7, rfl, ho7, hk7, hb7⟩; have hb7 := below_of_drew hb7; have hp7 := HBp.out.upd (Upd.below hb7 No) (fun h => h); have hq7 := HBq.out.upd (Upd.below hb7 No) (fun h => h); have e1 := hp7.cell 1; have e5 := hp7.cell 7; have e6 := hp7.cell 8; have ef := hp7.frozen; have lf := hq7.frozen; have l0 := hq7.cell 0; have l1 := hq7.cell 1; have l2 := hq7.cell 2; simp only [LS.cells, List.getElem?_toArray, List.getElem?_cons_succ, List.getElem?_cons_zero] at e1 e5 e6 l0 l1 l2; rw [HUV.out, ← HN2.out] at e1; rw [HRES.out] at e5; rw [HFS.out] at e6; have hlp := hp7.lt; have hlq := hq7.lt; have HP7 := Lib.hid hp7; have HQ7 := Lib.hid hq7; have HO7 := Lib.hid ho7; have HK7 := Lib.hid hk7; have HW7 := Lib.hid hb7; clear ho7 hk7 hb7 hp7 hq7))
  go_wp2
  go_ret2
  have hub : Upd (fun k => k = p) w w7 := (HU1.out.alloc _).then_ (Upd.below HW7.out No) (fun k hk => hk.elim)
  refine ⟨_, _, rfl, ?_, fun k hk => ?_, HA.out.closed hub HP7.out, ?_, Upd.foot1 hub, Fr.top rfl rfl rfl rfl (.inr rfl)⟩
  · rw [HCA.out]
    exact HO7.out
  · have h1 : (w1.alloc (.cells #[.slice (some ⟨g3, off3, none⟩) nn cc, .int .i64 s.now.ah, .int .i64 s.now.be] 81)).heap.size ≤ k := HK7.out k hk
    have h2 := HU1.out.size
    simp at h1
    refine ⟨by omega, fun hf => ?_⟩
    have h3 : At w1 p _ := HA.out.closed HU1.out HB1.out
    have := h3.lt k hf
    omega
  · rw [HAB.out, HRES.out]
    rfl

theorem cancel_more_true (h : At w p s) (ho : s.op = true) (hres : s.res = true) (g3 off3 f nn cc : Nat) (hfn : f < nn) (hnc : nn ≤ cc) (hdv : s.now.dv = .slice (some ⟨g3, off3, none⟩) nn cc) (hfs : s.fst = f) (hN : s.now.ds.length = nn) (hf : s.fst ≤ s.now.ds.length) (hn : s.now.ds.length ≤ 1000000000000) (hun : s.undo.length ≤ 2000) :
    Calls Tryd.prog 46 #[.pointer (some ⟨p, 0, none⟩)] w fun e w' => ∃ v s', e = .returned (.tuple #[v, .bool true]) ∧ OwnD w' v s.abs.cancelL ∧ (∀ k, v.ownBlock = some k → w.heap.size ≤ k ∧ ¬ foot p s' k) ∧ At w' p s' ∧ s'.abs = s.abs.cancel ∧ Upd (foot p s) w w' ∧ Fr w p s s' := by
  obtain ⟨i0, hi0, hz0, hz1, hz2⟩ := info_parts info_g
  obtain ⟨_, _, _, _, _, _, c6, -⟩ := h.cells
  rw [ho] at c6
  have hpw := h.blk.lt
  have HC := close_ h
  rw [hdv] at HC
  have HCL := Lib.hid HC
  have HCA : Hid (s.abs.cancelL = back (s.now.ds.drop s.fst)) := Lib.hid (by unfold LS.abs AS.cancelL; dsimp only; rw [ho]; rfl)
  have HAB : Hid (s.abs.cancel = _) := Lib.hid (show s.abs.cancel = { s.abs with cur := none, undo := if s.res = true then s.abs.undo ++ [{ s.now.abs with ds := s.now.ds.take s.fst }] else s.abs.undo } by unfold LS.abs AS.cancel; dsimp only; rw [ho]; rfl)
  have HO := Lib.hid ho
  have HA := Lib.hid h
  have HDV := Lib.hid hdv
  have HRES := Lib.hid hres
  have HFS := Lib.hid hfs
  have HF := Lib.hid hf
  have HN := Lib.hid hn
  have HLN := Lib.hid hN
  obtain ⟨A2, cr, huv, hul⟩ := h.u.form
  have HUV := Lib.hid huv
  obtain ⟨n2, hn2⟩ : ∃ n2, n2 = s.undo.length := ⟨_, rfl⟩
  have HN2 := Lib.hid hn2
  have hn3 : n2 ≤ 2000 := by omega
  have hN1 : nn ≤ 1000000000000 := by omega
  have hb0 : (0 : Int) ≤ (f : Int) := by omega
  have hb1 : (f : Int) ≤ (nn : Int) := by omega
  have hb2 : (f : Int) ≤ (cc : Int) := by omega
  have hb3 : ¬ cc = f := by omega
  have hb4 : (nn : Int) ≤ (cc : Int) := by omega
  have hb5 : ¬ cc - f = 0 := by omega
  have hb7 : (cc == f) = false := by rw [beq_eq_false_iff_ne]; omega
  have HRD : Hid (ReadsD w w.heap.size (some ⟨g3, off3 + f * 3, none⟩) (nn - f) (s.now.ds.drop s.fst)) := Lib.hid (by
    have h1 := h.d s.now (by simp [LS.groups])
    unfold OwnD at h1
    rw [hdv, hN] at h1
    have h2 := Reads.cut (OwnS.reads h1) (k := f) (by omega) hnc
    rw [if_neg (by omega), flat_drop, ← hfs] at h2
    refine ⟨by rw [List.length_drop, hN]; omega, ?_⟩
    have h3 : (some (⟨g3, off3, none⟩ : Addr)).map (fun x => x.add (s.fst * 3)) = some ⟨g3, off3 + s.fst * 3, none⟩ := by simp [add_off]
    rw [h3] at h2
    rw [← hfs]
    exact h2)
  have hN1 : f ≤ 1000000000000 := by omega
  clear h ho hdv hres hfs hf hn hN HC huv hn2 hul hun
  go_enter Tryd.func46, Tryd.ntmps46
  go_wp2_with (go_at_call 68; refine HCL.out.mono ?_; rintro e w1 ⟨rfl, hb, hu⟩; have d6 := hb.cell 8; have df := hb.frozen; simp only [LS.cells, List.getElem?_toArray, List.getElem?_cons_succ, List.getElem?_cons_zero] at d6; rw [HFS.out] at d6; have hp1 := hb.lt; have HB1 := Lib.hid hb; have HU1 := Lib.hid hu; clear hb hu)
  have HRX : Hid (ReadsD (w1.alloc (.cells #[.slice (some ⟨g3, off3, none⟩) nn cc, .int .i64 s.now.ah, .int .i64 s.now.be] 81)) (w1.alloc (.cells #[.slice (some ⟨g3, off3, none⟩) nn cc, .int .i64 s.now.ah, .int .i64 s.now.be] 81)).heap.size (some ⟨g3, off3 + f * 3, none⟩) (nn - f) (s.now.ds.drop s.fst)) := Lib.hid (by
    have hgp : g3 ≠ p := fun e => HA.out.notTop (g := s.now) (by simp [LS.groups]) (k := p) (by rw [HDV.out, e]; rfl) (.inl rfl)
    have hk : Upd (fun k => k = p) w (w1.alloc (.cells #[.slice (some ⟨g3, off3, none⟩) nn cc, .int .i64 s.now.ah, .int .i64 s.now.be] 81)) := HU1.out.alloc _
    refine ⟨HRD.out.1, HRD.out.2.1, fun h0 => ?_⟩
    obtain ⟨ad, e, hb, hc⟩ := HRD.out.2.2 h0
    refine ⟨ad, e, Nat.lt_of_lt_of_le hb hk.size, fun j u hu => hk.cell (hc j u hu) ?_⟩
    rw [block_of_add]
    injection e with e
    rw [← e]
    exact hgp)
  have HBq : Hid (Blk (w1.alloc (.cells #[.slice (some ⟨g3, off3, none⟩) nn cc, .int .i64 s.now.ah, .int .i64 s.now.be] 81)) w1.heap.size 81 #[.slice (some ⟨g3, off3, none⟩) nn cc, .int .i64 s.now.ah, .int .i64 s.now.be]) := Lib.hid (Blk.new w1 _ _)
  have HBp := Lib.hid (HB1.out.alloc (.cells #[.slice (some ⟨g3, off3, none⟩) nn cc, .int .i64 s.now.ah, .int .i64 s.now.be] 81))
  have HINV : Hid (∀ w0 : World, w0 = (w1.alloc (.cells #[.slice (some ⟨g3, off3, none⟩) nn cc, .int .i64 s.now.ah, .int .i64 s.now.be] 81)).drew → ∀ A' n' c', ReadsD (w1.alloc (.cells #[.slice (some ⟨g3, off3, none⟩) nn cc, .int .i64 s.now.ah, .int .i64 s.now.be] 81)) (w1.alloc (.cells #[.slice (some ⟨g3, off3, none⟩) nn cc, .int .i64 s.now.ah, .int .i64 s.now.be] 81)).heap.size A' n' (s.now.ds.drop s.fst) → Calls Tryd.prog 59 #[.slice A' n' c'] w0 _) := Lib.hid (fun w0 e A' n' c' hr => by subst e; exact inverted_p (w1.alloc (.cells #[.slice (some ⟨g3, off3, none⟩) nn cc, .int .i64 s.now.ah, .int .i64 s.now.be] 81)).drew A' n' c' (s.now.ds.drop s.fst) hr (by rw [← hr.1]; (simp; have := HN.out; omega)))
  have m0 := HBq.out.cell 0
  have m6 := HBp.out.cell 8
  simp only [LS.cells, List.getElem?_toArray, List.getElem?_cons_succ, List.getElem?_cons_zero] at m0 m6
  rw [HFS.out] at m6
  go_region_held3 (fun w' => w'.cell? ⟨w1.heap.size, 0, none⟩ = some (.slice (some ⟨g3, off3, none⟩) nn cc) ∧ w'.cell? ⟨p, 8, none⟩ = some (.int .i64 ((f : Nat) : Int)))
    (first | go_keep | exact ⟨l0, e6⟩ | exact ⟨m0, m6⟩)
    ((go_at_call 59; refine (HINV.out _ rfl _ _ _ HRX.out).mono ?_; rintro e w7 ⟨v7, rfl, ho7, hk7, hb7⟩; have hb7 := below_of_drew hb7; have hp7 := HBp.out.upd (Upd.below hb7 No) (fun h => h); have hq7 := HBq.out.upd (Upd.below hb7 No) (fun h => h); have e1 := hp7.cell 1; have e5 := hp7.cell 7; have e6 := hp7.cell 8; have ef := hp7.frozen; have lf := hq7.frozen; have l0 := hq7.cell 0; have l1 := hq7.cell 1; have l2 := hq7.cell 2; simp only [LS.cells, List.getElem?_toArray, List.getElem?_cons_succ, List.getElem?_cons_zero] at e1 e5 e6 l0 l1 l2; rw [HUV.out, ← HN2.out] at e1; rw [HRES.out] at e5; rw [HFS.out] at e6; have hlp := hp7.lt; have hlq := hq7.lt; have HP7 := Lib.hid hp7; have HQ7 := Lib.hid hq7; have HO7 := Lib.hid ho7; have HK7 := Lib.hid hk7; have HW7 := Lib.hid hb7; clear ho7 hk7 hb7 hp7 hq7))
  have hqp : ¬ p = w1.heap.size := by omega
  have hqp2 : ¬ w1.heap.size = p := by omega
  have hub : Upd (fun k => k = p) w w7 := (HU1.out.alloc _).then_ (Upd.below HW7.out No) (fun k hk => hk.elim)
  have hws : w.heap.size ≤ w1.heap.size := HU1.out.size
  have hWu : Upd (fun k => k = p) w ((w7.setCell ⟨w1.heap.size, 0, none⟩ (.slice (some ⟨g3, off3, none⟩) f f)).alloc (.cells #[.slice (some ⟨g3, off3, none⟩) f f, .int .i64 s.now.ah, .int .i64 s.now.be] 81)) := (hub.setCell (.inr hws) _).alloc _
  have hWB : Blk ((w7.setCell ⟨w1.heap.size, 0, none⟩ (.slice (some ⟨g3, off3, none⟩) f f)).alloc (.cells #[.slice (some ⟨g3, off3, none⟩) f f, .int .i64 s.now.ah, .int .i64 s.now.be] 81)) p 83 ({ s with now := g0, op := false } : LS).cells := (HP7.out.far (p := ⟨w1.heap.size, 0, none⟩) hqp _).alloc _
  have hor := HA.out.u.upd hWu (fun k hk e => HA.out.up (by rw [← e]; exact hk))
  rw [HUV.out, ← HN2.out] at hor
  have HOr := Lib.hid hor
  have hrn := reads_g (w7.setCell ⟨w1.heap.size, 0, none⟩ (.slice (some ⟨g3, off3, none⟩) f f)) ⟨.slice (some ⟨g3, off3, none⟩) f f, s.now.ds.take s.fst, s.now.ah, s.now.be⟩
  rw [show (w7.setCell ⟨w1.heap.size, 0, none⟩ (.slice (some ⟨g3, off3, none⟩) f f)).heap.size = w7.heap.size by simp [World.setCell]] at hrn
  have HRn := Lib.hid hrn
  have HC1 := Lib.hid (one_g ⟨.slice (some ⟨g3, off3, none⟩) f f, s.now.ds.take s.fst, s.now.ah, s.now.be⟩ _ _ _ rfl)
  have HFIN : Hid (∀ v5 w5, _ → _ → _ → _) := Lib.hid (fun v5 w5 => At.cancelled (v5 := v5) (w5 := w5) HA.out (A3 := (some ⟨g3, off3, none⟩)) (cd := cc) (HDV.out.trans (by rw [HLN.out])) HF.out hWu hWB)
  have HWu := Lib.hid hWu
  have HWB := Lib.hid hWB
  have HUP := Lib.hid HA.out.up
  clear hor hrn hWu hWB
  go_wp2
  go_region
  all_goals
    go_wp2
    go_region_law (first
      | (refine step_append_s (v := .slice A2 n2 cr) (by rfl) _ _ _ (by rfl) Tryd.underlying79 hi0 hz0 hz1 hz2 rfl (by omega) (by rfl) HOr.out (by rfl) HRn.out HC1.out (by unfold maxLen; omega) (by omega) ?_; intro v5 w5 ho5 hg5 hb5; have HO5 := Lib.hid ho5; have HG5 := Lib.hid (gdr hg5); have HB5 := Lib.hid hb5; have hb6 := HWB.out.upd (Upd.grown (S := fun k => (Value.slice A2 n2 cr).ownBlock = some k) HG5.out (fun k e => e)) (fun e => HUP.out (by rw [HUV.out, ← HN2.out]; exact e)); have f0 := hb6.cell 0; have f1 := hb6.cell 1; have ff := hb6.frozen; have hlp5 := hb6.lt; obtain ⟨A5, c5, hv5, hl5⟩ := HO5.out.form; subst hv5; clear ho5 hg5 hb5 hb6; simp only [LS.cells, List.getElem?_toArray, List.getElem?_cons_succ, List.getElem?_cons_zero] at f0 f1; rw [HUV.out, ← HN2.out] at f1))
  all_goals
    have hfin := HFIN.out (.slice A5 (n2 + 1) c5) w5 (by rw [← HN2.out]; show OwnS _ _ _ _ _ (_ ++ Gr.cells ⟨.slice _ s.fst s.fst, _, _, _⟩); rw [HFS.out]; exact HO5.out) (by rw [HUV.out, ← HN2.out]; exact HG5.out) (by rw [HUV.out, ← HN2.out]; exact HB5.out)
    have HFN := Lib.hid hfin
    clear hfin
    go_wp2
    go_ret2
    obtain ⟨hA, hU, hF, hF2⟩ := HFN.out
    have hvk : ∀ k, v7.ownBlock = some k → w1.heap.size < k ∧ k < w7.heap.size := fun k hk => by
      have h1 : (w1.alloc (.cells #[.slice (some ⟨g3, off3, none⟩) nn cc, .int .i64 s.now.ah, .int .i64 s.now.be] 81)).heap.size ≤ k := HK7.out k hk
      have h2 := OwnS.lt HO7.out k hk
      simp at h1
      omega
    refine ⟨_, _, rfl, ?_, fun k hk => ?_, hA, ?_, hU.mono (fun k hk => At.topFoot k hk), hF⟩
    · rw [HCA.out]
      have hu8 : Upd (fun k => k = w1.heap.size ∨ k = p ∨ s.uv.ownBlock = some k) w7 (w5.setCell ⟨p, 1, none⟩ (.slice A5 (n2 + 1) c5)) := by
        have a1 : Upd (fun k => k = w1.heap.size ∨ k = p ∨ s.uv.ownBlock = some k) w7 ((w7.setCell ⟨w1.heap.size, 0, none⟩ (.slice (some ⟨g3, off3, none⟩) f f)).alloc (.cells #[.slice (some ⟨g3, off3, none⟩) f f, .int .i64 s.now.ah, .int .i64 s.now.be] 81)) := ((Upd.refl _ _).setCell (.inl (.inl rfl)) _).alloc _
        have a2 := a1.trans (Upd.grown (S := fun k => k = w1.heap.size ∨ k = p ∨ s.uv.ownBlock = some k) HG5.out (fun k e => .inr (.inr (by rw [HUV.out, ← HN2.out]; exact e))))
        exact a2.setCell (.inl (.inr (.inl rfl))) _
      have h9 := OwnS.upd HO7.out hu8 (fun k hk e => by
        obtain ⟨h1, h2⟩ := hvk k hk
        rcases e with e | e | e
        · omega
        · omega
        · have := HA.out.u.lt k e
          omega)
      exact h9
    · obtain ⟨h1, h2⟩ := hvk k hk
      refine ⟨by omega, fun hf => ?_⟩
      rcases hF2 k hf with e | e
      · have := HA.out.lt k e
        omega
      · simp [World.setCell] at e
        omega
    · rw [HAB.out, HRES.out]
      unfold LS.back LS.abs
      simp [Gr.abs]

end
end LogI
end Go.Proofs.YtkpcnfchhnfpoaaDoor
