/- The document's log in memory: what lies where; its small methods. -/
import Derived.Test.YtkpcnfchhnfpoaaDoorLogIBox
import Derived.Test.YtkpcnfchhnfpoaaDoorLogIAdd
set_option linter.unusedVariables false
namespace Go.Proofs.YtkpcnfchhnfpoaaDoor
open Go.RowKit Go.Proofs.YtkpcnfchhnfpoaaDoorW.PrintWords Go.Proofs.YtkpcnfchhnfpoaaDoor.Sep Log
open LogI (Gr g0 flat_glen flat_last flat_init flat_push one_g one_gs blk_new_set ls_cases)
namespace RefL
abbrev A := Int
abbrev zA : A := 0
theorem info91 : (Tryd.prog.info? 91).map (fun i => (i.zero, i.size, i.bytes)) = some (some (.agg #[.slice none 0 0, .int .i64 0, .int .i64 0]), 3, 40) := by kernel_rfl
structure RS where
  bound : Nat
  uv : Value
  rv : Value
  undo : List Gr
  redo : List Gr
  now : Gr
  op : Bool
  had : Nat
  res : Bool
def RS.cells (s : RS) : Array Value := #[.int .i64 (s.bound : Int), s.uv, s.rv, .bool s.op, s.now.dv, .int .i64 s.now.ah, .int .i64 s.now.be, .int .i64 (s.had : Int), .bool s.res]
def RS.groups (s : RS) : List Gr := s.now :: (s.undo ++ s.redo)
def RS.abs (s : RS) : AS A := ⟨s.bound, s.undo.map Gr.abs, s.redo.map Gr.abs, if s.op = true then some (s.now.abs, s.res, s.had) else none⟩
structure RAt (w : World) (p : Nat) (s : RS) : Prop where
  blk : Blk w p 93 s.cells
  u : OwnS w 91 3 s.uv s.undo.length (s.undo.flatMap Gr.cells)
  r : OwnS w 91 3 s.rv s.redo.length (s.redo.flatMap Gr.cells)
  ur : ∀ k, s.uv.ownBlock = some k → s.rv.ownBlock ≠ some k
  d : ∀ g ∈ s.groups, OwnD w g.dv g.ds
def top (p : Nat) (s : RS) : Nat → Prop := fun k => k = p ∨ s.uv.ownBlock = some k ∨ s.rv.ownBlock = some k
def foot (p : Nat) (s : RS) : Nat → Prop := fun k => k = p ∨ s.uv.ownBlock = some k ∨ s.rv.ownBlock = some k ∨ ∃ g ∈ s.groups, g.dv.ownBlock = some k
def Fr (w : World) (p : Nat) (s s' : RS) : Prop := ∀ k, foot p s' k → foot p s k ∨ w.heap.size ≤ k
theorem foot_p (p : Nat) (s : RS) : foot p s p := Or.inl rfl
def Left (w w' : World) (p : Nat) (s : RS) (a : AS A) : Prop := ∃ s', RAt w' p s' ∧ s'.abs = a ∧ Upd (foot p s) w w' ∧ Fr w p s s'
def LeftL (w w' : World) (p : Nat) (s : RS) (a : AS A) (v : Value) (ds : List Delta) : Prop := ∃ s', RAt w' p s' ∧ s'.abs = a ∧ Upd (foot p s) w w' ∧ Fr w p s s' ∧ OwnD w' v ds ∧ ∀ k, v.ownBlock = some k → w.heap.size ≤ k ∧ ¬ foot p s' k
section
variable {w w' W : World} {p : Nat} {s s' : RS} {S : Nat → Prop} {init : List Gr} {g : Gr} {N : Nat}
theorem RAt.cells (h : RAt w p s) : w.cell? ⟨p, 0, none⟩ = some (.int .i64 (s.bound : Int)) ∧ w.cell? ⟨p, 1, none⟩ = some s.uv ∧ w.cell? ⟨p, 2, none⟩ = some s.rv ∧ w.cell? ⟨p, 3, none⟩ = some (.bool s.op) ∧ w.cell? ⟨p, 4, none⟩ = some s.now.dv ∧ w.cell? ⟨p, 5, none⟩ = some (.int .i64 s.now.ah) ∧ w.cell? ⟨p, 6, none⟩ = some (.int .i64 s.now.be) ∧ w.cell? ⟨p, 7, none⟩ = some (.int .i64 (s.had : Int)) ∧ w.cell? ⟨p, 8, none⟩ = some (.bool s.res) ∧ ∀ j, w.frozen? ⟨p, j, none⟩ = false :=
  ⟨h.blk.cell 0, h.blk.cell 1, h.blk.cell 2, h.blk.cell 3, h.blk.cell 4, h.blk.cell 5, h.blk.cell 6, h.blk.cell 7, h.blk.cell 8, h.blk.frozen⟩
theorem topFoot : ∀ k, top p s k → foot p s k := fun k h => by
  rcases h with h | h | h
  · exact .inl h
  · exact .inr (.inl h)
  · exact .inr (.inr (.inl h))
theorem RAt.lt (h : RAt w p s) : ∀ k, foot p s k → k < w.heap.size := by
  rintro k (rfl | hk | hk | ⟨g, hg, hk⟩)
  · exact h.blk.lt
  · exact h.u.lt k hk
  · exact h.r.lt k hk
  · exact OwnS.lt (h.d g hg) k hk
theorem RAt.upd (h : RAt w p s) (u : Upd S w w') (hn : ∀ k, foot p s k → ¬ S k) : RAt w' p s :=
  ⟨h.blk.upd u (hn p (.inl rfl)), h.u.upd u (fun k hk => hn k (.inr (.inl hk))), h.r.upd u (fun k hk => hn k (.inr (.inr (.inl hk)))), h.ur, fun g hg => OwnS.upd (h.d g hg) u (fun k hk => hn k (.inr (.inr (.inr ⟨g, hg, hk⟩))))⟩
theorem RAt.below (h : RAt w p s) (hb : Below w.heap.size w w') : RAt w' p s := h.upd (Upd.below hb No) (fun _ _ h => h)
theorem RAt.notTop (h : RAt w p s) {g : Gr} (hg : g ∈ s.groups) {k : Nat} (hk : g.dv.ownBlock = some k) : ¬ top p s k := by
  rintro (rfl | hu | hu)
  · exact OwnS.ne_blk (h.d g hg) h.blk (by decide) hk
  · exact OwnS.ne_own (h.d g hg) h.u (by decide) hk hu
  · exact OwnS.ne_own (h.d g hg) h.r (by decide) hk hu
theorem RAt.dKeep (h : RAt w p s) (u : Upd S w w') (hS : ∀ k, S k → top p s k) : ∀ g ∈ s.groups, OwnD w' g.dv g.ds :=
  fun g hg => OwnS.upd (h.d g hg) u (fun k hk hs => h.notTop hg hk (hS k hs))
theorem RAt.up (h : RAt w p s) : s.uv.ownBlock ≠ some p := h.u.ne_blk h.blk (by decide)
theorem RAt.rp (h : RAt w p s) : s.rv.ownBlock ≠ some p := h.r.ne_blk h.blk (by decide)
theorem Upd.foot1 (u : Upd (fun k => k = p) w w') : Upd (foot p s) w w' := u.mono (fun k hk => by subst hk; exact foot_p _ _)
theorem Upd.top1 (u : Upd (fun k => k = p) w w') : Upd (top p s) w w' := u.mono (fun k hk => .inl hk)
theorem Fr.refl (w : World) (p : Nat) (s : RS) : Fr w p s s := fun k h => .inl h
theorem Left.same (h : RAt w p s) (hw : w = w') (a : AS A) (ha : s.abs = a) : Left w w' p s a := by
  subst hw; subst ha
  exact ⟨s, h, rfl, Upd.refl _ _, Fr.refl _ _ _⟩
theorem LeftL.same (h : RAt w p s) (hw : w = w') (a : AS A) (ha : s.abs = a) : LeftL w w' p s a (.slice none 0 0) [] := by
  obtain ⟨s', h1, h2, h3, h4⟩ := Left.same h hw a ha
  exact ⟨s', h1, h2, h3, h4, OwnS.nil _ _ _, fun k hk => by cases hk⟩
/-- Groups come from groups. -/
def From (s s' : RS) : Prop := ∀ g ∈ s'.groups, (∃ g1 ∈ s.groups, g.dv.ownBlock = g1.dv.ownBlock) ∨ g.dv.ownBlock = none
theorem Fr.build (hu : ∀ k, s'.uv.ownBlock = some k → s.uv.ownBlock = some k ∨ w.heap.size ≤ k) (hr : ∀ k, s'.rv.ownBlock = some k → s.rv.ownBlock = some k ∨ w.heap.size ≤ k) (hg : From s s') : Fr w p s s' := by
  rintro k (hk | hk | hk | ⟨g, hgm, hk⟩)
  · exact .inl (.inl hk)
  · exact (hu k hk).imp (fun e => .inr (.inl e)) id
  · exact (hr k hk).imp (fun e => .inr (.inr (.inl e))) id
  · rcases hg g hgm with ⟨g1, h1, e1⟩ | e1
    · exact .inl (.inr (.inr (.inr ⟨g1, h1, by rw [← e1]; exact hk⟩)))
    · rw [e1] at hk
      cases hk
theorem From.sub (h : ∀ g ∈ s'.groups, g ∈ s.groups) : From s s' := fun g hg => .inl ⟨g, h g hg, rfl⟩
/-- Only the log's own block was written; the rows are as they were. -/
theorem RAt.top_ (h : RAt w p s) (u : Upd (fun k => k = p) w w') (hb : Blk w' p 93 s'.cells) (hu : s'.uv = s.uv) (hr : s'.rv = s.rv) (hun : s'.undo = s.undo) (hre : s'.redo = s.redo)
    (hd : (s'.now.dv = s.now.dv ∧ s'.now.ds = s.now.ds) ∨ (s'.now.dv = .slice none 0 0 ∧ s'.now.ds = [])) : RAt w' p s' ∧ Upd (foot p s) w w' ∧ Fr w p s s' := by
  have hD := h.dKeep u (fun k hk => .inl hk)
  have hg : s'.groups = s'.now :: (s.undo ++ s.redo) := by unfold RS.groups; rw [hun, hre]
  refine ⟨⟨hb, ?_, ?_, by rw [hu, hr]; exact h.ur, fun g hgm => ?_⟩, Upd.foot1 u, Fr.build (fun k hk => .inl (by rw [← hu]; exact hk)) (fun k hk => .inl (by rw [← hr]; exact hk)) (fun g hgm => ?_)⟩
  · rw [hu, hun]
    exact h.u.upd u (fun k hk e => h.up (by rw [← e]; exact hk))
  · rw [hr, hre]
    exact h.r.upd u (fun k hk e => h.rp (by rw [← e]; exact hk))
  · rw [hg] at hgm
    rcases List.mem_cons.1 hgm with rfl | hgm
    · rcases hd with ⟨e1, e2⟩ | ⟨e1, e2⟩
      · rw [e1, e2]
        exact hD s.now (by simp [RS.groups])
      · unfold OwnD
        rw [e1, e2]
        exact OwnS.nil _ _ _
    · exact hD g (by unfold RS.groups; exact List.mem_cons_of_mem _ hgm)
  · rw [hg] at hgm
    rcases List.mem_cons.1 hgm with rfl | hgm
    · rcases hd with ⟨e1, e2⟩ | ⟨e1, e2⟩
      · exact .inl ⟨s.now, by simp [RS.groups], by rw [e1]⟩
      · exact .inr (by rw [e1]; rfl)
    · exact .inl ⟨g, by unfold RS.groups; exact List.mem_cons_of_mem _ hgm, rfl⟩
theorem Blk.eq_ {w : World} {g : Nat} {t : TypeId} {cs cs' : Array Value} (h : Blk w g t cs) (e : cs = cs') : Blk w g t cs' := e ▸ h
end
section
variable {w w' W : World} {p : Nat} {s s' : RS} {S : Nat → Prop} {init : List Gr} {g : Gr} {N : Nat}
set_option maxHeartbeats 3200000
set_option maxRecDepth 100000
theorem new_w (w : World) (b : Nat) (n : Int) (hb : (min (max n 0) 1000).toNat = b) : Calls Tryd.prog 28 #[.int .i64 n] w fun e w' => e = .returned (.pointer (some ⟨w.heap.size, 0, none⟩)) ∧ w' = w.alloc (.cells #[.int .i64 (b : Int), .slice none 0 0, .slice none 0 0, .bool false, .slice none 0 0, .int .i64 0, .int .i64 0, .int .i64 0, .bool false] 93) := by
  by_cases h1 : n < 0
  · have hb0 : b = 0 := by omega
    subst hb0
    have e1 : decide (n < 0) = true := by simp [h1]
    clear hb h1
    go_enter Tryd.func28, Tryd.ntmps28
    go_wp2
    go_ret
    exact ⟨rfl, rfl⟩
  · obtain ⟨m, rfl⟩ : ∃ m : Nat, n = m := ⟨n.toNat, by omega⟩
    by_cases h2 : 1000 < m
    · have hb0 : b = 1000 := by omega
      subst hb0
      have e2 : decide ((1000 : Int) < (m : Int)) = true := by simp; omega
      have e3 : decide (1000 < m) = true := by simp [h2]
      clear hb h1 h2
      go_enter Tryd.func28, Tryd.ntmps28
      go_wp2
      go_ret
      exact ⟨rfl, rfl⟩
    · have hb0 : b = m := by omega
      subst hb0
      have e2 : decide ((1000 : Int) < (b : Int)) = false := by simp; omega
      have e3 : decide (1000 < b) = false := by simp; omega
      clear hb h1 h2
      go_enter Tryd.func28, Tryd.ntmps28
      go_wp2
      go_ret
      exact ⟨rfl, rfl⟩
theorem new_ (w : World) (n : Int) : Calls Tryd.prog 28 #[.int .i64 n] w fun e w' => ∃ p s', e = .returned (.pointer (some ⟨p, 0, none⟩)) ∧ RAt w' p s' ∧ s'.abs = AS.new (min (max n 0) 1000).toNat ∧ (∀ k, foot p s' k → w.heap.size ≤ k) ∧ Below w.heap.size w w' := by
  refine (new_w w _ n rfl).mono ?_
  rintro e w' ⟨rfl, rfl⟩
  refine ⟨w.heap.size, ⟨(min (max n 0) 1000).toNat, .slice none 0 0, .slice none 0 0, [], [], g0, false, 0, false⟩, rfl, ⟨Blk.new _ _ _, OwnS.nil _ _ _, OwnS.nil _ _ _, (fun k h => by cases h), fun g hg => ?_⟩, rfl, ?_, (Below.refl _ _).alloc (Nat.le_refl _) _⟩
  · simp [RS.groups] at hg
    subst hg
    exact OwnS.nil _ _ _
  · rintro k (rfl | hk | hk | ⟨g, hg, hk⟩)
    · exact Nat.le_refl _
    · cases hk
    · cases hk
    · simp [RS.groups] at hg
      subst hg
      cases hk
theorem begin_no (h : RAt w p s) (ho : s.op = true) (x : A) : Calls Tryd.prog 60 #[.pointer (some ⟨p, 0, none⟩), .int .i64 x] w fun e w' => e = .returned (.bool false) ∧ w = w' := by
  obtain ⟨_, _, _, c3, -⟩ := h.cells
  rw [ho] at c3
  clear h ho
  go_enter Tryd.func60, Tryd.ntmps60
  go_wp2
  go_ret
  exact ⟨rfl, rfl⟩
theorem begin_yes (h : RAt w p s) (ho : s.op = false) (x : A) : Calls Tryd.prog 60 #[.pointer (some ⟨p, 0, none⟩), .int .i64 x] w fun e w' => e = .returned (.bool true) ∧ Left w w' p s (s.abs.begin_ zA x) := by
  obtain ⟨c0, c1, c2, c3, c4, c5, c6, c7, c8, cf⟩ := h.cells
  have HA := Lib.hid h
  have HS : Hid (s.abs.begin_ zA x = (⟨s.bound, s.uv, s.rv, s.undo, s.redo, ⟨.slice none 0 0, [], x, zA⟩, true, 0, false⟩ : RS).abs) := Lib.hid (by unfold RS.abs AS.begin_; rw [ho]; rfl)
  rw [ho] at c3
  have hbw := h.blk.lt
  have HFIN : Hid (∀ w', Upd (fun k => k = p) w w' → Blk w' p 93 (⟨s.bound, s.uv, s.rv, s.undo, s.redo, ⟨.slice none 0 0, [], x, zA⟩, true, 0, false⟩ : RS).cells → Left w w' p s (s.abs.begin_ zA x)) := Lib.hid (fun w' u b => by
    obtain ⟨h1, h2, h3⟩ := h.top_ u b rfl rfl rfl rfl (.inr ⟨rfl, rfl⟩)
    exact ⟨_, h1, HS.out.symm, h2, h3⟩)
  clear h ho
  go_enter Tryd.func60, Tryd.ntmps60
  go_wp2
  go_ret
  exact ⟨rfl, HFIN.out _ (by (repeat' (first | with_reducible exact Upd.refl _ _ | with_reducible refine Upd.drewN ?_ _ | with_reducible refine Upd.drew ?_ | with_reducible refine Upd.alloc ?_ _ | (with_reducible refine Upd.setCell ?_ ?_ _; rotate_left; first | exact Or.inl rfl | exact Or.inl (foot_p _ _))))) (by (apply Blk.eq_; (focus (repeat' (first | with_reducible exact HA.out.blk | with_reducible apply Blk.drewN | with_reducible apply Blk.drew | with_reducible apply Blk.set_ | with_reducible apply Blk.alloc))); all_goals (simp only [RS.cells, List.setIfInBounds_toArray, List.set_cons_succ, List.set_cons_zero] <;> rfl)))⟩
end
end RefL
end Go.Proofs.YtkpcnfchhnfpoaaDoor
/- The document's log: Clear, Resume; a group goes from one row to another. -/
set_option linter.unusedVariables false
namespace Go.Proofs.YtkpcnfchhnfpoaaDoor
open Go.RowKit Go.Proofs.YtkpcnfchhnfpoaaDoorW.PrintWords Go.Proofs.YtkpcnfchhnfpoaaDoor.Sep Log
open LogI (Gr g0 flat_glen flat_last flat_init flat_push one_g one_gs blk_new_set ls_cases)
namespace RefL
section
variable {w w' w5 W : World} {p : Nat} {s s' : RS} {S : Nat → Prop} {init : List Gr} {g : Gr} {N : Nat} {v5 : Value}
set_option maxHeartbeats 3200000
set_option maxRecDepth 100000
theorem reads_gr (w : World) (g : Gr) : Reads (w.alloc (.cells #[g.dv, .int .i64 g.ah, .int .i64 g.be] 91)) (w.heap.size + 1) 3 (some ⟨w.heap.size, 0, none⟩) 1 g.cells := by
  have := (OwnS.new w 91 3 1 g.cells rfl (by unfold maxLen; omega)).reads
  simpa [Gr.cells] using this
theorem abs_open : s.abs.isOpen = s.op := by
  unfold RS.abs AS.isOpen
  cases s.op <;> rfl
theorem bounds (hi : AS.Inv N s.abs) (hN : N ≤ 100000000000) : s.bound ≤ 1000 ∧ s.undo.length ≤ 1000 ∧ s.redo.length ≤ 1000 ∧ (∀ g ∈ s.undo ++ s.redo, g.ds.length ≤ N) ∧ (s.op = true → s.now.ds.length ≤ N ∧ s.had ≤ s.now.ds.length) := by
  have hb := hi.b
  have hn := hi.n
  have hd := hi.d
  have hc := hi.c
  unfold RS.abs at hb hn hd hc
  dsimp only at hb hn hd hc
  rw [List.length_map, List.length_map] at hn
  refine ⟨hb, by omega, by omega, fun g hg => ?_, fun ho => ?_⟩
  · refine hd g.abs ?_
    rw [← List.map_append]
    exact List.mem_map_of_mem hg
  · exact hc s.now.abs s.res s.had (by rw [if_pos ho])
theorem RAt.build (h : RAt w p s) (u : Upd (top p s) w w') (hb : Blk w' p 93 s'.cells) (hU : OwnS w' 91 3 s'.uv s'.undo.length (s'.undo.flatMap Gr.cells)) (hR : OwnS w' 91 3 s'.rv s'.redo.length (s'.redo.flatMap Gr.cells))
    (hur : ∀ k, s'.uv.ownBlock = some k → s'.rv.ownBlock ≠ some k) (hg : ∀ g ∈ s'.groups, ∃ g1 ∈ s.groups, g.dv = g1.dv ∧ g.ds = g1.ds) (hu2 : ∀ k, s'.uv.ownBlock = some k → s.uv.ownBlock = some k ∨ w.heap.size ≤ k) (hr2 : ∀ k, s'.rv.ownBlock = some k → s.rv.ownBlock = some k ∨ w.heap.size ≤ k) :
    RAt w' p s' ∧ Upd (foot p s) w w' ∧ Fr w p s s' := by
  refine ⟨⟨hb, hU, hR, hur, fun g hgm => ?_⟩, u.mono topFoot, Fr.build hu2 hr2 (fun g hgm => ?_)⟩
  · obtain ⟨g1, h1, e1, e2⟩ := hg g hgm
    rw [e1, e2]
    exact h.dKeep u (fun k hk => hk) g1 h1
  · obtain ⟨g1, h1, e1, e2⟩ := hg g hgm
    exact .inl ⟨g1, h1, by rw [e1]⟩
theorem clear_ (h : RAt w p s) : Calls Tryd.prog 67 #[.pointer (some ⟨p, 0, none⟩)] w fun e w' => e = .returned (.tuple #[]) ∧ Left w w' p s s.abs.clear := by
  obtain ⟨c0, c1, c2, c3, c4, c5, c6, c7, c8, cf⟩ := h.cells
  have hbw := h.blk.lt
  have HA := Lib.hid h
  have HFIN : Hid (∀ w', Upd (fun k => k = p) w w' → Blk w' p 93 (⟨s.bound, .slice none 0 0, .slice none 0 0, [], [], s.now, false, s.had, s.res⟩ : RS).cells → Left w w' p s s.abs.clear) := Lib.hid (fun w' u b => by
    obtain ⟨h1, h2, h3⟩ := h.build (Upd.top1 u) b (OwnS.nil _ _ _) (OwnS.nil _ _ _) (fun k hk => by cases hk) (fun g hg => ⟨g, by
      have hg : g ∈ [s.now] := hg
      simp at hg
      subst hg
      simp [RS.groups], rfl, rfl⟩) (fun k hk => by cases hk) (fun k hk => by cases hk)
    exact ⟨_, h1, rfl, h2, h3⟩)
  clear h
  go_enter Tryd.func67, Tryd.ntmps67
  go_wp2
  go_returns
  exact ⟨rfl, HFIN.out _ (by (repeat' (first | with_reducible exact Upd.refl _ _ | with_reducible refine Upd.drewN ?_ _ | with_reducible refine Upd.drew ?_ | with_reducible refine Upd.alloc ?_ _ | (with_reducible refine Upd.setCell ?_ ?_ _; rotate_left; first | exact Or.inl rfl | exact Or.inl (foot_p _ _))))) (by (apply Blk.eq_; (focus (repeat' (first | with_reducible exact HA.out.blk | with_reducible apply Blk.drewN | with_reducible apply Blk.drew | with_reducible apply Blk.set_ | with_reducible apply Blk.alloc))); all_goals (simp only [RS.cells, List.setIfInBounds_toArray, List.set_cons_succ, List.set_cons_zero] <;> rfl)))⟩
theorem resume_open (h : RAt w p s) (ho : s.op = true) : Calls Tryd.prog 61 #[.pointer (some ⟨p, 0, none⟩)] w fun e w' => e = .returned (.bool false) ∧ w = w' := by
  obtain ⟨_, _, _, c3, -⟩ := h.cells
  rw [ho] at c3
  clear h ho
  go_enter Tryd.func61, Tryd.ntmps61
  go_wp2
  go_ret
  exact ⟨rfl, rfl⟩
theorem resume_redo (h : RAt w p s) (ho : s.op = false) (hr : 0 < s.redo.length) : Calls Tryd.prog 61 #[.pointer (some ⟨p, 0, none⟩)] w fun e w' => e = .returned (.bool false) ∧ w = w' := by
  obtain ⟨_, _, c2, c3, -⟩ := h.cells
  obtain ⟨A, c, hv, _⟩ := h.r.form
  rw [hv] at c2
  rw [ho] at c3
  generalize s.redo.length = n at *
  clear h ho hv
  go_enter Tryd.func61, Tryd.ntmps61
  go_wp2
  go_ret
  exact ⟨rfl, rfl⟩
theorem resume_none (h : RAt w p s) (ho : s.op = false) (hr : s.redo = []) (hu : s.undo = []) : Calls Tryd.prog 61 #[.pointer (some ⟨p, 0, none⟩)] w fun e w' => e = .returned (.bool false) ∧ w = w' := by
  obtain ⟨_, c1, c2, c3, -⟩ := h.cells
  obtain ⟨A, c, hv, _⟩ := h.r.form
  obtain ⟨A', c', hv', _⟩ := h.u.form
  rw [hv, hr] at c2
  rw [hv', hu] at c1
  rw [ho] at c3
  clear h ho hv hv' hr hu
  go_enter Tryd.func61, Tryd.ntmps61
  go_wp2
  go_ret
  exact ⟨rfl, rfl⟩
theorem own_init (h : RAt w p s) (hu : s.undo = init ++ [g]) {A : Option Addr} {c : Nat} (hv : s.uv = .slice A (init.length + 1) c) : OwnS w 91 3 (.slice A init.length c) init.length (init.flatMap Gr.cells) := by
  have h1 := h.u
  rw [hv, hu, List.length_append] at h1
  have h2 := OwnS.take h1 init.length (by omega)
  rw [flat_init] at h2
  exact h2
theorem own_initr (h : RAt w p s) (hu : s.redo = init ++ [g]) {A : Option Addr} {c : Nat} (hv : s.rv = .slice A (init.length + 1) c) : OwnS w 91 3 (.slice A init.length c) init.length (init.flatMap Gr.cells) := by
  have h1 := h.r
  rw [hv, hu, List.length_append] at h1
  have h2 := OwnS.take h1 init.length (by omega)
  rw [flat_init] at h2
  exact h2
theorem RAt.resumed (h : RAt w p s) (ho : s.op = false) (hu : s.undo = init ++ [g]) (hr : s.redo = []) {A : Option Addr} {c : Nat} (hv : s.uv = .slice A (init.length + 1) c) (u : Upd (fun k => k = p) w w')
    (hb : Blk w' p 93 (⟨s.bound, .slice A init.length c, s.rv, init, s.redo, g, true, g.ds.length, true⟩ : RS).cells) : Left w w' p s s.abs.resume := by
  have hbl : (Value.slice A init.length c).ownBlock = s.uv.ownBlock := by rw [hv]; cases A <;> rfl
  obtain ⟨h1, h2, h3⟩ := h.build (s' := ⟨s.bound, .slice A init.length c, s.rv, init, s.redo, g, true, g.ds.length, true⟩) (Upd.top1 u) hb ((own_init h hu hv).upd u (fun k hk e => by rw [hbl, e] at hk; exact h.up hk)) (h.r.upd u (fun k hk e => h.rp (by rw [← e]; exact hk)))
    (fun k hk => h.ur k (by rw [← hbl]; exact hk)) (fun x hx => ⟨x, by
      simp only [RS.groups, List.mem_cons, List.mem_append] at hx ⊢
      rw [hu]
      simp only [List.mem_append, List.mem_singleton]
      rcases hx with rfl | hx | hx
      · exact .inr (.inl (.inr rfl))
      · exact .inr (.inl (.inl hx))
      · exact .inr (.inr hx), rfl, rfl⟩) (fun k hk => .inl (by rw [← hbl]; exact hk)) (fun k hk => .inl hk)
  refine ⟨_, h1, ?_, h2, h3⟩
  unfold RS.abs AS.resume AS.resumeG
  simp [ho, hu, hr, Gr.abs]
theorem resume_yes (h : RAt w p s) (ho : s.op = false) (init : List Gr) (g : Gr) (hu : s.undo = init ++ [g]) (hr : s.redo = []) (hm : init.length ≤ 2000) :
    Calls Tryd.prog 61 #[.pointer (some ⟨p, 0, none⟩)] w fun e w' => e = .returned (.bool true) ∧ Left w w' p s s.abs.resume := by
  obtain ⟨c0, c1, c2, c3, c4, c5, c6, c7, c8, cf⟩ := h.cells
  have hgm : g ∈ s.groups := by simp [RS.groups, hu]
  obtain ⟨A3, cd, hdv, hdl⟩ := (h.d g hgm).len
  obtain ⟨gb, off, c, hv, hl, hc⟩ := h.u.some_ (by rw [hu]; simp)
  obtain ⟨A2, cr, hrv, hrl⟩ := h.r.form
  have hne : gb ≠ p := fun e => h.up (by rw [hv, e]; rfl)
  have hgw : gb < w.heap.size := h.u.lt gb (by rw [hv]; rfl)
  have hpw := h.blk.lt
  have hul : s.undo.length = init.length + 1 := by rw [hu]; simp
  have k0 := hc _ _ (by rw [hu]; exact flat_last init g 0 _ rfl)
  have k1 := hc _ _ (by rw [hu]; exact flat_last init g 1 _ rfl)
  have k2 := hc _ _ (by rw [hu]; exact flat_last init g 2 _ rfl)
  rw [Nat.add_zero] at k0
  rw [← Nat.add_assoc] at k1 k2
  rw [hul] at hv hl
  rw [hv] at c1
  rw [hrv, hr] at c2
  rw [ho] at c3
  have HFIN : Hid (∀ w', _ → _ → _) := Lib.hid (fun w' => RAt.resumed (w' := w') h ho hu hr hv)
  have HA := Lib.hid h
  obtain ⟨gv, gd, ga, ge⟩ := g
  dsimp only at hdv k0 k1 k2 HFIN ⊢
  subst hdv
  clear h ho hu hr hv hgm hul hc
  generalize init.length = m at *
  have z1 : IntKind.i64.wrap (((m + 1 : Nat) : Int) - 1) = (m : Int) := by rw [IntKind.wrap_i64]; omega
  go_enter Tryd.func61, Tryd.ntmps61
  go_wp2
  go_ret
  exact ⟨rfl, HFIN.out _ (by (repeat' (first | with_reducible exact Upd.refl _ _ | with_reducible refine Upd.drewN ?_ _ | with_reducible refine Upd.drew ?_ | with_reducible refine Upd.alloc ?_ _ | (with_reducible refine Upd.setCell ?_ ?_ _; rotate_left; first | exact Or.inl rfl | exact Or.inl (foot_p _ _))))) (by (apply Blk.eq_; (focus (repeat' (first | with_reducible exact HA.out.blk | with_reducible apply Blk.drewN | with_reducible apply Blk.drew | with_reducible apply Blk.set_ | with_reducible apply Blk.alloc))); all_goals (simp only [RS.cells, List.setIfInBounds_toArray, List.set_cons_succ, List.set_cons_zero] <;> rfl)))⟩
/-- The newest of undo goes to redo. -/
theorem RAt.undone (h : RAt w p s) (ho : s.op = false) {A : Option Addr} {c : Nat} (hu : s.undo = init ++ [g]) (hv : s.uv = .slice A (init.length + 1) c) (hW : Upd (fun k => k = p) w W) (hB : Blk W p 93 ({ s with uv := .slice A init.length c } : RS).cells)
    (ho5 : OwnS w5 91 3 v5 (s.redo.length + 1) (s.redo.flatMap Gr.cells ++ g.cells)) (hg5 : W.grownBy w5 s.rv.ownBlock) (hb5 : v5.ownBlock = s.rv.ownBlock ∨ ∀ k, v5.ownBlock = some k → W.heap.size ≤ k) :
    RAt (w5.setCell ⟨p, 2, none⟩ v5) p { s with uv := .slice A init.length c, rv := v5, undo := init, redo := s.redo ++ [g] } ∧ Upd (foot p s) w (w5.setCell ⟨p, 2, none⟩ v5) ∧ Fr w p s { s with uv := .slice A init.length c, rv := v5, undo := init, redo := s.redo ++ [g] } := by
  have hgu : Upd (fun k => s.rv.ownBlock = some k) W w5 := Upd.grown hg5 (fun k e => e)
  have hu5 : Upd (fun k => k = p ∨ s.rv.ownBlock = some k) w w5 := (hW.mono (fun k e => .inl e)).then_ hgu (fun k hk => .inl (.inr hk))
  have hB5 : Blk w5 p 93 ({ s with uv := .slice A init.length c } : RS).cells := hB.upd hgu h.rp
  have hu6 : Upd (fun k => k = p ∨ s.rv.ownBlock = some k) w (w5.setCell ⟨p, 2, none⟩ v5) := hu5.setCell (.inl (.inl rfl)) _
  have hbl : (Value.slice A init.length c).ownBlock = s.uv.ownBlock := by rw [hv]; cases A <;> rfl
  refine h.build (s' := { s with uv := .slice A init.length c, rv := v5, undo := init, redo := s.redo ++ [g] }) (hu6.mono (fun k hk => hk.elim .inl (fun e => .inr (.inr e)))) (by (apply Blk.eq_; (focus (repeat' (first | with_reducible exact hB5 | with_reducible apply Blk.drewN | with_reducible apply Blk.drew | with_reducible apply Blk.set_ | with_reducible apply Blk.alloc))); all_goals (simp only [RS.cells, List.setIfInBounds_toArray, List.set_cons_succ, List.set_cons_zero] <;> rfl))) ((own_init h hu hv).upd hu6 (fun k hk e => ?_)) ?_ (fun k hk e => ?_) (fun x hx => ⟨x, ?_, rfl, rfl⟩) (fun k hk => .inl (by rw [← hbl]; exact hk)) (fun k hk => ?_)
  · rw [hbl] at hk
    rcases e with rfl | e
    · exact h.up hk
    · exact h.ur k hk e
  · show OwnS _ _ _ v5 (s.redo ++ [g]).length ((s.redo ++ [g]).flatMap Gr.cells)
    rw [flat_push, List.length_append]
    exact ho5.keep (fun k hk => Below.heap_setCell _ _ _ _ (fun e => ho5.ne_blk hB5 (by decide) (by rw [hk, e])))
  · rw [hbl] at hk
    rcases hb5 with hb | hb
    · exact h.ur k hk (by rw [← hb]; exact e)
    · have h1 := hb k e
      have h2 := h.u.lt k hk
      have h3 := hW.size
      omega
  · simp only [RS.groups, List.mem_cons, List.mem_append, List.not_mem_nil, or_false] at hx ⊢
    rw [hu]
    simp only [List.mem_append, List.mem_singleton]
    rcases hx with rfl | hx | hx | rfl
    · exact .inl rfl
    · exact .inr (.inl (.inl hx))
    · exact .inr (.inr hx)
    · exact .inr (.inl (.inr rfl))
  · rcases hb5 with hb | hb
    · exact .inl (by rw [← hb]; exact hk)
    · exact .inr (Nat.le_trans hW.size (hb k hk))
/-- The newest of redo goes to undo. -/
theorem RAt.redone (h : RAt w p s) (ho : s.op = false) {A : Option Addr} {c : Nat} (hu : s.redo = init ++ [g]) (hv : s.rv = .slice A (init.length + 1) c) (hW : Upd (fun k => k = p) w W) (hB : Blk W p 93 ({ s with rv := .slice A init.length c } : RS).cells)
    (ho5 : OwnS w5 91 3 v5 (s.undo.length + 1) (s.undo.flatMap Gr.cells ++ g.cells)) (hg5 : W.grownBy w5 s.uv.ownBlock) (hb5 : v5.ownBlock = s.uv.ownBlock ∨ ∀ k, v5.ownBlock = some k → W.heap.size ≤ k) :
    RAt (w5.setCell ⟨p, 1, none⟩ v5) p { s with rv := .slice A init.length c, uv := v5, redo := init, undo := s.undo ++ [g] } ∧ Upd (foot p s) w (w5.setCell ⟨p, 1, none⟩ v5) ∧ Fr w p s { s with rv := .slice A init.length c, uv := v5, redo := init, undo := s.undo ++ [g] } := by
  have hgu : Upd (fun k => s.uv.ownBlock = some k) W w5 := Upd.grown hg5 (fun k e => e)
  have hu5 : Upd (fun k => k = p ∨ s.uv.ownBlock = some k) w w5 := (hW.mono (fun k e => .inl e)).then_ hgu (fun k hk => .inl (.inr hk))
  have hB5 : Blk w5 p 93 ({ s with rv := .slice A init.length c } : RS).cells := hB.upd hgu h.up
  have hu6 : Upd (fun k => k = p ∨ s.uv.ownBlock = some k) w (w5.setCell ⟨p, 1, none⟩ v5) := hu5.setCell (.inl (.inl rfl)) _
  have hbl : (Value.slice A init.length c).ownBlock = s.rv.ownBlock := by rw [hv]; cases A <;> rfl
  refine h.build (s' := { s with rv := .slice A init.length c, uv := v5, redo := init, undo := s.undo ++ [g] }) (hu6.mono (fun k hk => hk.elim .inl (fun e => .inr (.inl e)))) (by (apply Blk.eq_; (focus (repeat' (first | with_reducible exact hB5 | with_reducible apply Blk.drewN | with_reducible apply Blk.drew | with_reducible apply Blk.set_ | with_reducible apply Blk.alloc))); all_goals (simp only [RS.cells, List.setIfInBounds_toArray, List.set_cons_succ, List.set_cons_zero] <;> rfl))) ?_ ((own_initr h hu hv).upd hu6 (fun k hk e => ?_)) (fun k e hk => ?_) (fun x hx => ⟨x, ?_, rfl, rfl⟩) (fun k hk => ?_) (fun k hk => .inl (by rw [← hbl]; exact hk))
  · show OwnS _ _ _ v5 (s.undo ++ [g]).length ((s.undo ++ [g]).flatMap Gr.cells)
    rw [flat_push, List.length_append]
    exact ho5.keep (fun k hk => Below.heap_setCell _ _ _ _ (fun e => ho5.ne_blk hB5 (by decide) (by rw [hk, e])))
  · rw [hbl] at hk
    rcases e with rfl | e
    · exact h.rp hk
    · exact h.ur k e hk
  · have hk : (Value.slice A init.length c).ownBlock = some k := hk
    rw [hbl] at hk
    rcases hb5 with hb | hb
    · exact h.ur k (by rw [← hb]; exact e) hk
    · have h1 := hb k e
      have h2 := h.r.lt k hk
      have h3 := hW.size
      omega
  · simp only [RS.groups, List.mem_cons, List.mem_append, List.not_mem_nil, or_false] at hx ⊢
    rw [hu]
    simp only [List.mem_append, List.mem_singleton]
    rcases hx with rfl | (hx | rfl) | hx
    · exact .inl rfl
    · exact .inr (.inl hx)
    · exact .inr (.inr (.inr rfl))
    · exact .inr (.inr (.inl hx))
  · rcases hb5 with hb | hb
    · exact .inl (by rw [← hb]; exact hk)
    · exact .inr (Nat.le_trans hW.size (hb k hk))
end
end RefL
end Go.Proofs.YtkpcnfchhnfpoaaDoor
/- The document's log: Undo, Redo. -/
set_option linter.unusedVariables false
namespace Go.Proofs.YtkpcnfchhnfpoaaDoor
open Go.RowKit Go.Proofs.YtkpcnfchhnfpoaaDoorW.PrintWords Go.Proofs.YtkpcnfchhnfpoaaDoor.Sep Log
open LogI (Gr g0 flat_glen flat_last flat_init flat_push one_g one_gs blk_new_set ls_cases)
namespace RefL
section
variable {w w' w5 W : World} {p : Nat} {s s' : RS} {S : Nat → Prop} {init : List Gr} {g : Gr} {N : Nat} {v5 : Value}
set_option maxHeartbeats 12800000
set_option maxRecDepth 100000
theorem below_undrew {w w' : World} (h : Below w.drew.heap.size w.drew w') : Below w.heap.size w w' := ⟨h.os, h.tape, h.output, h.size, h.block⟩
theorem undo_open (h : RAt w p s) (ho : s.op = true) : Calls Tryd.prog 65 #[.pointer (some ⟨p, 0, none⟩)] w fun e w' => e = .returned (.tuple #[.slice none 0 0, .int .i64 0, .int .i64 3]) ∧ w = w' := by
  obtain ⟨_, _, _, c3, -⟩ := h.cells
  rw [ho] at c3
  clear h ho
  go_enter Tryd.func65, Tryd.ntmps65
  go_wp2
  go_ret3
  exact ⟨rfl, rfl⟩
theorem undo_none (h : RAt w p s) (ho : s.op = false) (hu : s.undo = []) : Calls Tryd.prog 65 #[.pointer (some ⟨p, 0, none⟩)] w fun e w' => e = .returned (.tuple #[.slice none 0 0, .int .i64 0, .int .i64 3]) ∧ w = w' := by
  obtain ⟨_, c1, _, c3, -⟩ := h.cells
  obtain ⟨A, c, hv, _⟩ := h.u.form
  rw [hu] at hv
  rw [hv] at c1
  rw [ho] at c3
  clear h ho hu hv
  go_enter Tryd.func65, Tryd.ntmps65
  go_wp2
  go_ret3
  exact ⟨rfl, rfl⟩
theorem redo_open (h : RAt w p s) (ho : s.op = true) : Calls Tryd.prog 66 #[.pointer (some ⟨p, 0, none⟩)] w fun e w' => e = .returned (.tuple #[.slice none 0 0, .int .i64 0, .int .i64 4]) ∧ w = w' := by
  obtain ⟨_, _, _, c3, -⟩ := h.cells
  rw [ho] at c3
  clear h ho
  go_enter Tryd.func66, Tryd.ntmps66
  go_wp2
  go_ret3
  exact ⟨rfl, rfl⟩
theorem redo_none (h : RAt w p s) (ho : s.op = false) (hu : s.redo = []) : Calls Tryd.prog 66 #[.pointer (some ⟨p, 0, none⟩)] w fun e w' => e = .returned (.tuple #[.slice none 0 0, .int .i64 0, .int .i64 4]) ∧ w = w' := by
  obtain ⟨_, _, c1, c3, -⟩ := h.cells
  obtain ⟨A, c, hv, _⟩ := h.r.form
  rw [hu] at hv
  rw [hv] at c1
  rw [ho] at c3
  clear h ho hu hv
  go_enter Tryd.func66, Tryd.ntmps66
  go_wp2
  go_ret3
  exact ⟨rfl, rfl⟩
theorem undo_some (h : RAt w p s) (ho : s.op = false) (init : List Gr) (g : Gr) (hu : s.undo = init ++ [g]) (hn : s.redo.length ≤ 2000) (hm : init.length ≤ 2000) (hN : g.ds.length ≤ 1000000000000) :
    Calls Tryd.prog 65 #[.pointer (some ⟨p, 0, none⟩)] w fun e w' => ∃ v, e = .returned (.tuple #[v, .int .i64 g.ah, .int .i64 0]) ∧ LeftL w w' p s s.abs.undo_ v (back g.ds) := by
  obtain ⟨i0, hi0, hz0, hz1, hz2⟩ := info_parts info91
  obtain ⟨c0, c1, c2, c3, c4, c5, c6, c7, c8, cf⟩ := h.cells
  have hgm : g ∈ s.groups := by simp [RS.groups, hu]
  obtain ⟨A3, cd, hdv, hdl⟩ := (h.d g hgm).len
  obtain ⟨gb, off, c, hv, hl, hc⟩ := h.u.some_ (by rw [hu]; simp)
  obtain ⟨A2, cr, hrv, hrl⟩ := h.r.form
  have hne : gb ≠ p := fun e => h.up (by rw [hv, e]; rfl)
  have hgw : gb < w.heap.size := h.u.lt gb (by rw [hv]; rfl)
  have hpw := h.blk.lt
  have hrp := h.rp
  have hul : s.undo.length = init.length + 1 := by rw [hu]; simp
  have HABS : Hid (∀ (x y : Value), ({ s with uv := x, rv := y, undo := init, redo := s.redo ++ [g] } : RS).abs = s.abs.undo_) := Lib.hid (fun x y => by
    unfold AS.undo_ AS.undoG RS.abs
    simp [ho, hu])
  have k0 := hc _ _ (by rw [hu]; exact flat_last init g 0 _ rfl)
  have k1 := hc _ _ (by rw [hu]; exact flat_last init g 1 _ rfl)
  have k2 := hc _ _ (by rw [hu]; exact flat_last init g 2 _ rfl)
  rw [Nat.add_zero] at k0
  rw [← Nat.add_assoc] at k1 k2
  rw [hul] at hv hl
  rw [hv] at c1
  rw [ho] at c3
  have HA := Lib.hid h
  obtain ⟨gv, gd, ga, ge⟩ := g
  dsimp only at hdv hN k0 k1 k2 ⊢
  subst hdv
  have HRV := Lib.hid hrv
  rw [hrv] at c2
  generalize hgm2 : init.length = m at *
  have hWu : Upd (fun k => k = p) w (((w.setCell ⟨p, 1, none⟩ (.slice (some ⟨gb, off, none⟩) m c)).alloc (.cells #[(.slice A3 gd.length cd), .int .i64 ga, .int .i64 ge] 91)).alloc (.cells #[(.slice A3 gd.length cd), .int .i64 ga, .int .i64 ge] 91)) := by (repeat' (first | with_reducible exact Upd.refl _ _ | with_reducible refine Upd.drewN ?_ _ | with_reducible refine Upd.drew ?_ | with_reducible refine Upd.alloc ?_ _ | (with_reducible refine Upd.setCell ?_ ?_ _; rotate_left; first | exact Or.inl rfl | exact Or.inl (foot_p _ _))))
  have hBu : Blk (((w.setCell ⟨p, 1, none⟩ (.slice (some ⟨gb, off, none⟩) m c)).alloc (.cells #[(.slice A3 gd.length cd), .int .i64 ga, .int .i64 ge] 91)).alloc (.cells #[(.slice A3 gd.length cd), .int .i64 ga, .int .i64 ge] 91)) p 93 ({ s with uv := .slice (some ⟨gb, off, none⟩) m c } : RS).cells := by (apply Blk.eq_; (focus (repeat' (first | with_reducible exact HA.out.blk | with_reducible apply Blk.drewN | with_reducible apply Blk.drew | with_reducible apply Blk.set_ | with_reducible apply Blk.alloc))); all_goals (simp only [RS.cells, List.setIfInBounds_toArray, List.set_cons_succ, List.set_cons_zero] <;> rfl))
  have hBg : Blk (((w.setCell ⟨p, 1, none⟩ (.slice (some ⟨gb, off, none⟩) m c)).alloc (.cells #[(.slice A3 gd.length cd), .int .i64 ga, .int .i64 ge] 91)).alloc (.cells #[(.slice A3 gd.length cd), .int .i64 ga, .int .i64 ge] 91)) w.heap.size 91 #[(.slice A3 gd.length cd), .int .i64 ga, .int .i64 ge] := (blk_new_set w _ _ _ _).alloc _
  have hor := h.r.upd hWu (fun k hk e => hrp (by rw [← e]; exact hk))
  have hrn := reads_gr ((w.setCell ⟨p, 1, none⟩ (.slice (some ⟨gb, off, none⟩) m c)).alloc (.cells #[(.slice A3 gd.length cd), .int .i64 ga, .int .i64 ge] 91)) ⟨(.slice A3 gd.length cd), gd, ga, ge⟩
  rw [show ((w.setCell ⟨p, 1, none⟩ (.slice (some ⟨gb, off, none⟩) m c)).alloc (.cells #[(.slice A3 gd.length cd), .int .i64 ga, .int .i64 ge] 91)).heap.size = w.heap.size + 1 by simp [World.setCell]] at hrn
  have HRn := Lib.hid hrn
  have HC1 := Lib.hid (one_g ⟨(.slice A3 gd.length cd), gd, ga, ge⟩ _ _ _ rfl)
  have HFIN : Hid (∀ v5 w5, _ → _ → _ → _) := Lib.hid (fun v5 w5 => RAt.undone (v5 := v5) (w5 := w5) h ho hu (by rw [hgm2]; exact hv) hWu (by rw [hgm2]; exact hBu))
  rw [hgm2] at HFIN
  have HBu := Lib.hid hBu
  have HBg := Lib.hid hBg
  have HRP := Lib.hid hrp
  have HRL := Lib.hid h.r.lt
  rw [hrv] at hor HFIN
  obtain ⟨n2, hn2⟩ : ∃ n2, n2 = s.redo.length := ⟨_, rfl⟩
  rw [← hn2] at c2 hor
  have HOr := Lib.hid hor
  have HN2 := Lib.hid hn2
  have hn3 : n2 ≤ 2000 := by omega
  have z1 : IntKind.i64.wrap (((m + 1 : Nat) : Int) - 1) = (m : Int) := by rw [IntKind.wrap_i64]; omega
  clear h ho hu hv hrv hWu hBu hBg hrp hgm hul hgm2 hn2 hn hc hor hrn
  go_enter Tryd.func65, Tryd.ntmps65
  go_wp2
  go_region
  go_wp2
  go_region
  go_wp2
  go_region_law (first
    | (refine step_append_s (v := .slice A2 n2 cr) (by rfl) _ _ _ (by rfl) Tryd.underlying89 hi0 hz0 hz1 hz2 rfl (by omega) (by rfl) HOr.out (by rfl) HRn.out HC1.out (by unfold maxLen; omega) (by omega) ?_; intro v5 w5 ho5 hg5 hb5; have hg5 : (((w.setCell ⟨p, 1, none⟩ (.slice (some ⟨gb, off, none⟩) m c)).alloc (.cells #[(.slice A3 gd.length cd), .int .i64 ga, .int .i64 ge] 91)).alloc (.cells #[(.slice A3 gd.length cd), .int .i64 ga, .int .i64 ge] 91)).grownBy w5 (Value.slice A2 n2 cr).ownBlock := ⟨hg5.os, hg5.tape, hg5.output, hg5.size, hg5.block⟩; have HO5 := Lib.hid ho5; have HG5 := Lib.hid hg5; have HB5 := Lib.hid hb5; have hGu := Upd.grown (S := fun k => (Value.slice A2 n2 cr).ownBlock = some k) HG5.out (fun k e => e); have hb6 := HBu.out.upd hGu (fun e => HRP.out (by rw [HRV.out, ← HN2.out]; exact e)); have hb7 := HBg.out.upd hGu (fun e => by have h1 := HRL.out _ (by rw [HRV.out, ← HN2.out]; exact e); omega); have e2 := hb6.cell 2; have ef := hb6.frozen; have l0 := hb7.cell 0; have l1 := hb7.cell 1; have l2 := hb7.cell 2; have hlg := hb7.lt; have HB7 := Lib.hid hb7; obtain ⟨A5, c5, hv5, hl5⟩ := HO5.out.form; subst hv5; simp only [RS.cells, List.getElem?_toArray, List.getElem?_cons_succ, List.getElem?_cons_zero] at e2 l0 l1 l2; rw [HRV.out, ← HN2.out] at e2; have hlp := World.block_lt_of_cell? _ _ e2; clear ho5 hg5 hb5 hGu hb6 hb7))
  all_goals
    have hfin := HFIN.out (.slice A5 (n2 + 1) c5) w5 (by rw [← HN2.out]; exact HO5.out) (by rw [← HN2.out]; exact HG5.out) (by rw [← HN2.out]; exact HB5.out)
    have HFN := Lib.hid hfin
    have hlgp : w.heap.size ≠ p := by omega
    have HL : Hid (OwnD (w5.setCell ⟨p, 2, none⟩ (.slice A5 (n2 + 1) c5)) (.slice A3 gd.length cd) gd) := Lib.hid (hfin.1.d ⟨(.slice A3 gd.length cd), gd, ga, ge⟩ (by simp [RS.groups]))
    clear hfin
    have HI := Lib.hid (inverted_d (w5.setCell ⟨p, 2, none⟩ (.slice A5 (n2 + 1) c5)).drew A3 gd.length cd gd (OwnD.reads HL.out rfl) hN)
    have HB8 := Lib.hid (HB7.out.far (p := ⟨p, 2, none⟩) hlgp (.slice A5 (n2 + 1) c5))
    have b0 := HB8.out.cell 0
    have b1 := HB8.out.cell 1
    have b2 := HB8.out.cell 2
    simp only [List.getElem?_toArray, List.getElem?_cons_succ, List.getElem?_cons_zero] at b0 b1 b2
    go_wp2
    go_region_held3 (fun w' => w'.cell? ⟨w.heap.size, 0, none⟩ = some (.slice A3 gd.length cd) ∧ w'.cell? ⟨w.heap.size, 1, none⟩ = some (.int .i64 ga))
      (first | go_keep | exact ⟨f0, f1⟩ | exact ⟨b0, b1⟩)
      ((go_at_call 77; refine HI.out.mono ?_; rintro e w7 ⟨v7, rfl, ho7, hk7, hb7⟩; have hb8 := HB8.out.upd (Upd.below (below_undrew hb7) No) (fun h => h); have f0 := hb8.cell 0; have f1 := hb8.cell 1; simp only [List.getElem?_toArray, List.getElem?_cons_succ, List.getElem?_cons_zero] at f0 f1; have HO7 := Lib.hid ho7; have HK7 := Lib.hid hk7; have HW7 := Lib.hid (below_undrew hb7); clear ho7 hk7 hb7 hb8))
    go_wp2
    go_ret3
    obtain ⟨hA6, hU6, hF6⟩ := HFN.out
    refine ⟨_, rfl, _, hA6.below HW7.out, HABS.out _ _, hU6.then_ (Upd.below HW7.out No) (fun k hk => hk.elim), hF6, HO7.out, fun k hk => ?_⟩
    have h1 : (w5.setCell ⟨p, 2, none⟩ (.slice A5 (n2 + 1) c5)).heap.size ≤ k := HK7.out k hk
    have h2 := hU6.size
    exact ⟨by omega, fun hf => by have := hA6.lt k hf; omega⟩
theorem redo_some (h : RAt w p s) (ho : s.op = false) (init : List Gr) (g : Gr) (hu : s.redo = init ++ [g]) (hn : s.undo.length ≤ 2000) (hm : init.length ≤ 2000) (hN : g.ds.length ≤ 1000000000000) :
    Calls Tryd.prog 66 #[.pointer (some ⟨p, 0, none⟩)] w fun e w' => ∃ v, e = .returned (.tuple #[v, .int .i64 g.be, .int .i64 0]) ∧ LeftL w w' p s s.abs.redo_ v g.ds := by
  obtain ⟨i0, hi0, hz0, hz1, hz2⟩ := info_parts info91
  obtain ⟨c0, c1, c2, c3, c4, c5, c6, c7, c8, cf⟩ := h.cells
  have hgm : g ∈ s.groups := by simp [RS.groups, hu]
  obtain ⟨A3, cd, hdv, hdl⟩ := (h.d g hgm).len
  obtain ⟨gb, off, c, hv, hl, hc⟩ := h.r.some_ (by rw [hu]; simp)
  obtain ⟨A2, cr, hrv, hrl⟩ := h.u.form
  have hne : gb ≠ p := fun e => h.rp (by rw [hv, e]; rfl)
  have hgw : gb < w.heap.size := h.r.lt gb (by rw [hv]; rfl)
  have hpw := h.blk.lt
  have hrp := h.up
  have hul : s.redo.length = init.length + 1 := by rw [hu]; simp
  have HABS : Hid (∀ (x y : Value), ({ s with rv := x, uv := y, redo := init, undo := s.undo ++ [g] } : RS).abs = s.abs.redo_) := Lib.hid (fun x y => by
    unfold AS.redo_ AS.redoG RS.abs
    simp [ho, hu])
  have k0 := hc _ _ (by rw [hu]; exact flat_last init g 0 _ rfl)
  have k1 := hc _ _ (by rw [hu]; exact flat_last init g 1 _ rfl)
  have k2 := hc _ _ (by rw [hu]; exact flat_last init g 2 _ rfl)
  rw [Nat.add_zero] at k0
  rw [← Nat.add_assoc] at k1 k2
  rw [hul] at hv hl
  rw [hv] at c2
  rw [ho] at c3
  have HA := Lib.hid h
  obtain ⟨gv, gd, ga, ge⟩ := g
  dsimp only at hdv hN k0 k1 k2 ⊢
  subst hdv
  have HRV := Lib.hid hrv
  rw [hrv] at c1
  generalize hgm2 : init.length = m at *
  have hWu : Upd (fun k => k = p) w (((w.setCell ⟨p, 2, none⟩ (.slice (some ⟨gb, off, none⟩) m c)).alloc (.cells #[(.slice A3 gd.length cd), .int .i64 ga, .int .i64 ge] 91)).alloc (.cells #[(.slice A3 gd.length cd), .int .i64 ga, .int .i64 ge] 91)) := by (repeat' (first | with_reducible exact Upd.refl _ _ | with_reducible refine Upd.drewN ?_ _ | with_reducible refine Upd.drew ?_ | with_reducible refine Upd.alloc ?_ _ | (with_reducible refine Upd.setCell ?_ ?_ _; rotate_left; first | exact Or.inl rfl | exact Or.inl (foot_p _ _))))
  have hBu : Blk (((w.setCell ⟨p, 2, none⟩ (.slice (some ⟨gb, off, none⟩) m c)).alloc (.cells #[(.slice A3 gd.length cd), .int .i64 ga, .int .i64 ge] 91)).alloc (.cells #[(.slice A3 gd.length cd), .int .i64 ga, .int .i64 ge] 91)) p 93 ({ s with rv := .slice (some ⟨gb, off, none⟩) m c } : RS).cells := by (apply Blk.eq_; (focus (repeat' (first | with_reducible exact HA.out.blk | with_reducible apply Blk.drewN | with_reducible apply Blk.drew | with_reducible apply Blk.set_ | with_reducible apply Blk.alloc))); all_goals (simp only [RS.cells, List.setIfInBounds_toArray, List.set_cons_succ, List.set_cons_zero] <;> rfl))
  have hBg : Blk (((w.setCell ⟨p, 2, none⟩ (.slice (some ⟨gb, off, none⟩) m c)).alloc (.cells #[(.slice A3 gd.length cd), .int .i64 ga, .int .i64 ge] 91)).alloc (.cells #[(.slice A3 gd.length cd), .int .i64 ga, .int .i64 ge] 91)) w.heap.size 91 #[(.slice A3 gd.length cd), .int .i64 ga, .int .i64 ge] := (blk_new_set w _ _ _ _).alloc _
  have hor := h.u.upd hWu (fun k hk e => hrp (by rw [← e]; exact hk))
  have hrn := reads_gr ((w.setCell ⟨p, 2, none⟩ (.slice (some ⟨gb, off, none⟩) m c)).alloc (.cells #[(.slice A3 gd.length cd), .int .i64 ga, .int .i64 ge] 91)) ⟨(.slice A3 gd.length cd), gd, ga, ge⟩
  rw [show ((w.setCell ⟨p, 2, none⟩ (.slice (some ⟨gb, off, none⟩) m c)).alloc (.cells #[(.slice A3 gd.length cd), .int .i64 ga, .int .i64 ge] 91)).heap.size = w.heap.size + 1 by simp [World.setCell]] at hrn
  have HRn := Lib.hid hrn
  have HC1 := Lib.hid (one_g ⟨(.slice A3 gd.length cd), gd, ga, ge⟩ _ _ _ rfl)
  have HFIN : Hid (∀ v5 w5, _ → _ → _ → _) := Lib.hid (fun v5 w5 => RAt.redone (v5 := v5) (w5 := w5) h ho hu (by rw [hgm2]; exact hv) hWu (by rw [hgm2]; exact hBu))
  rw [hgm2] at HFIN
  have HBu := Lib.hid hBu
  have HBg := Lib.hid hBg
  have HRP := Lib.hid hrp
  have HRL := Lib.hid h.u.lt
  rw [hrv] at hor HFIN
  obtain ⟨n2, hn2⟩ : ∃ n2, n2 = s.undo.length := ⟨_, rfl⟩
  rw [← hn2] at c1 hor
  have HOr := Lib.hid hor
  have HN2 := Lib.hid hn2
  have hn3 : n2 ≤ 2000 := by omega
  have z1 : IntKind.i64.wrap (((m + 1 : Nat) : Int) - 1) = (m : Int) := by rw [IntKind.wrap_i64]; omega
  clear h ho hu hv hrv hWu hBu hBg hrp hgm hul hgm2 hn2 hn hc hor hrn
  go_enter Tryd.func66, Tryd.ntmps66
  go_wp2
  go_region
  go_wp2
  go_region
  go_wp2
  go_region_law (first
    | (refine step_append_s (v := .slice A2 n2 cr) (by rfl) _ _ _ (by rfl) Tryd.underlying89 hi0 hz0 hz1 hz2 rfl (by omega) (by rfl) HOr.out (by rfl) HRn.out HC1.out (by unfold maxLen; omega) (by omega) ?_; intro v5 w5 ho5 hg5 hb5; have hg5 : (((w.setCell ⟨p, 2, none⟩ (.slice (some ⟨gb, off, none⟩) m c)).alloc (.cells #[(.slice A3 gd.length cd), .int .i64 ga, .int .i64 ge] 91)).alloc (.cells #[(.slice A3 gd.length cd), .int .i64 ga, .int .i64 ge] 91)).grownBy w5 (Value.slice A2 n2 cr).ownBlock := ⟨hg5.os, hg5.tape, hg5.output, hg5.size, hg5.block⟩; have HO5 := Lib.hid ho5; have HG5 := Lib.hid hg5; have HB5 := Lib.hid hb5; have hGu := Upd.grown (S := fun k => (Value.slice A2 n2 cr).ownBlock = some k) HG5.out (fun k e => e); have hb6 := HBu.out.upd hGu (fun e => HRP.out (by rw [HRV.out, ← HN2.out]; exact e)); have hb7 := HBg.out.upd hGu (fun e => by have h1 := HRL.out _ (by rw [HRV.out, ← HN2.out]; exact e); omega); have e2 := hb6.cell 1; have ef := hb6.frozen; have l0 := hb7.cell 0; have l1 := hb7.cell 1; have l2 := hb7.cell 2; have hlg := hb7.lt; have HB7 := Lib.hid hb7; obtain ⟨A5, c5, hv5, hl5⟩ := HO5.out.form; subst hv5; simp only [RS.cells, List.getElem?_toArray, List.getElem?_cons_succ, List.getElem?_cons_zero] at e2 l0 l1 l2; rw [HRV.out, ← HN2.out] at e2; have hlp := World.block_lt_of_cell? _ _ e2; clear ho5 hg5 hb5 hGu hb6 hb7))
  all_goals
    have hfin := HFIN.out (.slice A5 (n2 + 1) c5) w5 (by rw [← HN2.out]; exact HO5.out) (by rw [← HN2.out]; exact HG5.out) (by rw [← HN2.out]; exact HB5.out)
    have HFN := Lib.hid hfin
    have hlgp : w.heap.size ≠ p := by omega
    have HL : Hid (OwnD (w5.setCell ⟨p, 1, none⟩ (.slice A5 (n2 + 1) c5)) (.slice A3 gd.length cd) gd) := Lib.hid (hfin.1.d ⟨(.slice A3 gd.length cd), gd, ga, ge⟩ (by simp [RS.groups]))
    clear hfin
    have HN7 := Lib.hid (OwnS.nil (w5.setCell ⟨p, 1, none⟩ (.slice A5 (n2 + 1) c5)) 24 3)
    have HR7 : Hid (Reads (w5.setCell ⟨p, 1, none⟩ (.slice A5 (n2 + 1) c5)) (w5.setCell ⟨p, 1, none⟩ (.slice A5 (n2 + 1) c5)).heap.size 3 A3 gd.length (gd.flatMap dcells)) := Lib.hid ((OwnD.reads HL.out rfl).2)
    obtain ⟨j0, hj0, hy0, hy1, hy2⟩ := info_parts info24
    have HB8 := Lib.hid (HB7.out.far (p := ⟨p, 1, none⟩) hlgp (.slice A5 (n2 + 1) c5))
    have b0 := HB8.out.cell 0
    have b1 := HB8.out.cell 1
    have b2 := HB8.out.cell 2
    simp only [List.getElem?_toArray, List.getElem?_cons_succ, List.getElem?_cons_zero] at b0 b1 b2
    go_wp2_with (at_builtin; refine wpList_append_s (v := .slice none 0 0) rfl (.tmp 55) (.tmp 57) _ rfl Tryd.underlying22 hj0 hy0 hy1 hy2 rfl (by omega) rfl HN7.out rfl HR7.out (one_cells gd) (by unfold maxLen; omega) (by omega) ?_; intro v7 w7 ho7 hg7 hk7; have hb7 : Below (w5.setCell ⟨p, 1, none⟩ (.slice A5 (n2 + 1) c5)).heap.size (w5.setCell ⟨p, 1, none⟩ (.slice A5 (n2 + 1) c5)) w7 := (Upd.grown (S := No) (show (w5.setCell ⟨p, 1, none⟩ (.slice A5 (n2 + 1) c5)).grownBy w7 none from ⟨hg7.os, hg7.tape, hg7.output, hg7.size, hg7.block⟩) (fun k e => by cases e)).no; have hb8 := HB8.out.upd (Upd.below hb7 No) (fun h => h); have f0 := hb8.cell 0; have f1 := hb8.cell 1; have f2 := hb8.cell 2; simp only [List.getElem?_toArray, List.getElem?_cons_succ, List.getElem?_cons_zero] at f0 f1 f2; have HO7 := Lib.hid ho7; have HK7 := Lib.hid hk7; have HW7 := Lib.hid hb7; clear ho7 hk7 hb7 hb8 hg7)
    go_quiet (fail)
    go_wp2
    go_ret3
    obtain ⟨hA6, hU6, hF6⟩ := HFN.out
    refine ⟨_, rfl, _, hA6.below (Below.drewN' HW7.out _), HABS.out _ _, (hU6.then_ (Upd.below HW7.out No) (fun k hk => hk.elim)).drewN _, hF6, (by have h7 := HO7.out; rw [Nat.zero_add, List.nil_append] at h7; exact h7), fun k hk => ?_⟩
    have h1 : (w5.setCell ⟨p, 1, none⟩ (.slice A5 (n2 + 1) c5)).heap.size ≤ k := by
      have hk : v7.ownBlock = some k := hk
      rcases HK7.out with e | e
      · rw [show v7.ownBlock = none from e] at hk
        cases hk
      · exact e k hk
    have h2 := hU6.size
    exact ⟨by omega, fun hf => by have := hA6.lt k hf; omega⟩
end
end RefL
end Go.Proofs.YtkpcnfchhnfpoaaDoor
/- The document's log: Add, Commit. -/
set_option linter.unusedVariables false
namespace Go.Proofs.YtkpcnfchhnfpoaaDoor
open Go.RowKit Go.Proofs.YtkpcnfchhnfpoaaDoorW.PrintWords Go.Proofs.YtkpcnfchhnfpoaaDoor.Sep Log
open LogI (Gr g0 flat_glen flat_last flat_init flat_push one_g one_gs blk_new_set ls_cases live_eq filter_step below_undrewN flat_drop1)
namespace RefL
section
variable {w w' w5 W : World} {p : Nat} {s s' : RS} {S : Nat → Prop} {init : List Gr} {g : Gr} {N : Nat} {v5 : Value}
set_option maxHeartbeats 12800000
set_option maxRecDepth 100000
theorem add_no (h : RAt w p s) (ho : s.op = false) (v : Value) : Calls Tryd.prog 62 #[.pointer (some ⟨p, 0, none⟩), v] w fun e w' => e = .returned (.bool false) ∧ w = w' := by
  obtain ⟨_, _, _, c3, -⟩ := h.cells
  rw [ho] at c3
  clear h ho
  go_enter Tryd.func62, Tryd.ntmps62
  go_wp2
  go_ret
  exact ⟨rfl, rfl⟩
/-- The open group's deltas stand in new memory. -/
theorem RAt.put (h : RAt w p s) (ho : s.op = true) (hb : Below w.heap.size w w5) (ds : List Delta) (hv : OwnD w5 v5 (s.now.ds ++ ds.filter live)) (hf : ∀ k, v5.ownBlock = some k → w.heap.size ≤ k) : Left w (w5.setCell ⟨p, 4, none⟩ v5) p s (s.abs.add ds) := by
  have hB5 : Blk w5 p 93 s.cells := h.blk.upd (Upd.below hb No) (fun h => h)
  have hu : Upd (fun k => k = p) w (w5.setCell ⟨p, 4, none⟩ v5) := Upd.setCell (S := fun k => k = p) (Upd.below hb _) (.inl rfl) _
  have hD := h.dKeep hu (fun k hk => .inl hk)
  refine ⟨{ s with now := { s.now with dv := v5, ds := s.now.ds ++ ds.filter live } }, ⟨by (apply Blk.eq_; (focus (repeat' (first | with_reducible exact hB5 | with_reducible apply Blk.drewN | with_reducible apply Blk.drew | with_reducible apply Blk.set_ | with_reducible apply Blk.alloc))); all_goals (simp only [RS.cells, List.setIfInBounds_toArray, List.set_cons_succ, List.set_cons_zero] <;> rfl)), h.u.upd hu (fun k hk e => h.up (by rw [← e]; exact hk)), h.r.upd hu (fun k hk e => h.rp (by rw [← e]; exact hk)), h.ur, fun g hg => ?_⟩, ?_, Upd.foot1 hu, ?_⟩
  · have hg : g ∈ ({ s.now with dv := v5, ds := s.now.ds ++ ds.filter live } : Gr) :: (s.undo ++ s.redo) := hg
    rcases List.mem_cons.1 hg with rfl | hg
    · exact OwnS.keep hv (fun k hk => Below.heap_setCell _ _ _ _ (fun e => by
        have h1 := hf k hk
        have h2 := h.blk.lt
        dsimp only at e
        omega))
    · exact hD g (List.mem_cons_of_mem _ hg)
  · unfold RS.abs AS.add
    dsimp only
    rw [ho]
    rfl
  · rintro k (hk | hk | hk | ⟨g, hg, hk⟩)
    · exact .inl (.inl hk)
    · exact .inl (.inr (.inl hk))
    · exact .inl (.inr (.inr (.inl hk)))
    · have hg : g ∈ ({ s.now with dv := v5, ds := s.now.ds ++ ds.filter live } : Gr) :: (s.undo ++ s.redo) := hg
      rcases List.mem_cons.1 hg with rfl | hg
      · exact .inr (hf k hk)
      · exact .inl (.inr (.inr (.inr ⟨g, List.mem_cons_of_mem _ hg, hk⟩)))
theorem add_yes (h : RAt w p s) (ho : s.op = true) (A : Option Addr) (n c : Nat) (ds : List Delta) (hr : ReadsD w w.heap.size A n ds) (hn : s.now.ds.length + n ≤ 1000000000000) :
    Calls Tryd.prog 62 #[.pointer (some ⟨p, 0, none⟩), .slice A n c] w fun e w' => e = .returned (.bool true) ∧ Left w w' p s (s.abs.add ds) := by
  obtain ⟨_, _, _, c3, c4, _, _, _, _, cf⟩ := h.cells
  obtain ⟨i0, hi0, hz0, hz1, hz2⟩ := info_parts info24
  rw [ho] at c3
  obtain ⟨A3, cd, hdv, hdl⟩ := (h.d s.now (by simp [RS.groups])).len
  rw [hdv] at c4
  have hl := hr.1
  have hpw := h.blk.lt
  have HR := Lib.hid hr
  have HNW : Hid (Reads w w.heap.size 3 A3 s.now.ds.length (s.now.ds.flatMap dcells)) := Lib.hid (by
    have h1 := h.d s.now (by simp [RS.groups])
    rw [hdv] at h1
    exact (OwnD.reads h1 rfl).2)
  have HO0 := Lib.hid (OwnS.nil w 24 3)
  have HPUT : Hid (∀ w5 v5, Below w.heap.size w w5 → OwnD w5 v5 (s.now.ds ++ ds.filter live) → (∀ k, v5.ownBlock = some k → w.heap.size ≤ k) → Left w (w5.setCell ⟨p, 4, none⟩ v5) p s (s.abs.add ds)) := Lib.hid (fun w5 v5 hb hv hf => h.put ho hb ds hv hf)
  have HBK := Lib.hid h.blk
  have hn2 : n ≤ 1000000000000 := by omega
  have HN := Lib.hid hn
  obtain ⟨ns, hns⟩ : ∃ ns, ns = s.now.ds := ⟨_, rfl⟩
  rw [← hns] at HNW HPUT HN c4
  obtain ⟨nl, hnl⟩ : ∃ nl, nl = ns.length := ⟨_, rfl⟩
  rw [← hnl] at HNW c4
  have hnl2 : nl ≤ 1000000000000 := by have := HN.out; omega
  have HNL := Lib.hid hnl
  clear h ho hr hdv hdl hns hnl hn
  go_enter Tryd.func62, Tryd.ntmps62
  go_wp2_with (at_builtin; refine wpList_append_s (v := .slice none 0 0) rfl (.tmp 12) (.tmp 17) _ rfl Tryd.underlying22 hi0 hz0 hz1 hz2 rfl (by omega) rfl HO0.out rfl HNW.out (one_cells ns) (by unfold maxLen; omega) (by omega) ?_; intro v7 w7 ho7 hg7 hk7; rw [Nat.zero_add, List.nil_append] at ho7; have HB7 := Lib.hid ((Upd.grown (S := No) hg7 (fun k e => by cases e)).no); have HO7 := Lib.hid ho7; have HK7 : Hid (∀ k, v7.ownBlock = some k → w.heap.size ≤ k) := Lib.hid (fun k hk => hk7.elim (fun e => by rw [e] at hk; cases hk) (fun e => e k hk)); obtain ⟨A7, c7, hv7, -⟩ := ho7.form; subst hv7; clear ho7 hg7 hk7)
  go_loopg [6, 5] n (fun k v6 v5 w' => ∃ i : Nat, v6 = .int .i64 i ∧ i + k = n ∧ ∃ A5 l5 c5, v5 = .slice A5 l5 c5 ∧ l5 ≤ nl + i ∧ Hid (OwnS w' 24 3 (.slice A5 l5 c5) l5 ((ns ++ (ds.take i).filter live).flatMap dcells)) ∧ Hid (l5 = (ns ++ (ds.take i).filter live).length) ∧ Hid (∀ k, (Value.slice A5 l5 c5).ownBlock = some k → w.heap.size ≤ k) ∧ Hid (Below w.heap.size w w'))
  case atStart => exact ⟨0, rfl, by omega, A7, nl, c7, rfl, by omega, Lib.hid (by have := HO7.out; simpa using this), Lib.hid (by simpa using HNL.out), HK7, HB7⟩
  case round =>
    obtain ⟨i, rfl, hik, A5, l5, c5, rfl, hl5, HO5, HL5, HK5, HB5⟩ := hrel
    cases gk with
    | zero =>
      have e1 : decide (i < n) = false := by simp; omega
      have HT : Hid (ds.take i = ds) := Lib.hid (List.take_of_length_le (by omega))
      have hb6 := HBK.out.upd (Upd.below HB5.out No) (fun h => h)
      have q4 := hb6.cell 4
      have qf := hb6.frozen
      have hq := hb6.lt
      simp only [RS.cells, List.getElem?_toArray, List.getElem?_cons_succ, List.getElem?_cons_zero] at q4
      clear hb6
      go_wp2
      go_ret
      refine ⟨rfl, HPUT.out _ _ HB5.out ?_ HK5.out⟩
      have h1 := HO5.out
      rw [HT.out] at h1
      unfold OwnD
      rw [← show l5 = (ns ++ ds.filter live).length by have := HL5.out; rw [HT.out] at this; exact this]
      exact h1
    | succ k1 =>
      have hi : i < n := by omega
      have e1 : decide (i < n) = true := by simp [hi]
      obtain ⟨g, off, rfl, d0, d1, d2, hg⟩ := delta_at HR.out hi
      have x0 := HB5.out.cell (p := ⟨g, off + i * 3, none⟩) hg |>.trans d0
      have x1 := HB5.out.cell (p := ⟨g, off + i * 3 + 1, none⟩) hg |>.trans d1
      have x2 := HB5.out.cell (p := ⟨g, off + i * 3 + 2, none⟩) hg |>.trans d2
      clear d0 d1 d2
      have HFS := Lib.hid (filter_step ds i (by omega))
      obtain ⟨y, hy⟩ : ∃ y, y = ds.getD i D0 := ⟨_, rfl⟩
      rw [← hy] at x0 x1 x2 HFS
      clear hy
      obtain ⟨y0, y1, y2⟩ := y
      dsimp only at x0 x1 x2
      cases hlv : live (y0, y1, y2) with
      | false =>
        rw [hlv] at HFS
        rw [live_eq] at hlv
        have b1 : y1.toList.isEmpty = true := by cases h1 : y1.toList.isEmpty <;> simp_all
        have b2 : y2.toList.isEmpty = true := by cases h1 : y2.toList.isEmpty <;> simp_all
        have HE : Hid ((ds.take (i + 1)).filter live = (ds.take i).filter live) := Lib.hid (by rw [HFS.out]; simp)
        clear hlv
        go_wp2
        go_roundg k1
        case measure => omega
        case rel => exact ⟨i + 1, by simp, by omega, A5, l5, c5, rfl, by omega, Lib.hid (by rw [HE.out]; exact HO5.out), Lib.hid (by rw [HE.out]; exact HL5.out), HK5, HB5⟩
      | true =>
        rw [hlv] at HFS
        have HE : Hid ((ds.take (i + 1)).filter live = (ds.take i).filter live ++ [(y0, y1, y2)]) := Lib.hid (by rw [HFS.out]; simp)
        have hlv2 : y1.toList.isEmpty = false ∨ (y1.toList.isEmpty = true ∧ y2.toList.isEmpty = false) := by
          rw [live_eq] at hlv
          cases h1 : y1.toList.isEmpty <;> simp_all
        have HOr := Lib.hid (OwnS.upd HO5.out (Upd.below ((Below.refl wr.heap.size wr).alloc (Nat.le_refl _) (.cells #[.int .i64 y0, .string y1, .string y2] 24)) No) (fun k hk h => h))
        have HRn := Lib.hid (reads_one wr (y0, y1, y2))
        clear hlv
        rcases hlv2 with b1 | ⟨b1, b2⟩
        all_goals
          go_wp2_with (at_builtin; refine wpList_append_s (v := .slice A5 l5 c5) rfl (.tmp 39) (.tmp 44) _ rfl Tryd.underlying22 hi0 hz0 hz1 hz2 rfl (by omega) rfl HOr.out rfl HRn.out (one_cells [(y0, y1, y2)]) (by unfold maxLen; omega) (by omega) ?_; intro v8 w8 ho8 hg8 hk8; have hu8 : Upd (fun k => (Value.slice A5 l5 c5).ownBlock = some k) wr w8 := ((Upd.refl _ _).alloc _).then_ (Upd.grown (S := fun k => (Value.slice A5 l5 c5).ownBlock = some k) hg8 (fun k e => e)) (fun k hk => .inl hk); have HB8 := Lib.hid (HB5.out.trans (hu8.toBelow HB5.out.size (fun k hk => HK5.out k hk))); have HO8 := Lib.hid ho8; have HK8 := Lib.hid hk8; obtain ⟨A8, c8, hv8, -⟩ := ho8.form; subst hv8; clear ho8 hg8 hk8 hu8)
          go_roundg k1
          case measure => omega
          case rel =>
            refine ⟨i + 1, by simp, by omega, A8, l5 + 1, c8, rfl, by omega, Lib.hid ?_, Lib.hid ?_, Lib.hid (fun k hk => ?_), HB8⟩
            · have h8 := HO8.out
              rw [HE.out, ← List.append_assoc, List.flatMap_append]
              simpa using h8
            · rw [HE.out, ← List.append_assoc, List.length_append, ← HL5.out]
              rfl
            · rcases HK8.out with e | e
              · exact HK5.out k (by rw [← e]; exact hk)
              · have h1 := e k hk
                have h2 := HB5.out.size
                simp at h1
                omega
end
end RefL
end Go.Proofs.YtkpcnfchhnfpoaaDoor
/- The document's log: Commit. -/
set_option linter.unusedVariables false
namespace Go.Proofs.YtkpcnfchhnfpoaaDoor
open Go.RowKit Go.Proofs.YtkpcnfchhnfpoaaDoorW.PrintWords Go.Proofs.YtkpcnfchhnfpoaaDoor.Sep Log
open LogI (Gr g0 flat_glen flat_last flat_init flat_push one_g one_gs blk_new_set ls_cases live_eq filter_step below_undrewN flat_drop1)
namespace RefL
section
variable {w w' w5 W : World} {p : Nat} {s s' : RS} {S : Nat → Prop} {init : List Gr} {g : Gr} {N : Nat} {v5 : Value}
set_option maxHeartbeats 12800000
set_option maxRecDepth 100000
theorem commit_no (h : RAt w p s) (ho : s.op = false) (x : A) : Calls Tryd.prog 63 #[.pointer (some ⟨p, 0, none⟩), .int .i64 x] w fun e w' => e = .returned (.bool false) ∧ w = w' := by
  obtain ⟨_, _, _, c3, -⟩ := h.cells
  rw [ho] at c3
  clear h ho
  go_enter Tryd.func63, Tryd.ntmps63
  go_wp2
  go_ret
  exact ⟨rfl, rfl⟩
theorem commit_empty (h : RAt w p s) (ho : s.op = true) (hd : s.now.ds = []) (x : A) : Calls Tryd.prog 63 #[.pointer (some ⟨p, 0, none⟩), .int .i64 x] w fun e w' => e = .returned (.bool false) ∧ Left w w' p s (s.abs.commit x) := by
  obtain ⟨_, _, _, c3, c4, _, _, _, _, cf⟩ := h.cells
  rw [ho] at c3
  obtain ⟨A3, cd, hdv, hdl⟩ := (h.d s.now (by simp [RS.groups])).len
  rw [hd] at hdv
  rw [hdv] at c4
  have hpw := h.blk.lt
  have HA := Lib.hid h
  have HFIN : Hid (∀ w', Upd (fun k => k = p) w w' → Blk w' p 93 ({ s with op := false } : RS).cells → Left w w' p s (s.abs.commit x)) := Lib.hid (fun w' u b => by
    obtain ⟨h1, h2, h3⟩ := h.top_ (s' := { s with op := false }) u b rfl rfl rfl rfl (.inl ⟨rfl, rfl⟩)
    refine ⟨_, h1, ?_, h2, h3⟩
    unfold RS.abs AS.commit
    dsimp only
    rw [if_pos ho]
    simp [Gr.abs, hd])
  clear h ho hd hdv hdl
  go_enter Tryd.func63, Tryd.ntmps63
  go_wp2
  go_ret
  exact ⟨rfl, HFIN.out _ (by (repeat' (first | with_reducible exact Upd.refl _ _ | with_reducible refine Upd.drewN ?_ _ | with_reducible refine Upd.drew ?_ | with_reducible refine Upd.alloc ?_ _ | (with_reducible refine Upd.setCell ?_ ?_ _; rotate_left; first | exact Or.inl rfl | exact Or.inl (foot_p _ _))))) (by (apply Blk.eq_; (focus (repeat' (first | with_reducible exact HA.out.blk | with_reducible apply Blk.drewN | with_reducible apply Blk.drew | with_reducible apply Blk.set_ | with_reducible apply Blk.alloc))); all_goals (simp only [RS.cells, List.setIfInBounds_toArray, List.set_cons_succ, List.set_cons_zero] <;> rfl)))⟩
/-- The group goes to undo. -/
theorem RAt.kept (h : RAt w p s) (x : A) (hW : Upd (fun k => k = p) w W) (hB : Blk W p 93 ({ s with now := { s.now with be := x }, op := false, rv := .slice none 0 0, redo := [] } : RS).cells)
    (ho5 : OwnS w5 91 3 v5 (s.undo.length + 1) (s.undo.flatMap Gr.cells ++ ({ s.now with be := x } : Gr).cells)) (hg5 : W.grownBy w5 s.uv.ownBlock) (hb5 : v5.ownBlock = s.uv.ownBlock ∨ ∀ k, v5.ownBlock = some k → W.heap.size ≤ k) :
    RAt (w5.setCell ⟨p, 1, none⟩ v5) p ({ s with now := { s.now with be := x }, op := false, uv := v5, undo := s.undo ++ [{ s.now with be := x }], rv := .slice none 0 0, redo := [] } : RS) ∧ Upd (foot p s) w (w5.setCell ⟨p, 1, none⟩ v5) ∧ Fr w p s ({ s with now := { s.now with be := x }, op := false, uv := v5, undo := s.undo ++ [{ s.now with be := x }], rv := .slice none 0 0, redo := [] } : RS) := by
  have hgu : Upd (fun k => s.uv.ownBlock = some k) W w5 := Upd.grown hg5 (fun k e => e)
  have hu5 : Upd (fun k => k = p ∨ s.uv.ownBlock = some k) w w5 := (hW.mono (fun k e => .inl e)).then_ hgu (fun k hk => .inl (.inr hk))
  have hB5 : Blk w5 p 93 ({ s with now := { s.now with be := x }, op := false, rv := .slice none 0 0, redo := [] } : RS).cells := hB.upd hgu h.up
  have hu6 : Upd (fun k => k = p ∨ s.uv.ownBlock = some k) w (w5.setCell ⟨p, 1, none⟩ v5) := hu5.setCell (.inl (.inl rfl)) _
  refine h.build (s' := ({ s with now := { s.now with be := x }, op := false, uv := v5, undo := s.undo ++ [{ s.now with be := x }], rv := .slice none 0 0, redo := [] } : RS)) (hu6.mono (fun k hk => hk.elim .inl (fun e => .inr (.inl e)))) (by (apply Blk.eq_; (focus (repeat' (first | with_reducible exact hB5 | with_reducible apply Blk.drewN | with_reducible apply Blk.drew | with_reducible apply Blk.set_ | with_reducible apply Blk.alloc))); all_goals (simp only [RS.cells, List.setIfInBounds_toArray, List.set_cons_succ, List.set_cons_zero] <;> rfl))) ?_ (OwnS.nil _ _ _) (fun k _ e => by cases e) (fun g hg => ?_) (fun k hk => ?_) (fun k hk => by cases hk)
  · show OwnS _ _ _ v5 (s.undo ++ [_]).length ((s.undo ++ [_]).flatMap Gr.cells)
    rw [flat_push, List.length_append]
    exact ho5.keep (fun k hk => Below.heap_setCell _ _ _ _ (fun e => ho5.ne_blk hB5 (by decide) (by rw [hk, e])))
  · simp only [RS.groups, List.append_nil, List.mem_cons, List.mem_append, List.not_mem_nil, or_false] at hg ⊢
    rcases hg with rfl | hg | rfl
    · exact ⟨s.now, .inl rfl, rfl, rfl⟩
    · exact ⟨g, .inr (.inl hg), rfl, rfl⟩
    · exact ⟨s.now, .inl rfl, rfl, rfl⟩
  · rcases hb5 with hb | hb
    · exact .inl (by rw [← hb]; exact hk)
    · exact .inr (Nat.le_trans hW.size (hb k hk))
theorem OwnS.zero {e : TypeId} {sz n c : Nat} {gb off : Nat} {xs : List Value} (h : OwnS w e sz (.slice (some ⟨gb, off, none⟩) n c) n xs) (off' c' : Nat) (hc : c' ≤ c) (ho : off' + c' * sz ≤ off + c * sz) : OwnS w e sz (.slice (some ⟨gb, off', none⟩) 0 c') 0 [] := by
  refine ⟨by simp, ?_⟩
  rcases h.2 with ⟨hs, hn⟩ | ⟨g', off', cap, cur, hs, hh, hl, hm2, hsz, hc'⟩
  · cases hs
  · injection hs with e1 e2 e3
    injection e1 with e1
    injection e1 with e1 e4
    subst e1; subst e4; subst e3
    exact .inr ⟨_, _, _, cur, rfl, hh, by omega, by omega, by omega, fun j hj => by omega⟩
/-- The oldest of undo is let go. -/
theorem RAt.retail {W6 w7 : World} {s6 : RS} {v : Value} (h : RAt W6 p s6) (hW : Below W6.heap.size W6 w7) (ho7 : OwnS W6 91 3 v (s6.undo.length - 1) ((s6.undo.drop 1).flatMap Gr.cells)) (hb7 : ∀ k, v.ownBlock = some k → s6.uv.ownBlock = some k) :
    RAt (w7.setCell ⟨p, 1, none⟩ v) p { s6 with uv := v, undo := s6.undo.drop 1 } ∧ Upd (fun k => k = p) W6 (w7.setCell ⟨p, 1, none⟩ v) ∧ Fr W6 p s6 { s6 with uv := v, undo := s6.undo.drop 1 } := by
  have hu5 : Upd (fun k => k = p) W6 (w7.setCell ⟨p, 1, none⟩ v) := Upd.setCell (S := fun k => k = p) (Upd.below hW _) (.inl rfl) _
  have hB5 : Blk w7 p 93 s6.cells := h.blk.upd (Upd.below hW No) (fun h => h)
  have hb := h.build (s' := { s6 with uv := v, undo := s6.undo.drop 1 }) (Upd.top1 hu5) (by (apply Blk.eq_; (focus (repeat' (first | with_reducible exact hB5 | with_reducible apply Blk.drewN | with_reducible apply Blk.drew | with_reducible apply Blk.set_ | with_reducible apply Blk.alloc))); all_goals (simp only [RS.cells, List.setIfInBounds_toArray, List.set_cons_succ, List.set_cons_zero] <;> rfl))) (by
    show OwnS _ _ _ v (s6.undo.drop 1).length _
    rw [List.length_drop]
    exact ho7.upd hu5 (fun k hk e => h.up (by rw [← e]; exact hb7 k hk))) (h.r.upd hu5 (fun k hk e => h.rp (by rw [← e]; exact hk))) (fun k hk => h.ur k (hb7 k hk)) (fun g hg => ⟨g, by
      simp only [RS.groups, List.mem_cons, List.mem_append] at hg ⊢
      rcases hg with hg | hg | hg
      · exact .inl hg
      · exact .inr (.inl (List.mem_of_mem_drop hg))
      · exact .inr (.inr hg), rfl, rfl⟩) (fun k hk => .inl (hb7 k hk)) (fun k hk => .inl hk)
  exact ⟨hb.1, hu5, hb.2.2⟩
theorem Fr.then_ {s1 s2 : RS} (h : Fr w p s s1) (g : Fr w' p s1 s2) (hs : w.heap.size ≤ w'.heap.size) : Fr w p s s2 := fun k hk => by
  rcases g k hk with e | e
  · exact h k e
  · exact .inr (Nat.le_trans hs e)
theorem commit_yes (h : RAt w p s) (ho : s.op = true) (hne : s.now.ds ≠ []) (x : A) (hn : s.undo.length ≤ 2000) : Calls Tryd.prog 63 #[.pointer (some ⟨p, 0, none⟩), .int .i64 x] w fun e w' => e = .returned (.bool (decide (0 < s.bound))) ∧ Left w w' p s (s.abs.commit x) := by
  obtain ⟨i0, hi0, hz0, hz1, hz2⟩ := info_parts info91
  obtain ⟨c0, c1, c2, c3, c4, c5, c6, c7, c8, cf⟩ := h.cells
  obtain ⟨A3, cd, hdv, hdl⟩ := (h.d s.now (by simp [RS.groups])).len
  obtain ⟨N, hN⟩ : ∃ N, s.now.ds.length = N + 1 := by
    cases hx : s.now.ds with
    | nil => exact absurd hx hne
    | cons a b => exact ⟨b.length, rfl⟩
  rw [hN] at hdv
  rw [hdv] at c4
  rw [ho] at c3
  obtain ⟨A2, cr, huv, hul⟩ := h.u.form
  have hpw := h.blk.lt
  obtain ⟨n2, hn2⟩ : ∃ n2, n2 = s.undo.length := ⟨_, rfl⟩
  rw [huv, ← hn2] at c1
  have e1 : ((N : Int) + 1 == 0) = false := by rw [beq_eq_false_iff_ne]; omega
  have hWu : Upd (fun k => k = p) w ((((w.setCell ⟨p, 3, none⟩ (.bool false)).setCell ⟨p, 6, none⟩ (.int .i64 x)).setCell ⟨p, 2, none⟩ (.slice none 0 0)).alloc (.cells #[.slice A3 (N + 1) cd, .int .i64 s.now.ah, .int .i64 x] 91)) := by (repeat' (first | with_reducible exact Upd.refl _ _ | with_reducible refine Upd.drewN ?_ _ | with_reducible refine Upd.drew ?_ | with_reducible refine Upd.alloc ?_ _ | (with_reducible refine Upd.setCell ?_ ?_ _; rotate_left; first | exact Or.inl rfl | exact Or.inl (foot_p _ _))))
  have hA : Blk w p 93 s.cells := h.blk
  have hBu : Blk ((((w.setCell ⟨p, 3, none⟩ (.bool false)).setCell ⟨p, 6, none⟩ (.int .i64 x)).setCell ⟨p, 2, none⟩ (.slice none 0 0)).alloc (.cells #[.slice A3 (N + 1) cd, .int .i64 s.now.ah, .int .i64 x] 91)) p 93 ({ s with now := { s.now with be := x }, op := false, rv := .slice none 0 0, redo := [] } : RS).cells := by
    rw [← hdv] 
    (apply Blk.eq_; (focus (repeat' (first | with_reducible exact hA | with_reducible apply Blk.drewN | with_reducible apply Blk.drew | with_reducible apply Blk.set_ | with_reducible apply Blk.alloc))); all_goals (simp only [RS.cells, List.setIfInBounds_toArray, List.set_cons_succ, List.set_cons_zero] <;> rfl))
  have HABS : Hid (s.abs.commit x = ⟨s.bound, trim s.bound (s.undo.map Gr.abs ++ [(⟨.slice A3 (N + 1) cd, s.now.ds, s.now.ah, x⟩ : Gr).abs]), [], none⟩) := Lib.hid (by
    unfold RS.abs AS.commit
    dsimp only
    rw [if_pos ho]
    simp [Gr.abs, hne])
  have hor := h.u.upd hWu (fun k hk e => h.up (by rw [← e]; exact hk))
  rw [huv, ← hn2] at hor
  have HOr := Lib.hid hor
  have hrn := reads_gr (((w.setCell ⟨p, 3, none⟩ (.bool false)).setCell ⟨p, 6, none⟩ (.int .i64 x)).setCell ⟨p, 2, none⟩ (.slice none 0 0)) (⟨.slice A3 (N + 1) cd, s.now.ds, s.now.ah, x⟩ : Gr)
  rw [show (((w.setCell ⟨p, 3, none⟩ (.bool false)).setCell ⟨p, 6, none⟩ (.int .i64 x)).setCell ⟨p, 2, none⟩ (.slice none 0 0)).heap.size = w.heap.size by simp [World.setCell]] at hrn
  have HRn := Lib.hid hrn
  have HC1 := Lib.hid (one_g (⟨.slice A3 (N + 1) cd, s.now.ds, s.now.ah, x⟩ : Gr) _ _ _ rfl)
  have hfin : ∀ v5 w5, _ → _ → _ → _ := fun v5 w5 => RAt.kept (v5 := v5) (w5 := w5) h x hWu hBu
  have hgg : ({ s.now with be := x } : Gr) = (⟨.slice A3 (N + 1) cd, s.now.ds, s.now.ah, x⟩ : Gr) := by rw [← hdv]
  rw [hgg] at hfin
  have HFIN : Hid (∀ v5 w5, _ → _ → _ → _) := Lib.hid hfin
  have HUP := Lib.hid h.up
  have HUV := Lib.hid huv
  have HBu := Lib.hid hBu
  have HN2 := Lib.hid hn2
  have hn3 : n2 ≤ 2000 := by omega
  clear h ho hne hdv hdl huv hor hrn hfin hgg hWu hBu hA hn2 hN
  go_enter Tryd.func63, Tryd.ntmps63
  go_wp2
  go_region_law (first
    | (refine step_append_s (v := .slice A2 n2 cr) (by rfl) _ _ _ (by rfl) Tryd.underlying89 hi0 hz0 hz1 hz2 rfl (by omega) (by rfl) HOr.out (by rfl) HRn.out HC1.out (by unfold maxLen; omega) (by omega) ?_; intro v5 w5 ho5 hg5 hb5; have hg5 : ((((w.setCell ⟨p, 3, none⟩ (.bool false)).setCell ⟨p, 6, none⟩ (.int .i64 x)).setCell ⟨p, 2, none⟩ (.slice none 0 0)).alloc (.cells #[.slice A3 (N + 1) cd, .int .i64 s.now.ah, .int .i64 x] 91)).grownBy w5 (Value.slice A2 n2 cr).ownBlock := ⟨hg5.os, hg5.tape, hg5.output, hg5.size, hg5.block⟩; have HO5 := Lib.hid ho5; have HG5 := Lib.hid hg5; have HB5 := Lib.hid hb5; have hb6 := HBu.out.upd (Upd.grown (S := fun k => (Value.slice A2 n2 cr).ownBlock = some k) HG5.out (fun k e => e)) (fun e => HUP.out (by rw [HUV.out, ← HN2.out]; exact e)); have f0 := hb6.cell 0; have f1 := hb6.cell 1; have ff := hb6.frozen; have hlp := hb6.lt; obtain ⟨g5, off5, c5, hv5, hl5, _⟩ := HO5.out.some_ (by omega); subst hv5; clear ho5 hg5 hb5 hb6; simp only [RS.cells, List.getElem?_toArray, List.getElem?_cons_succ, List.getElem?_cons_zero] at f0 f1; rw [HUV.out, ← HN2.out] at f1))
  all_goals
    have hfin := HFIN.out (.slice (some ⟨g5, off5, none⟩) (n2 + 1) c5) w5 (by rw [← HN2.out]; exact HO5.out) (by rw [HUV.out, ← HN2.out]; exact HG5.out) (by rw [HUV.out, ← HN2.out]; exact HB5.out)
    have HFN := Lib.hid hfin
    clear hfin
    by_cases htr : s.bound < n2 + 1
    · have g1 : decide (s.bound < n2 + 1) = true := by simp [htr]
      have g2 : decide ((s.bound : Int) < (n2 : Int) + 1) = true := by simp; omega
      have HGO : Hid (∀ v w7, OwnS (w5.setCell ⟨p, 1, none⟩ (.slice (some ⟨g5, off5, none⟩) (n2 + 1) c5)) 91 3 v n2 (((s.undo ++ [(⟨.slice A3 (N + 1) cd, s.now.ds, s.now.ah, x⟩ : Gr)]).drop 1).flatMap Gr.cells) → (∀ k, v.ownBlock = some k → k = g5) → Below (w5.setCell ⟨p, 1, none⟩ (.slice (some ⟨g5, off5, none⟩) (n2 + 1) c5)).heap.size (w5.setCell ⟨p, 1, none⟩ (.slice (some ⟨g5, off5, none⟩) (n2 + 1) c5)) w7 → Left w (w7.setCell ⟨p, 1, none⟩ v) p s (s.abs.commit x)) := Lib.hid (fun v7 w7 h1 h2 h3 => by
        obtain ⟨ha, hu, hf⟩ := HFN.out
        obtain ⟨hA, hU, hF⟩ := ha.retail (v := v7) (w7 := w7) h3 (by
          show OwnS _ _ _ v7 ((s.undo ++ [_]).length - 1) _
          rw [List.length_append, ← HN2.out]
          exact h1) (fun k hk => by rw [h2 k hk]; rfl)
        refine ⟨_, hA, ?_, hu.then_ hU (fun k hk => by subst hk; exact .inl (foot_p _ _)), hf.then_ hF hu.size⟩
        rw [HABS.out]
        have hl : s.bound < (s.undo.map Gr.abs ++ [(⟨.slice A3 (N + 1) cd, s.now.ds, s.now.ah, x⟩ : Gr).abs]).length := by simp; have := HN2.out; omega
        unfold RS.abs trim
        rw [if_pos hl]
        simp [Gr.abs])
      rcases Nat.eq_zero_or_pos n2 with hz | hz
      · have HZ : Hid (∀ off' c', c' ≤ c5 → off' + c' * 3 ≤ off5 + c5 * 3 → OwnS (w5.setCell ⟨p, 1, none⟩ (.slice (some ⟨g5, off5, none⟩) (n2 + 1) c5)) 91 3 (.slice (some ⟨g5, off', none⟩) 0 c') 0 []) := Lib.hid (fun off' c' h1 h2 => by
          have h3 := HFN.out.1.u
          dsimp only at h3
          rw [List.length_append, ← HN2.out] at h3
          exact OwnS.zero h3 off' c' h1 h2)
        by_cases hc5 : c5 = 1
        all_goals
          (try subst hc5)
          subst hz
          go_wp2
          go_quiet (fail)
          go_wp2
          go_ret
          refine ⟨by simp, HGO.out _ _ ?_ (by rintro k ⟨⟩; rfl) (Below.drewN' (Below.refl _ _) _)⟩
          have hun : s.undo = [] := List.eq_nil_of_length_eq_zero HN2.out.symm
          rw [hun]
          exact HZ.out _ _ (by omega) (by omega)
      · have hc5 : ¬ c5 = 1 := by omega
        have HT : Hid (OwnS (w5.setCell ⟨p, 1, none⟩ (.slice (some ⟨g5, off5, none⟩) (n2 + 1) c5)) 91 3 (.slice (some ⟨g5, off5 + 3, none⟩) n2 (c5 - 1)) n2 (((s.undo ++ [(⟨.slice A3 (N + 1) cd, s.now.ds, s.now.ah, x⟩ : Gr)]).drop 1).flatMap Gr.cells)) := Lib.hid (by
          have h1 := HFN.out.1.u
          dsimp only at h1
          rw [List.length_append, ← HN2.out] at h1
          have h2 := OwnS.tail h1 (by simp; omega)
          rw [flat_drop1 _ (by simp)] at h2
          exact h2)
        go_wp2
        go_quiet (fail)
        go_wp2
        go_ret
        exact ⟨by simp, HGO.out _ _ HT.out (by rintro k ⟨⟩; rfl) (Below.drewN' (Below.refl _ _) _)⟩
    · have g1 : decide (s.bound < n2 + 1) = false := by simp; omega
      have g2 : decide ((s.bound : Int) < (n2 : Int) + 1) = false := by simp; omega
      go_wp2
      go_quiet (fail)
      go_wp2
      go_ret
      refine ⟨by simp, _, HFN.out.1.below (Below.drewN' (Below.refl _ _) _), ?_, HFN.out.2.1.drewN _, HFN.out.2.2⟩
      rw [HABS.out]
      have hl : ¬ s.bound < (s.undo.map Gr.abs ++ [(⟨.slice A3 (N + 1) cd, s.now.ds, s.now.ah, x⟩ : Gr).abs]).length := by simp; have := HN2.out; omega
      unfold RS.abs trim
      rw [if_neg hl]
      simp [Gr.abs]
end
end RefL
end Go.Proofs.YtkpcnfchhnfpoaaDoor
