/- A log in memory: what lies where. -/
import Derived.Test.YtkpcnfchhnfpoaaDoorAbs
import Derived.Handy
import Derived.WalkSpells
import Derived.WalkLawsBesides
import Derived.Deep.RegionHeld3
import Derived.LoopTactic
import Derived.BigQuiet
import Derived.IntWalk
import Derived.StillTailTactics
set_option linter.unusedVariables false
namespace Go.Proofs.YtkpcnfchhnfpoaaDoor
open Go.RowKit Go.Proofs.YtkpcnfchhnfpoaaDoorW.PrintWords Go.Proofs.YtkpcnfchhnfpoaaDoor.Sep Log
namespace LogS
theorem Blk.eq_ {w : World} {g : Nat} {t : TypeId} {cs cs' : Array Value} (h : Blk w g t cs) (e : cs = cs') : Blk w g t cs' := e ▸ h
abbrev A := ByteArray
abbrev zA : A := ⟨#[]⟩
structure Gr where
  dv : Value
  ds : List Delta
  ah : A
  be : A
def Gr.cells (g : Gr) : List Value := [g.dv, .string g.ah, .string g.be]
def g0 : Gr := ⟨.slice none 0 0, [], zA, zA⟩
def Gr.abs (g : Gr) : AG A := ⟨g.ds, g.ah, g.be⟩
theorem info_g : (Tryd.prog.info? 102).map (fun i => (i.zero, i.size, i.bytes)) = some (some (.agg #[.slice none 0 0, .string zA, .string zA]), 3, 56) := by kernel_rfl
structure LS where
  bound : Nat
  uv : Value
  rv : Value
  undo : List Gr
  redo : List Gr
  now : Gr
  op : Bool
  res : Bool
  fst : Nat
def LS.cells (s : LS) : Array Value := #[.int .i64 (s.bound : Int), s.uv, s.rv, s.now.dv, .string s.now.ah, .string s.now.be, .bool s.op, .bool s.res, .int .i64 (s.fst : Int)]
def LS.groups (s : LS) : List Gr := s.now :: (s.undo ++ s.redo)
def LS.abs (s : LS) : AS A := ⟨s.bound, s.undo.map Gr.abs, s.redo.map Gr.abs, if s.op = true then some (s.now.abs, s.res, s.fst) else none⟩
def blocks (l : List Gr) : List Nat := l.filterMap fun g => g.dv.ownBlock
structure At (w : World) (p : Nat) (s : LS) : Prop where
  blk : Blk w p 104 s.cells
  u : OwnS w 102 3 s.uv s.undo.length (s.undo.flatMap Gr.cells)
  r : OwnS w 102 3 s.rv s.redo.length (s.redo.flatMap Gr.cells)
  ur : ∀ k, s.uv.ownBlock = some k → s.rv.ownBlock ≠ some k
  d : ∀ g ∈ s.groups, OwnD w g.dv g.ds
  ap : (blocks s.groups).Nodup
def top (p : Nat) (s : LS) : Nat → Prop := fun k => k = p ∨ s.uv.ownBlock = some k ∨ s.rv.ownBlock = some k
def foot (p : Nat) (s : LS) : Nat → Prop := fun k => k = p ∨ s.uv.ownBlock = some k ∨ s.rv.ownBlock = some k ∨ ∃ g ∈ s.groups, g.dv.ownBlock = some k
def Fr (w : World) (p : Nat) (s s' : LS) : Prop := ∀ k, foot p s' k → foot p s k ∨ w.heap.size ≤ k
theorem flat_glen (l : List Gr) : (l.flatMap Gr.cells).length = l.length * 3 := by
  induction l with
  | nil => rfl
  | cons g l ih => rw [List.flatMap_cons, List.length_append, ih, List.length_cons, Nat.succ_mul]; simp [Gr.cells]; omega
theorem flat_last (l : List Gr) (g : Gr) (j : Nat) (u : Value) (hj : g.cells[j]? = some u) : ((l ++ [g]).flatMap Gr.cells)[l.length * 3 + j]? = some u := by
  rw [List.flatMap_append, List.getElem?_append_right (by rw [flat_glen]; omega), flat_glen]
  simp [hj]
theorem foot_p (p : Nat) (s : LS) : foot p s p := Or.inl rfl
section
variable {w w' : World} {p : Nat} {s s' : LS} {S : Nat → Prop}
theorem At.cells (h : At w p s) : w.cell? ⟨p, 0, none⟩ = some (.int .i64 (s.bound : Int)) ∧ w.cell? ⟨p, 1, none⟩ = some s.uv ∧ w.cell? ⟨p, 2, none⟩ = some s.rv ∧ w.cell? ⟨p, 3, none⟩ = some s.now.dv ∧
w.cell? ⟨p, 4, none⟩ = some (.string s.now.ah) ∧ w.cell? ⟨p, 5, none⟩ = some (.string s.now.be) ∧ w.cell? ⟨p, 6, none⟩ = some (.bool s.op) ∧ w.cell? ⟨p, 7, none⟩ = some (.bool s.res) ∧ w.cell? ⟨p, 8, none⟩ = some (.int .i64 (s.fst : Int)) ∧ ∀ j, w.frozen? ⟨p, j, none⟩ = false :=
  ⟨(h.blk.cell 0).trans rfl, (h.blk.cell 1).trans rfl, (h.blk.cell 2).trans rfl, (h.blk.cell 3).trans rfl, (h.blk.cell 4).trans rfl, (h.blk.cell 5).trans rfl, (h.blk.cell 6).trans rfl, (h.blk.cell 7).trans rfl, (h.blk.cell 8).trans rfl, h.blk.frozen⟩
theorem At.topFoot : ∀ k, top p s k → foot p s k := fun k h => by
  rcases h with h | h | h
  · exact .inl h
  · exact .inr (.inl h)
  · exact .inr (.inr (.inl h))
theorem At.lt (h : At w p s) : ∀ k, foot p s k → k < w.heap.size := by
  rintro k (rfl | hk | hk | ⟨g, hg, hk⟩)
  · exact h.blk.lt
  · exact h.u.lt k hk
  · exact h.r.lt k hk
  · exact OwnS.lt (h.d g hg) k hk
theorem At.upd (h : At w p s) (u : Upd S w w') (hn : ∀ k, foot p s k → ¬ S k) : At w' p s :=
  ⟨h.blk.upd u (hn p (.inl rfl)), h.u.upd u (fun k hk => hn k (.inr (.inl hk))), h.r.upd u (fun k hk => hn k (.inr (.inr (.inl hk)))), h.ur, fun g hg => OwnS.upd (h.d g hg) u (fun k hk => hn k (.inr (.inr (.inr ⟨g, hg, hk⟩)))), h.ap⟩
theorem At.below (h : At w p s) (hb : Below w.heap.size w w') : At w' p s := h.upd (Upd.below hb No) (fun _ _ h => h)
theorem At.notTop (h : At w p s) {g : Gr} (hg : g ∈ s.groups) {k : Nat} (hk : g.dv.ownBlock = some k) : ¬ top p s k := by
  rintro (rfl | hu | hu)
  · exact OwnS.ne_blk (h.d g hg) h.blk (by decide) hk
  · exact OwnS.ne_own (h.d g hg) h.u (by decide) hk hu
  · exact OwnS.ne_own (h.d g hg) h.r (by decide) hk hu
theorem At.dKeep (h : At w p s) (u : Upd S w w') (hS : ∀ k, S k → top p s k) : ∀ g ∈ s.groups, OwnD w' g.dv g.ds :=
  fun g hg => OwnS.upd (h.d g hg) u (fun k hk hs => h.notTop hg hk (hS k hs))
theorem At.up (h : At w p s) : s.uv.ownBlock ≠ some p := h.u.ne_blk h.blk (by decide)
theorem At.rp (h : At w p s) : s.rv.ownBlock ≠ some p := h.r.ne_blk h.blk (by decide)
/-- Only the log's own block was written. -/
theorem At.top_ (h : At w p s) (u : Upd (fun k => k = p) w w') (hb : Blk w' p 104 s'.cells) (hu : s'.uv = s.uv) (hr : s'.rv = s.rv) (hun : s'.undo = s.undo) (hre : s'.redo = s.redo)
    (hd : s'.now = s.now ∨ (s'.now.dv = .slice none 0 0 ∧ s'.now.ds = [])) : At w' p s' := by
  have hD := h.dKeep u (fun k hk => .inl hk)
  have hg : s'.groups = s'.now :: (s.undo ++ s.redo) := by unfold LS.groups; rw [hun, hre]
  refine ⟨hb, ?_, ?_, by rw [hu, hr]; exact h.ur, fun g hgm => ?_, ?_⟩
  · rw [hu, hun]
    exact h.u.upd u (fun k hk e => h.up (by rw [← e]; exact hk))
  · rw [hr, hre]
    exact h.r.upd u (fun k hk e => h.rp (by rw [← e]; exact hk))
  · rw [hg] at hgm
    rcases List.mem_cons.1 hgm with rfl | hgm
    · rcases hd with e | ⟨e1, e2⟩
      · rw [e]
        exact hD s.now (by simp [LS.groups])
      · unfold OwnD
        rw [e1, e2]
        exact OwnS.nil _ _ _
    · exact hD g (by unfold LS.groups; exact List.mem_cons_of_mem _ hgm)
  · rw [hg]
    have := h.ap
    unfold blocks LS.groups at *
    rcases hd with e | ⟨e1, e2⟩
    · rw [e]
      exact this
    · rw [List.filterMap_cons] at this ⊢
      rw [e1]
      simp only [Value.ownBlock]
      cases hx : s.now.dv.ownBlock with
      | none => rw [hx] at this; exact this
      | some b => rw [hx] at this; exact (List.nodup_cons.1 this).2
theorem Fr.top (hu : s'.uv = s.uv) (hr : s'.rv = s.rv) (hun : s'.undo = s.undo) (hre : s'.redo = s.redo) (hd : s'.now = s.now ∨ s'.now.dv = .slice none 0 0) : Fr w p s s' := by
  rintro k (hk | hk | hk | ⟨g, hg, hk⟩)
  · exact .inl (.inl hk)
  · exact .inl (.inr (.inl (by rw [← hu]; exact hk)))
  · exact .inl (.inr (.inr (.inl (by rw [← hr]; exact hk))))
  · unfold LS.groups at hg
    rw [hun, hre] at hg
    rcases List.mem_cons.1 hg with rfl | hg
    · rcases hd with e | e
      · exact .inl (.inr (.inr (.inr ⟨s.now, by simp [LS.groups], by rw [← e]; exact hk⟩)))
      · rw [e] at hk
        cases hk
    · exact .inl (.inr (.inr (.inr ⟨g, by unfold LS.groups; exact List.mem_cons_of_mem _ hg, hk⟩)))
end
end LogS
end Go.Proofs.YtkpcnfchhnfpoaaDoor
/- A log's small methods: what is asked of it, Begin, Clear, close, Resume. -/
set_option linter.unusedVariables false
namespace Go.Proofs.YtkpcnfchhnfpoaaDoor
open Go.RowKit Go.Proofs.YtkpcnfchhnfpoaaDoorW.PrintWords Go.Proofs.YtkpcnfchhnfpoaaDoor.Sep Log
namespace LogS
section
variable {w w' : World} {p : Nat} {s s' : LS} {S : Nat → Prop}
set_option maxHeartbeats 1600000
set_option maxRecDepth 100000
theorem bound_ (h : At w p s) : Calls Tryd.prog 57 #[.pointer (some ⟨p, 0, none⟩)] w fun e w' => e = .returned (.int .i64 (s.bound : Int)) ∧ w = w' := by
  obtain ⟨c0, -⟩ := h.cells
  clear h
  go_enter Tryd.func57, Tryd.ntmps57
  go_wp2
  go_ret
  exact ⟨rfl, rfl⟩
theorem redos (h : At w p s) : Calls Tryd.prog 54 #[.pointer (some ⟨p, 0, none⟩)] w fun e w' => e = .returned (.int .i64 (s.redo.length : Int)) ∧ w = w' := by
  obtain ⟨_, _, c2, -⟩ := h.cells
  obtain ⟨A, c, hv, _⟩ := h.r.form
  rw [hv] at c2
  clear h
  go_enter Tryd.func54, Tryd.ntmps54
  go_wp2
  go_ret
  exact ⟨rfl, rfl⟩
theorem new_ (w : World) (n : Int) : Calls Tryd.prog 32 #[.int .i64 n] w fun e w' => ∃ p s', e = .returned (.pointer (some ⟨p, 0, none⟩)) ∧ At w' p s' ∧ s'.abs = AS.new (min (max n 0) 1000).toNat ∧ (∀ k, foot p s' k → w.heap.size ≤ k) ∧ Below w.heap.size w w' := by
  go_enter Tryd.func32, Tryd.ntmps32
  go_wp2
  go_ret
  have hb : (((min (max n 0) 1000).toNat : Nat) : Int) = min (max n 0) 1000 := by omega
  refine ⟨w.heap.size, ⟨(min (max n 0) 1000).toNat, .slice none 0 0, .slice none 0 0, [], [], g0, false, false, 0⟩, rfl, ⟨?_, OwnS.nil _ _ _, OwnS.nil _ _ _, (fun k h => by cases h), fun g hg => ?_, ?_⟩, rfl, ?_, (Below.refl _ _).alloc (Nat.le_refl _) _⟩
  · unfold LS.cells
    rw [hb]
    exact Blk.new _ _ _
  · simp [LS.groups] at hg
    subst hg
    exact OwnS.nil _ _ _
  · simp [blocks, LS.groups, g0, Value.ownBlock]
  · rintro k (rfl | hk | hk | ⟨g, hg, hk⟩)
    · exact Nat.le_refl _
    · cases hk
    · cases hk
    · simp [LS.groups] at hg
      subst hg
      cases hk
theorem begin_no (h : At w p s) (ho : s.op = true) (x : A) : Calls Tryd.prog 36 #[.pointer (some ⟨p, 0, none⟩), .string x] w fun e w' => e = .returned (.bool false) ∧ w = w' := by
  obtain ⟨_, _, _, _, _, _, c6, -⟩ := h.cells
  rw [ho] at c6
  clear h ho
  go_enter Tryd.func36, Tryd.ntmps36
  go_wp2
  go_ret
  exact ⟨rfl, rfl⟩
theorem begin_yes (h : At w p s) (ho : s.op = false) (x : A) : Calls Tryd.prog 36 #[.pointer (some ⟨p, 0, none⟩), .string x] w fun e w' => e = .returned (.bool true) ∧ ∃ s', At w' p s' ∧ s'.abs = s.abs.begin_ zA x ∧ Upd (foot p s) w w' ∧ Fr w p s s' := by
  obtain ⟨c0, c1, c2, c3, n0, n1, c6, c7, c8, cf⟩ := h.cells
  have HA := Lib.hid h
  have HS : Hid (s.abs.begin_ zA x = (⟨s.bound, s.uv, s.rv, s.undo, s.redo, ⟨.slice none 0 0, [], x, zA⟩, true, false, 0⟩ : LS).abs) := Lib.hid (by unfold LS.abs AS.begin_; rw [ho]; rfl)
  rw [ho] at c6
  have hbw := h.blk.lt
  clear h ho
  go_enter Tryd.func36, Tryd.ntmps36
  go_wp2
  go_ret
  refine ⟨rfl, ⟨s.bound, s.uv, s.rv, s.undo, s.redo, ⟨.slice none 0 0, [], x, zA⟩, true, false, 0⟩, ?_, HS.out.symm, ?_, Fr.top rfl rfl rfl rfl (.inr rfl)⟩
  · refine HA.out.top_ ?_ ?_ rfl rfl rfl rfl (.inr ⟨rfl, rfl⟩)
    · (repeat' (first | with_reducible exact Upd.refl _ _ | with_reducible refine Upd.drewN ?_ _ | with_reducible refine Upd.drew ?_ | with_reducible refine Upd.alloc ?_ _ | (with_reducible refine Upd.setCell ?_ ?_ _; rotate_left; first | exact Or.inl rfl | exact Or.inl (foot_p _ _))))
    · (apply Blk.eq_; (focus (repeat' (first | with_reducible exact HA.out.blk | with_reducible apply Blk.drewN | with_reducible apply Blk.drew | with_reducible apply Blk.set_ | with_reducible apply Blk.alloc))); all_goals (simp only [LS.cells, List.setIfInBounds_toArray, List.set_cons_succ, List.set_cons_zero] <;> rfl))
  · (repeat' (first | with_reducible exact Upd.refl _ _ | with_reducible refine Upd.drewN ?_ _ | with_reducible refine Upd.drew ?_ | with_reducible refine Upd.alloc ?_ _ | (with_reducible refine Upd.setCell ?_ ?_ _; rotate_left; first | exact Or.inl rfl | exact Or.inl (foot_p _ _))))
end
end LogS
end Go.Proofs.YtkpcnfchhnfpoaaDoor
/- A log's memory turned: a group goes from one row to another. -/
set_option linter.unusedVariables false
namespace Go.Proofs.YtkpcnfchhnfpoaaDoor
open Go.RowKit Go.Proofs.YtkpcnfchhnfpoaaDoorW.PrintWords Go.Proofs.YtkpcnfchhnfpoaaDoor.Sep Log
namespace LogS
theorem blk_new_set (w : World) (q : Addr) (x : Value) (t : TypeId) (cs : Array Value) : Blk ((w.setCell q x).alloc (.cells cs t)) w.heap.size t cs := by
  have h := Blk.new (w.setCell q x) t cs
  rwa [show (w.setCell q x).heap.size = w.heap.size by simp [World.setCell]] at h
theorem below_undrew {w w' : World} (h : Below w.drew.heap.size w.drew w') : Below w.heap.size w w' := ⟨h.os, h.tape, h.output, h.size, h.block⟩
theorem flat_init (init : List Gr) (g : Gr) : ((init ++ [g]).flatMap Gr.cells).take (init.length * 3) = init.flatMap Gr.cells := by
  rw [List.flatMap_append, List.take_append_of_le_length (by rw [flat_glen]; exact Nat.le_refl _), List.take_of_length_le (by rw [flat_glen]; exact Nat.le_refl _)]
theorem flat_push (l : List Gr) (g : Gr) : (l ++ [g]).flatMap Gr.cells = l.flatMap Gr.cells ++ g.cells := by simp
theorem one_g (g : Gr) (A : Option Addr) (n c : Nat) (hv : g.dv = .slice A n c) : ∀ u ∈ g.cells, u.oneCell' = true := by
  intro u hu
  simp [Gr.cells] at hu
  rw [hv] at hu
  rcases hu with rfl | rfl | rfl <;> rfl
theorem reads_g (w : World) (g : Gr) : Reads (w.alloc (.cells #[g.dv, .string g.ah, .string g.be] 102)) (w.heap.size + 1) 3 (some ⟨w.heap.size, 0, none⟩) 1 g.cells := by
  have := (OwnS.new w 102 3 1 g.cells rfl (by unfold maxLen; omega)).reads
  simpa [Gr.cells] using this
section
variable {w w' w5 W : World} {p : Nat} {s s' : LS} {S : Nat → Prop} {init : List Gr} {g : Gr} {v5 : Value}
theorem At.build (h : At w p s) (u : Upd (top p s) w w') (hb : Blk w' p 104 s'.cells) (hU : OwnS w' 102 3 s'.uv s'.undo.length (s'.undo.flatMap Gr.cells)) (hR : OwnS w' 102 3 s'.rv s'.redo.length (s'.redo.flatMap Gr.cells))
    (hur : ∀ k, s'.uv.ownBlock = some k → s'.rv.ownBlock ≠ some k) (hg : ∀ g ∈ s'.groups, (∃ g1 ∈ s.groups, g.dv = g1.dv ∧ g.ds = g1.ds) ∨ (g.dv = .slice none 0 0 ∧ g.ds = [])) (hap : (blocks s'.groups).Nodup) : At w' p s' := by
  refine ⟨hb, hU, hR, hur, fun g hgm => ?_, hap⟩
  rcases hg g hgm with ⟨g1, h1, e1, e2⟩ | ⟨e1, e2⟩
  · rw [e1, e2]
    exact h.dKeep u (fun k hk => hk) g1 h1
  · rw [e1, e2]
    exact OwnS.nil _ _ _
theorem Fr.build (hu : ∀ k, s'.uv.ownBlock = some k → s.uv.ownBlock = some k ∨ w.heap.size ≤ k) (hr : ∀ k, s'.rv.ownBlock = some k → s.rv.ownBlock = some k ∨ w.heap.size ≤ k)
    (hg : ∀ g ∈ s'.groups, (∃ g1 ∈ s.groups, g.dv = g1.dv ∧ g.ds = g1.ds) ∨ (g.dv = .slice none 0 0 ∧ g.ds = [])) : Fr w p s s' := by
  rintro k (hk | hk | hk | ⟨g, hgm, hk⟩)
  · exact .inl (.inl hk)
  · exact (hu k hk).imp (fun e => .inr (.inl e)) id
  · exact (hr k hk).imp (fun e => .inr (.inr (.inl e))) id
  · rcases hg g hgm with ⟨g1, h1, e1, e2⟩ | ⟨e1, e2⟩
    · exact .inl (.inr (.inr (.inr ⟨g1, h1, by rw [← e1]; exact hk⟩)))
    · rw [e1] at hk
      cases hk
/-- The newest of undo goes to redo. -/
theorem At.undone (h : At w p s) {A : Option Addr} {c : Nat} (hu : s.undo = init ++ [g]) (hv : s.uv = .slice A (init.length + 1) c) (hW : Upd (fun k => k = p) w W) (hB : Blk W p 104 ({ s with uv := .slice A init.length c } : LS).cells)
    (ho5 : OwnS w5 102 3 v5 (s.redo.length + 1) (s.redo.flatMap Gr.cells ++ g.cells)) (hg5 : W.grownBy w5 s.rv.ownBlock) (hb5 : v5.ownBlock = s.rv.ownBlock ∨ ∀ k, v5.ownBlock = some k → W.heap.size ≤ k) :
    At (w5.setCell ⟨p, 2, none⟩ v5) p { s with uv := .slice A init.length c, rv := v5, undo := init, redo := s.redo ++ [g] } ∧ Upd (foot p s) w (w5.setCell ⟨p, 2, none⟩ v5) ∧ Fr w p s { s with uv := .slice A init.length c, rv := v5, undo := init, redo := s.redo ++ [g] } := by
  have hu5 : Upd (fun k => k = p ∨ s.rv.ownBlock = some k) w w5 := (hW.mono (fun k e => .inl e)).then_ (Upd.grown (S := fun k => s.rv.ownBlock = some k) hg5 (fun k e => e)) (fun k hk => .inl (.inr hk))
  have hB5 : Blk w5 p 104 ({ s with uv := .slice A init.length c } : LS).cells := hB.upd (Upd.grown (S := fun k => s.rv.ownBlock = some k) hg5 (fun k e => e)) h.rp
  have hB6 : Blk (w5.setCell ⟨p, 2, none⟩ v5) p 104 ({ s with uv := .slice A init.length c, rv := v5, undo := init, redo := s.redo ++ [g] } : LS).cells := by (apply Blk.eq_; (focus (repeat' (first | with_reducible exact hB5 | with_reducible apply Blk.drewN | with_reducible apply Blk.drew | with_reducible apply Blk.set_ | with_reducible apply Blk.alloc))); all_goals (simp only [LS.cells, List.setIfInBounds_toArray, List.set_cons_succ, List.set_cons_zero] <;> rfl))
  have hu6 : Upd (fun k => k = p ∨ s.rv.ownBlock = some k) w (w5.setCell ⟨p, 2, none⟩ v5) := hu5.setCell (.inl (.inl rfl)) _
  have hbl : (Value.slice A init.length c).ownBlock = s.uv.ownBlock := by rw [hv]; cases A <;> rfl
  have hU : OwnS w 102 3 (.slice A init.length c) init.length (init.flatMap Gr.cells) := by
    have h1 := h.u
    rw [hv, hu, List.length_append] at h1
    have h2 := OwnS.take h1 init.length (by omega)
    rw [flat_init] at h2
    exact h2
  have hgr : ∀ x ∈ ({ s with uv := .slice A init.length c, rv := v5, undo := init, redo := s.redo ++ [g] } : LS).groups, (∃ g1 ∈ s.groups, x.dv = g1.dv ∧ x.ds = g1.ds) ∨ (x.dv = .slice none 0 0 ∧ x.ds = []) := by
    intro x hx
    refine .inl ⟨x, ?_, rfl, rfl⟩
    unfold LS.groups at hx ⊢
    rw [hu]
    simp at hx ⊢
    rcases hx with rfl | hx | hx | rfl <;> simp_all
  refine ⟨h.build (hu6.mono (fun k hk => hk.elim .inl (fun e => .inr (.inr e)))) hB6 ?_ ?_ ?_ hgr ?_, hu6.mono (fun k hk => hk.elim .inl (fun e => .inr (.inr (.inl e)))), Fr.build ?_ ?_ hgr⟩
  · refine hU.upd hu6 (fun k hk e => ?_)
    rw [hbl] at hk
    rcases e with rfl | e
    · exact h.up hk
    · exact h.ur k hk e
  · show OwnS _ _ _ v5 (s.redo ++ [g]).length ((s.redo ++ [g]).flatMap Gr.cells)
    rw [flat_push, List.length_append]
    exact ho5.keep (fun k hk => Below.heap_setCell _ _ _ _ (fun e => ho5.ne_blk hB5 (by decide) (by rw [hk, e])))
  · intro k hk e
    rw [hbl] at hk
    rcases hb5 with hb | hb
    · exact h.ur k hk (by rw [← hb]; exact e)
    · have h1 := hb k e
      have h2 := h.u.lt k hk
      have h3 := hW.size
      omega
  · refine List.Perm.nodup (l := blocks s.groups) ?_ h.ap
    unfold blocks LS.groups
    rw [hu]
    refine List.Perm.filterMap _ (List.Perm.cons _ ?_)
    show (init ++ [g] ++ s.redo).Perm (init ++ (s.redo ++ [g]))
    rw [List.append_assoc]
    exact List.Perm.append_left init List.perm_append_comm
  · intro k hk
    exact .inl (by rw [← hbl]; exact hk)
  · intro k hk
    rcases hb5 with hb | hb
    · exact .inl (by rw [← hb]; exact hk)
    · exact .inr (Nat.le_trans hW.size (hb k hk))
/-- The newest of redo goes to undo. -/
theorem At.redone (h : At w p s) {A : Option Addr} {c : Nat} (hu : s.redo = init ++ [g]) (hv : s.rv = .slice A (init.length + 1) c) (hW : Upd (fun k => k = p) w W) (hB : Blk W p 104 ({ s with rv := .slice A init.length c } : LS).cells)
    (ho5 : OwnS w5 102 3 v5 (s.undo.length + 1) (s.undo.flatMap Gr.cells ++ g.cells)) (hg5 : W.grownBy w5 s.uv.ownBlock) (hb5 : v5.ownBlock = s.uv.ownBlock ∨ ∀ k, v5.ownBlock = some k → W.heap.size ≤ k) :
    At (w5.setCell ⟨p, 1, none⟩ v5) p { s with rv := .slice A init.length c, uv := v5, redo := init, undo := s.undo ++ [g] } ∧ Upd (foot p s) w (w5.setCell ⟨p, 1, none⟩ v5) ∧ Fr w p s { s with rv := .slice A init.length c, uv := v5, redo := init, undo := s.undo ++ [g] } := by
  have hu5 : Upd (fun k => k = p ∨ s.uv.ownBlock = some k) w w5 := (hW.mono (fun k e => .inl e)).then_ (Upd.grown (S := fun k => s.uv.ownBlock = some k) hg5 (fun k e => e)) (fun k hk => .inl (.inr hk))
  have hB5 : Blk w5 p 104 ({ s with rv := .slice A init.length c } : LS).cells := hB.upd (Upd.grown (S := fun k => s.uv.ownBlock = some k) hg5 (fun k e => e)) h.up
  have hB6 : Blk (w5.setCell ⟨p, 1, none⟩ v5) p 104 ({ s with rv := .slice A init.length c, uv := v5, redo := init, undo := s.undo ++ [g] } : LS).cells := by (apply Blk.eq_; (focus (repeat' (first | with_reducible exact hB5 | with_reducible apply Blk.drewN | with_reducible apply Blk.drew | with_reducible apply Blk.set_ | with_reducible apply Blk.alloc))); all_goals (simp only [LS.cells, List.setIfInBounds_toArray, List.set_cons_succ, List.set_cons_zero] <;> rfl))
  have hu6 : Upd (fun k => k = p ∨ s.uv.ownBlock = some k) w (w5.setCell ⟨p, 1, none⟩ v5) := hu5.setCell (.inl (.inl rfl)) _
  have hbl : (Value.slice A init.length c).ownBlock = s.rv.ownBlock := by rw [hv]; cases A <;> rfl
  have hU : OwnS w 102 3 (.slice A init.length c) init.length (init.flatMap Gr.cells) := by
    have h1 := h.r
    rw [hv, hu, List.length_append] at h1
    have h2 := OwnS.take h1 init.length (by omega)
    rw [flat_init] at h2
    exact h2
  have hgr : ∀ x ∈ ({ s with rv := .slice A init.length c, uv := v5, redo := init, undo := s.undo ++ [g] } : LS).groups, (∃ g1 ∈ s.groups, x.dv = g1.dv ∧ x.ds = g1.ds) ∨ (x.dv = .slice none 0 0 ∧ x.ds = []) := by
    intro x hx
    refine .inl ⟨x, ?_, rfl, rfl⟩
    unfold LS.groups at hx ⊢
    rw [hu]
    simp at hx ⊢
    rcases hx with rfl | hx | rfl | hx <;> simp_all
  refine ⟨h.build (hu6.mono (fun k hk => hk.elim .inl (fun e => .inr (.inl e)))) hB6 ?_ ?_ ?_ hgr ?_, hu6.mono (fun k hk => hk.elim .inl (fun e => .inr (.inl e))), Fr.build ?_ ?_ hgr⟩
  · show OwnS _ _ _ v5 (s.undo ++ [g]).length ((s.undo ++ [g]).flatMap Gr.cells)
    rw [flat_push, List.length_append]
    exact ho5.keep (fun k hk => Below.heap_setCell _ _ _ _ (fun e => ho5.ne_blk hB5 (by decide) (by rw [hk, e])))
  · refine hU.upd hu6 (fun k hk e => ?_)
    rw [hbl] at hk
    rcases e with rfl | e
    · exact h.rp hk
    · exact h.ur k e hk
  · intro k e hk
    have hk : (Value.slice A init.length c).ownBlock = some k := hk
    rw [hbl] at hk
    rcases hb5 with hb | hb
    · exact h.ur k (by rw [← hb]; exact e) hk
    · have h1 := hb k e
      have h2 := h.r.lt k hk
      have h3 := hW.size
      omega
  · refine List.Perm.nodup (l := blocks s.groups) ?_ h.ap
    unfold blocks LS.groups
    rw [hu]
    refine List.Perm.filterMap _ (List.Perm.cons _ ?_)
    show (s.undo ++ (init ++ [g])).Perm (s.undo ++ [g] ++ init)
    rw [List.append_assoc]
    exact List.Perm.append_left s.undo List.perm_append_comm
  · intro k hk
    rcases hb5 with hb | hb
    · exact .inl (by rw [← hb]; exact hk)
    · exact .inr (Nat.le_trans hW.size (hb k hk))
  · intro k hk
    exact .inl (by rw [← hbl]; exact hk)
end
end LogS
end Go.Proofs.YtkpcnfchhnfpoaaDoor
/- A log's Undo and Redo. -/
set_option linter.unusedVariables false
namespace Go.Proofs.YtkpcnfchhnfpoaaDoor
open Go.RowKit Go.Proofs.YtkpcnfchhnfpoaaDoorW.PrintWords Go.Proofs.YtkpcnfchhnfpoaaDoor.Sep Log
namespace LogS
section
variable {w w' : World} {p : Nat} {s s' : LS} {S : Nat → Prop}
set_option maxHeartbeats 3200000
set_option maxRecDepth 100000
theorem undo_open (h : At w p s) (ho : s.op = true) : Calls Tryd.prog 72 #[.pointer (some ⟨p, 0, none⟩)] w fun e w' => e = .returned (.tuple #[.slice none 0 0, .string zA, .int .i64 3]) ∧ w = w' := by
  obtain ⟨_, _, _, _, _, _, c6, -⟩ := h.cells
  rw [ho] at c6
  clear h ho
  go_enter Tryd.func72, Tryd.ntmps72
  go_wp2
  go_ret3
  exact ⟨rfl, rfl⟩
theorem undo_none (h : At w p s) (ho : s.op = false) (hu : s.undo = []) : Calls Tryd.prog 72 #[.pointer (some ⟨p, 0, none⟩)] w fun e w' => e = .returned (.tuple #[.slice none 0 0, .string zA, .int .i64 3]) ∧ w = w' := by
  obtain ⟨_, c1, _, _, _, _, c6, -⟩ := h.cells
  obtain ⟨A, c, hv, _⟩ := h.u.form
  rw [hu] at hv
  rw [hv] at c1
  rw [ho] at c6
  clear h ho hu hv
  go_enter Tryd.func72, Tryd.ntmps72
  go_wp2
  go_ret3
  exact ⟨rfl, rfl⟩
theorem undo_some (h : At w p s) (ho : s.op = false) (init : List Gr) (g : Gr) (hu : s.undo = init ++ [g]) (hn : s.redo.length ≤ 2000) (hm : init.length ≤ 2000) (hN : g.ds.length ≤ 1000000000000) :
    Calls Tryd.prog 72 #[.pointer (some ⟨p, 0, none⟩)] w fun e w' => ∃ v s', e = .returned (.tuple #[v, .string g.ah, .int .i64 0]) ∧ OwnD w' v (back g.ds) ∧ (∀ k, v.ownBlock = some k → w.heap.size ≤ k ∧ ¬ foot p s' k) ∧ At w' p s' ∧ s'.abs = s.abs.undo_ ∧ Upd (foot p s) w w' ∧ Fr w p s s' := by
  obtain ⟨i0, hi0, hz0, hz1, hz2⟩ := info_parts info_g
  obtain ⟨c0, c1, c2, c3, n0, n1, c6, c7, c8, cf⟩ := h.cells
  have hgm : g ∈ s.groups := by simp [LS.groups, hu]
  obtain ⟨A3, cd, hdv, hdl⟩ := (h.d g hgm).len
  have hDR : OwnD w g.dv g.ds := h.d g hgm
  have hdlt := OwnS.lt (h.d g hgm)
  have hdnt := fun k hk => h.notTop hgm (k := k) hk
  obtain ⟨gb, off, c, hv, hl, hc⟩ := h.u.some_ (by rw [hu]; simp)
  obtain ⟨A2, cr, hrv, hrl⟩ := h.r.form
  have hne : gb ≠ p := fun e => h.up (by rw [hv, e]; rfl)
  have hgw : gb < w.heap.size := h.u.lt gb (by rw [hv]; rfl)
  have hpw := h.blk.lt
  have hrp := h.rp
  have hul : s.undo.length = init.length + 1 := by rw [hu]; simp
  have HABS : Hid (∀ (x y : Value), (⟨s.bound, x, y, init, s.redo ++ [g], s.now, s.op, s.res, s.fst⟩ : LS).abs = s.abs.undo_) := Lib.hid (fun x y => by
    unfold AS.undo_ AS.undoG LS.abs
    simp [ho, hu])
  have k0 := hc _ _ (by rw [hu]; exact flat_last init g 0 _ rfl)
  rw [Nat.add_zero] at k0
  have k1 := hc _ _ (by rw [hu]; exact flat_last init g 1 _ rfl)
  rw [← Nat.add_assoc] at k1
  have k2 := hc _ _ (by rw [hu]; exact flat_last init g 2 _ rfl)
  rw [← Nat.add_assoc] at k2
  rw [hul] at hv hl
  rw [hv] at c1
  rw [ho] at c6
  have HA := Lib.hid h
  have HU := Lib.hid hu
  have HV := Lib.hid hv
  obtain ⟨gv, gd, ga, ge⟩ := g
  dsimp only at hdv hDR hdlt hdnt hN k0 k1 k2 ⊢
  subst hdv
  have HDT := Lib.hid hdnt
  have HDL := Lib.hid hdlt
  have HRV := Lib.hid hrv
  have hWu : Upd (fun k => k = p) w (((w.setCell ⟨p, 1, none⟩ (.slice (some ⟨gb, off, none⟩) init.length c)).alloc (.cells #[(.slice A3 gd.length cd), .string ga, .string ge] 102)).alloc (.cells #[(.slice A3 gd.length cd), .string ga, .string ge] 102)).drew := by (repeat' (first | with_reducible exact Upd.refl _ _ | with_reducible refine Upd.drewN ?_ _ | with_reducible refine Upd.drew ?_ | with_reducible refine Upd.alloc ?_ _ | (with_reducible refine Upd.setCell ?_ ?_ _; rotate_left; first | exact Or.inl rfl | exact Or.inl (foot_p _ _))))
  have hBu : Blk (((w.setCell ⟨p, 1, none⟩ (.slice (some ⟨gb, off, none⟩) init.length c)).alloc (.cells #[(.slice A3 gd.length cd), .string ga, .string ge] 102)).alloc (.cells #[(.slice A3 gd.length cd), .string ga, .string ge] 102)).drew p 104 ({ s with uv := .slice (some ⟨gb, off, none⟩) init.length c } : LS).cells := by (apply Blk.eq_; (focus (repeat' (first | with_reducible exact HA.out.blk | with_reducible apply Blk.drewN | with_reducible apply Blk.drew | with_reducible apply Blk.set_ | with_reducible apply Blk.alloc))); all_goals (simp only [LS.cells, List.setIfInBounds_toArray, List.set_cons_succ, List.set_cons_zero] <;> rfl))
  have hBg : Blk (((w.setCell ⟨p, 1, none⟩ (.slice (some ⟨gb, off, none⟩) init.length c)).alloc (.cells #[(.slice A3 gd.length cd), .string ga, .string ge] 102)).alloc (.cells #[(.slice A3 gd.length cd), .string ga, .string ge] 102)).drew w.heap.size 102 #[(.slice A3 gd.length cd), .string ga, .string ge] := (blk_new_set w _ _ _ _).alloc _
  have hB1 : Blk ((w.setCell ⟨p, 1, none⟩ (.slice (some ⟨gb, off, none⟩) init.length c)).alloc (.cells #[(.slice A3 gd.length cd), .string ga, .string ge] 102)) p 104 ({ s with uv := .slice (some ⟨gb, off, none⟩) init.length c } : LS).cells := by (apply Blk.eq_; (focus (repeat' (first | with_reducible exact HA.out.blk | with_reducible apply Blk.drewN | with_reducible apply Blk.drew | with_reducible apply Blk.set_ | with_reducible apply Blk.alloc))); all_goals (simp only [LS.cells, List.setIfInBounds_toArray, List.set_cons_succ, List.set_cons_zero] <;> rfl))
  have hB2 : Blk ((w.setCell ⟨p, 1, none⟩ (.slice (some ⟨gb, off, none⟩) init.length c)).alloc (.cells #[(.slice A3 gd.length cd), .string ga, .string ge] 102)) w.heap.size 102 #[(.slice A3 gd.length cd), .string ga, .string ge] := blk_new_set w _ _ _ _
  have d2 := hB1.cell 2
  have df := hB1.frozen
  have m0 := hB2.cell 0
  have m1 := hB2.cell 1
  have m2 := hB2.cell 2
  simp only [LS.cells, List.getElem?_toArray, List.getElem?_cons_succ, List.getElem?_cons_zero] at d2 m0 m1 m2
  rw [hrv] at d2
  clear hB1 hB2
  have HOr := Lib.hid (h.r.upd hWu (fun k hk e => hrp (by rw [← e]; exact hk)))
  have hrn := reads_g ((w.setCell ⟨p, 1, none⟩ (.slice (some ⟨gb, off, none⟩) init.length c)).alloc (.cells #[(.slice A3 gd.length cd), .string ga, .string ge] 102)) ⟨(.slice A3 gd.length cd), gd, ga, ge⟩
  rw [show ((w.setCell ⟨p, 1, none⟩ (.slice (some ⟨gb, off, none⟩) init.length c)).alloc (.cells #[(.slice A3 gd.length cd), .string ga, .string ge] 102)).heap.size = w.heap.size + 1 by simp [World.setCell]] at hrn
  have HRn := Lib.hid (Reads.drew hrn)
  clear hrn
  have HC1 := Lib.hid (one_g ⟨(.slice A3 gd.length cd), gd, ga, ge⟩ _ _ _ rfl)
  have HFIN : Hid (∀ v5 w5, _ → _ → _ → _) := Lib.hid (fun v5 w5 => At.undone (v5 := v5) (w5 := w5) h hu hv hWu hBu)
  have HWu := Lib.hid hWu
  have HBu := Lib.hid hBu
  have HBg := Lib.hid hBg
  have HDR := Lib.hid hDR
  have HRP := Lib.hid hrp
  have HRL := Lib.hid h.r.lt
  rw [hrv] at c2 HOr HFIN
  generalize hgm2 : init.length = m at *
  have HM := Lib.hid hgm2
  obtain ⟨n2, hn2⟩ : ∃ n2, n2 = s.redo.length := ⟨_, rfl⟩
  rw [← hn2] at c2 HOr d2
  have HN2 := Lib.hid hn2
  have hn3 : n2 ≤ 2000 := by omega
  have z1 : IntKind.i64.wrap (((m + 1 : Nat) : Int) - 1) = (m : Int) := by rw [IntKind.wrap_i64]; omega
  clear h ho hu hv hrv hWu hBu hBg hDR hrp hgm hdnt hdlt hul hgm2 hn2 hn hc
  go_enter Tryd.func72, Tryd.ntmps72
  go_wp2
  go_region_law (first
    | (refine step_append_s (v := .slice A2 n2 cr) (by rfl) _ _ _ (by rfl) Tryd.underlying100 hi0 hz0 hz1 hz2 rfl (by omega) (by rfl) HOr.out (by rfl) HRn.out HC1.out (by unfold maxLen; omega) (by omega) ?_; intro v5 w5 ho5 hg5 hb5; have HO5 := Lib.hid ho5; have HG5 := Lib.hid hg5; have HB5 := Lib.hid hb5; have hGu := Upd.grown (S := fun k => (Value.slice A2 n2 cr).ownBlock = some k) HG5.out (fun k e => e); have hb6 := HBu.out.upd hGu (fun e => HRP.out (by rw [HRV.out, ← HN2.out]; exact e)); have hb7 := HBg.out.upd hGu (fun e => by have h1 := HRL.out _ (by rw [HRV.out, ← HN2.out]; exact e); omega); have e2 := hb6.cell 2; have ef := hb6.frozen; have l0 := hb7.cell 0; have l1 := hb7.cell 1; have l2 := hb7.cell 2; have hlg := hb7.lt; have HB7 := Lib.hid hb7; obtain ⟨A5, c5, hv5, hl5⟩ := HO5.out.form; subst hv5; simp only [LS.cells, List.getElem?_toArray, List.getElem?_cons_succ, List.getElem?_cons_zero] at e2 l0 l1 l2; rw [HRV.out, ← HN2.out] at e2; have hlp := World.block_lt_of_cell? _ _ e2; clear ho5 hg5 hb5 hGu hb6 hb7))
  all_goals
    have hfin := HFIN.out (.slice A5 (n2 + 1) c5) w5 (by rw [← HN2.out]; exact HO5.out) (by rw [← HN2.out]; exact HG5.out) (by rw [← HN2.out]; exact HB5.out)
    have HFN := Lib.hid hfin
    have hlgp : w.heap.size ≠ p := by omega
    have HL : Hid (OwnD (w5.setCell ⟨p, 2, none⟩ (.slice A5 (n2 + 1) c5)) (.slice A3 gd.length cd) gd) := Lib.hid (hfin.1.d ⟨(.slice A3 gd.length cd), gd, ga, ge⟩ (by simp [LS.groups]))
    clear hfin
    have HI := Lib.hid (inverted_p (w5.setCell ⟨p, 2, none⟩ (.slice A5 (n2 + 1) c5)).drew A3 gd.length cd gd (OwnD.reads HL.out rfl) hN)
    have HB8 := Lib.hid (HB7.out.far (p := ⟨p, 2, none⟩) hlgp (.slice A5 (n2 + 1) c5))
    have b0 := HB8.out.cell 0
    have b1 := HB8.out.cell 1
    have b2 := HB8.out.cell 2
    simp only [List.getElem?_toArray, List.getElem?_cons_succ, List.getElem?_cons_zero] at b0 b1 b2
    go_wp2
    go_region_held3 (fun w' => w'.cell? ⟨w.heap.size, 0, none⟩ = some (.slice A3 gd.length cd) ∧ w'.cell? ⟨w.heap.size, 1, none⟩ = some (.string ga) ∧ w'.cell? ⟨w.heap.size, 2, none⟩ = some (.string ge))
      (first | go_keep | exact ⟨f0, f1, f2⟩ | exact ⟨b0, b1, b2⟩)
      ((go_at_call 59; refine HI.out.mono ?_; rintro e w7 ⟨v7, rfl, ho7, hk7, hb7⟩; have hb8 := HB8.out.upd (Upd.below (below_undrew hb7) No) (fun h => h); have f0 := hb8.cell 0; have f1 := hb8.cell 1; have f2 := hb8.cell 2; simp only [List.getElem?_toArray, List.getElem?_cons_succ, List.getElem?_cons_zero] at f0 f1 f2; have HO7 := Lib.hid ho7; have HK7 := Lib.hid hk7; have HW7 := Lib.hid (below_undrew hb7); clear ho7 hk7 hb7 hb8))
    go_wp2
    go_ret3
    obtain ⟨hA6, hU6, hF6⟩ := HFN.out
    refine ⟨_, _, rfl, HO7.out, fun k hk => ?_, hA6.below HW7.out, HABS.out _ _, hU6.then_ (Upd.below HW7.out No) (fun k hk => hk.elim), hF6⟩
    have h1 : (w5.setCell ⟨p, 2, none⟩ (.slice A5 (n2 + 1) c5)).heap.size ≤ k := HK7.out k hk
    have h2 := hU6.size
    exact ⟨by omega, fun hf => by have := hA6.lt k hf; omega⟩
end
end LogS
end Go.Proofs.YtkpcnfchhnfpoaaDoor
/- A log's Redo. -/
set_option linter.unusedVariables false
namespace Go.Proofs.YtkpcnfchhnfpoaaDoor
open Go.RowKit Go.Proofs.YtkpcnfchhnfpoaaDoorW.PrintWords Go.Proofs.YtkpcnfchhnfpoaaDoor.Sep Log
namespace LogS
section
variable {w w' : World} {p : Nat} {s s' : LS} {S : Nat → Prop}
set_option maxHeartbeats 3200000
set_option maxRecDepth 100000
theorem redo_open (h : At w p s) (ho : s.op = true) : Calls Tryd.prog 74 #[.pointer (some ⟨p, 0, none⟩)] w fun e w' => e = .returned (.tuple #[.slice none 0 0, .string zA, .int .i64 4]) ∧ w = w' := by
  obtain ⟨_, _, _, _, _, _, c6, -⟩ := h.cells
  rw [ho] at c6
  clear h ho
  go_enter Tryd.func74, Tryd.ntmps74
  go_wp2
  go_ret3
  exact ⟨rfl, rfl⟩
theorem redo_none (h : At w p s) (ho : s.op = false) (hu : s.redo = []) : Calls Tryd.prog 74 #[.pointer (some ⟨p, 0, none⟩)] w fun e w' => e = .returned (.tuple #[.slice none 0 0, .string zA, .int .i64 4]) ∧ w = w' := by
  obtain ⟨_, _, c1, _, _, _, c6, -⟩ := h.cells
  obtain ⟨A, c, hv, _⟩ := h.r.form
  rw [hu] at hv
  rw [hv] at c1
  rw [ho] at c6
  clear h ho hu hv
  go_enter Tryd.func74, Tryd.ntmps74
  go_wp2
  go_ret3
  exact ⟨rfl, rfl⟩
theorem redo_some (h : At w p s) (ho : s.op = false) (init : List Gr) (g : Gr) (hu : s.redo = init ++ [g]) (hn : s.undo.length ≤ 2000) (hm : init.length ≤ 2000) (hN : g.ds.length ≤ 1000000000000) :
    Calls Tryd.prog 74 #[.pointer (some ⟨p, 0, none⟩)] w fun e w' => ∃ v s', e = .returned (.tuple #[v, .string g.be, .int .i64 0]) ∧ OwnD w' v g.ds ∧ (∀ k, v.ownBlock = some k → w.heap.size ≤ k ∧ ¬ foot p s' k) ∧ At w' p s' ∧ s'.abs = s.abs.redo_ ∧ Upd (foot p s) w w' ∧ Fr w p s s' := by
  obtain ⟨i0, hi0, hz0, hz1, hz2⟩ := info_parts info_g
  obtain ⟨c0, c1, c2, c3, n0, n1, c6, c7, c8, cf⟩ := h.cells
  have hgm : g ∈ s.groups := by simp [LS.groups, hu]
  obtain ⟨A3, cd, hdv, hdl⟩ := (h.d g hgm).len
  have hDR : OwnD w g.dv g.ds := h.d g hgm
  have hdlt := OwnS.lt (h.d g hgm)
  have hdnt := fun k hk => h.notTop hgm (k := k) hk
  obtain ⟨gb, off, c, hv, hl, hc⟩ := h.r.some_ (by rw [hu]; simp)
  obtain ⟨A2, cr, hrv, hrl⟩ := h.u.form
  have hne : gb ≠ p := fun e => h.rp (by rw [hv, e]; rfl)
  have hgw : gb < w.heap.size := h.r.lt gb (by rw [hv]; rfl)
  have hpw := h.blk.lt
  have hrp := h.up
  have hul : s.redo.length = init.length + 1 := by rw [hu]; simp
  have HABS : Hid (∀ (x y : Value), (⟨s.bound, x, y, s.undo ++ [g], init, s.now, s.op, s.res, s.fst⟩ : LS).abs = s.abs.redo_) := Lib.hid (fun x y => by
    unfold AS.redo_ AS.redoG LS.abs
    simp [ho, hu])
  have k0 := hc _ _ (by rw [hu]; exact flat_last init g 0 _ rfl)
  rw [Nat.add_zero] at k0
  have k1 := hc _ _ (by rw [hu]; exact flat_last init g 1 _ rfl)
  rw [← Nat.add_assoc] at k1
  have k2 := hc _ _ (by rw [hu]; exact flat_last init g 2 _ rfl)
  rw [← Nat.add_assoc] at k2
  rw [hul] at hv hl
  rw [hv] at c2
  rw [ho] at c6
  have HA := Lib.hid h
  have HU := Lib.hid hu
  have HV := Lib.hid hv
  obtain ⟨gv, gd, ga, ge⟩ := g
  dsimp only at hdv hDR hdlt hdnt hN k0 k1 k2 ⊢
  subst hdv
  have HDT := Lib.hid hdnt
  have HDL := Lib.hid hdlt
  have HRV := Lib.hid hrv
  have hWu : Upd (fun k => k = p) w (((w.setCell ⟨p, 2, none⟩ (.slice (some ⟨gb, off, none⟩) init.length c)).alloc (.cells #[(.slice A3 gd.length cd), .string ga, .string ge] 102)).alloc (.cells #[(.slice A3 gd.length cd), .string ga, .string ge] 102)).drew := by (repeat' (first | with_reducible exact Upd.refl _ _ | with_reducible refine Upd.drewN ?_ _ | with_reducible refine Upd.drew ?_ | with_reducible refine Upd.alloc ?_ _ | (with_reducible refine Upd.setCell ?_ ?_ _; rotate_left; first | exact Or.inl rfl | exact Or.inl (foot_p _ _))))
  have hBu : Blk (((w.setCell ⟨p, 2, none⟩ (.slice (some ⟨gb, off, none⟩) init.length c)).alloc (.cells #[(.slice A3 gd.length cd), .string ga, .string ge] 102)).alloc (.cells #[(.slice A3 gd.length cd), .string ga, .string ge] 102)).drew p 104 ({ s with rv := .slice (some ⟨gb, off, none⟩) init.length c } : LS).cells := by (apply Blk.eq_; (focus (repeat' (first | with_reducible exact HA.out.blk | with_reducible apply Blk.drewN | with_reducible apply Blk.drew | with_reducible apply Blk.set_ | with_reducible apply Blk.alloc))); all_goals (simp only [LS.cells, List.setIfInBounds_toArray, List.set_cons_succ, List.set_cons_zero] <;> rfl))
  have hBg : Blk (((w.setCell ⟨p, 2, none⟩ (.slice (some ⟨gb, off, none⟩) init.length c)).alloc (.cells #[(.slice A3 gd.length cd), .string ga, .string ge] 102)).alloc (.cells #[(.slice A3 gd.length cd), .string ga, .string ge] 102)).drew w.heap.size 102 #[(.slice A3 gd.length cd), .string ga, .string ge] := (blk_new_set w _ _ _ _).alloc _
  have hB1 : Blk ((w.setCell ⟨p, 2, none⟩ (.slice (some ⟨gb, off, none⟩) init.length c)).alloc (.cells #[(.slice A3 gd.length cd), .string ga, .string ge] 102)) p 104 ({ s with rv := .slice (some ⟨gb, off, none⟩) init.length c } : LS).cells := by (apply Blk.eq_; (focus (repeat' (first | with_reducible exact HA.out.blk | with_reducible apply Blk.drewN | with_reducible apply Blk.drew | with_reducible apply Blk.set_ | with_reducible apply Blk.alloc))); all_goals (simp only [LS.cells, List.setIfInBounds_toArray, List.set_cons_succ, List.set_cons_zero] <;> rfl))
  have hB2 : Blk ((w.setCell ⟨p, 2, none⟩ (.slice (some ⟨gb, off, none⟩) init.length c)).alloc (.cells #[(.slice A3 gd.length cd), .string ga, .string ge] 102)) w.heap.size 102 #[(.slice A3 gd.length cd), .string ga, .string ge] := blk_new_set w _ _ _ _
  have d2 := hB1.cell 1
  have df := hB1.frozen
  have m0 := hB2.cell 0
  have m1 := hB2.cell 1
  have m2 := hB2.cell 2
  simp only [LS.cells, List.getElem?_toArray, List.getElem?_cons_succ, List.getElem?_cons_zero] at d2 m0 m1 m2
  rw [hrv] at d2
  clear hB1 hB2
  have HOr := Lib.hid (h.u.upd hWu (fun k hk e => hrp (by rw [← e]; exact hk)))
  have hrn := reads_g ((w.setCell ⟨p, 2, none⟩ (.slice (some ⟨gb, off, none⟩) init.length c)).alloc (.cells #[(.slice A3 gd.length cd), .string ga, .string ge] 102)) ⟨(.slice A3 gd.length cd), gd, ga, ge⟩
  rw [show ((w.setCell ⟨p, 2, none⟩ (.slice (some ⟨gb, off, none⟩) init.length c)).alloc (.cells #[(.slice A3 gd.length cd), .string ga, .string ge] 102)).heap.size = w.heap.size + 1 by simp [World.setCell]] at hrn
  have HRn := Lib.hid (Reads.drew hrn)
  clear hrn
  have HC1 := Lib.hid (one_g ⟨(.slice A3 gd.length cd), gd, ga, ge⟩ _ _ _ rfl)
  have HFIN : Hid (∀ v5 w5, _ → _ → _ → _) := Lib.hid (fun v5 w5 => At.redone (v5 := v5) (w5 := w5) h hu hv hWu hBu)
  have HWu := Lib.hid hWu
  have HBu := Lib.hid hBu
  have HBg := Lib.hid hBg
  have HDR := Lib.hid hDR
  have HRP := Lib.hid hrp
  have HRL := Lib.hid h.u.lt
  rw [hrv] at c1 HOr HFIN
  generalize hgm2 : init.length = m at *
  have HM := Lib.hid hgm2
  obtain ⟨n2, hn2⟩ : ∃ n2, n2 = s.undo.length := ⟨_, rfl⟩
  rw [← hn2] at c1 HOr d2
  have HN2 := Lib.hid hn2
  have hn3 : n2 ≤ 2000 := by omega
  have z1 : IntKind.i64.wrap (((m + 1 : Nat) : Int) - 1) = (m : Int) := by rw [IntKind.wrap_i64]; omega
  clear h ho hu hv hrv hWu hBu hBg hDR hrp hgm hdnt hdlt hul hgm2 hn2 hn hc
  go_enter Tryd.func74, Tryd.ntmps74
  go_wp2
  go_region_law (first
    | (refine step_append_s (v := .slice A2 n2 cr) (by rfl) _ _ _ (by rfl) Tryd.underlying100 hi0 hz0 hz1 hz2 rfl (by omega) (by rfl) HOr.out (by rfl) HRn.out HC1.out (by unfold maxLen; omega) (by omega) ?_; intro v5 w5 ho5 hg5 hb5; have HO5 := Lib.hid ho5; have HG5 := Lib.hid hg5; have HB5 := Lib.hid hb5; have hGu := Upd.grown (S := fun k => (Value.slice A2 n2 cr).ownBlock = some k) HG5.out (fun k e => e); have hb6 := HBu.out.upd hGu (fun e => HRP.out (by rw [HRV.out, ← HN2.out]; exact e)); have hb7 := HBg.out.upd hGu (fun e => by have h1 := HRL.out _ (by rw [HRV.out, ← HN2.out]; exact e); omega); have e2 := hb6.cell 1; have ef := hb6.frozen; have l0 := hb7.cell 0; have l1 := hb7.cell 1; have l2 := hb7.cell 2; have hlg := hb7.lt; have HB7 := Lib.hid hb7; obtain ⟨A5, c5, hv5, hl5⟩ := HO5.out.form; subst hv5; simp only [LS.cells, List.getElem?_toArray, List.getElem?_cons_succ, List.getElem?_cons_zero] at e2 l0 l1 l2; rw [HRV.out, ← HN2.out] at e2; have hlp := World.block_lt_of_cell? _ _ e2; clear ho5 hg5 hb5 hGu hb6 hb7))
  all_goals
    have hfin := HFIN.out (.slice A5 (n2 + 1) c5) w5 (by rw [← HN2.out]; exact HO5.out) (by rw [← HN2.out]; exact HG5.out) (by rw [← HN2.out]; exact HB5.out)
    have HFN := Lib.hid hfin
    have hlgp : w.heap.size ≠ p := by omega
    have HL : Hid (OwnD (w5.setCell ⟨p, 1, none⟩ (.slice A5 (n2 + 1) c5)) (.slice A3 gd.length cd) gd) := Lib.hid (hfin.1.d ⟨(.slice A3 gd.length cd), gd, ga, ge⟩ (by simp [LS.groups]))
    clear hfin
    have HN7 := Lib.hid (OwnS.nil (w5.setCell ⟨p, 1, none⟩ (.slice A5 (n2 + 1) c5)).drew 24 3)
    have HR7 : Hid (Reads (w5.setCell ⟨p, 1, none⟩ (.slice A5 (n2 + 1) c5)).drew (w5.setCell ⟨p, 1, none⟩ (.slice A5 (n2 + 1) c5)).heap.size 3 A3 gd.length (gd.flatMap dcells)) := Lib.hid ((OwnD.reads HL.out rfl).2.drew)
    obtain ⟨j0, hj0, hy0, hy1, hy2⟩ := info_parts info24
    have HB8 := Lib.hid (HB7.out.far (p := ⟨p, 1, none⟩) hlgp (.slice A5 (n2 + 1) c5))
    have b0 := HB8.out.cell 0
    have b1 := HB8.out.cell 1
    have b2 := HB8.out.cell 2
    simp only [List.getElem?_toArray, List.getElem?_cons_succ, List.getElem?_cons_zero] at b0 b1 b2
    go_wp2
    go_region_held3 (fun w' => w'.cell? ⟨w.heap.size, 0, none⟩ = some (.slice A3 gd.length cd) ∧ w'.cell? ⟨w.heap.size, 1, none⟩ = some (.string ga) ∧ w'.cell? ⟨w.heap.size, 2, none⟩ = some (.string ge))
      (first | go_keep | exact ⟨f0, f1, f2⟩ | exact ⟨b0, b1, b2⟩)
      ((refine step_append_s (v := .slice none 0 0) (by rfl) _ _ _ (by rfl) Tryd.underlying22 hj0 hy0 hy1 hy2 rfl (by omega) (by rfl) HN7.out (by rfl) HR7.out (one_cells gd) (by unfold maxLen; omega) (by omega) ?_; intro v7 w7 ho7 hg7 hk7; have hb7 : Below (w5.setCell ⟨p, 1, none⟩ (.slice A5 (n2 + 1) c5)).drew.heap.size (w5.setCell ⟨p, 1, none⟩ (.slice A5 (n2 + 1) c5)).drew w7 := (Upd.grown (S := No) hg7 (fun k e => by cases e)).no; have hb8 := HB8.out.upd (Upd.below (below_undrew hb7) No) (fun h => h); have f0 := hb8.cell 0; have f1 := hb8.cell 1; have f2 := hb8.cell 2; simp only [List.getElem?_toArray, List.getElem?_cons_succ, List.getElem?_cons_zero] at f0 f1 f2; have HO7 := Lib.hid ho7; have HK7 := Lib.hid hk7; have HW7 := Lib.hid (below_undrew hb7); clear ho7 hk7 hb7 hb8 hg7))
    go_wp2
    go_ret3
    obtain ⟨hA6, hU6, hF6⟩ := HFN.out
    refine ⟨_, _, rfl, (by have h7 := HO7.out; rw [Nat.zero_add, List.nil_append] at h7; exact h7), fun k hk => ?_, hA6.below HW7.out, HABS.out _ _, hU6.then_ (Upd.below HW7.out No) (fun k hk => hk.elim), hF6⟩
    have hk : v7.ownBlock = some k := hk
    have h1 : (w5.setCell ⟨p, 1, none⟩ (.slice A5 (n2 + 1) c5)).heap.size ≤ k := by
      rcases HK7.out with e | e
      · rw [show v7.ownBlock = none from e] at hk
        cases hk
      · exact e k hk
    have h2 := hU6.size
    exact ⟨by omega, fun hf => by have := hA6.lt k hf; omega⟩
end
end LogS
end Go.Proofs.YtkpcnfchhnfpoaaDoor
/- A log's close, Clear, Resume. -/
set_option linter.unusedVariables false
namespace Go.Proofs.YtkpcnfchhnfpoaaDoor
open Go.RowKit Go.Proofs.YtkpcnfchhnfpoaaDoorW.PrintWords Go.Proofs.YtkpcnfchhnfpoaaDoor.Sep Log
namespace LogS
section
variable {w w' W : World} {p : Nat} {s s' : LS} {S : Nat → Prop} {init : List Gr} {g : Gr}
set_option maxHeartbeats 1600000
set_option maxRecDepth 100000
theorem Upd.foot1 (u : Upd (fun k => k = p) w w') : Upd (foot p s) w w' := u.mono (fun k hk => by subst hk; exact foot_p _ _)
theorem Upd.top1 (u : Upd (fun k => k = p) w w') : Upd (top p s) w w' := u.mono (fun k hk => .inl hk)
theorem close_ (h : At w p s) : Calls Tryd.prog 70 #[.pointer (some ⟨p, 0, none⟩)] w fun e w' => e = .returned (.agg #[s.now.dv, .string s.now.ah, .string s.now.be]) ∧ Blk w' p 104 ({ s with now := g0, op := false } : LS).cells ∧ Upd (fun k => k = p) w w' := by
  obtain ⟨c0, c1, c2, c3, n0, n1, c6, c7, c8, cf⟩ := h.cells
  have hbw := h.blk.lt
  obtain ⟨A3, cd, hdv, hdl⟩ := (h.d s.now (by simp [LS.groups])).len
  have HB := Lib.hid h.blk
  have HDV := Lib.hid hdv
  rw [hdv] at c3
  generalize hn : s.now = n at *
  obtain ⟨nv, nd, na, ne⟩ := n
  dsimp only at hdv n0 n1 c3 hdl ⊢
  clear h
  have HNW := Lib.hid hn
  subst hdv
  clear hn
  go_enter Tryd.func70, Tryd.ntmps70
  go_wp2
  go_returns
  refine ⟨rfl, ?_, ?_⟩
  · (apply Blk.eq_; (focus (repeat' (first | with_reducible exact HB.out | with_reducible apply Blk.drewN | with_reducible apply Blk.drew | with_reducible apply Blk.set_ | with_reducible apply Blk.alloc))); all_goals (simp only [LS.cells, List.setIfInBounds_toArray, List.set_cons_succ, List.set_cons_zero] <;> rfl))
  · (repeat' (first | with_reducible exact Upd.refl _ _ | with_reducible refine Upd.drewN ?_ _ | with_reducible refine Upd.drew ?_ | with_reducible refine Upd.alloc ?_ _ | (with_reducible refine Upd.setCell ?_ ?_ _; rotate_left; first | exact Or.inl rfl | exact Or.inl (foot_p _ _))))
theorem clear_ (h : At w p s) : Calls Tryd.prog 52 #[.pointer (some ⟨p, 0, none⟩)] w fun e w' => e = .returned (.tuple #[]) ∧ ∃ s', At w' p s' ∧ s'.abs = s.abs.clear ∧ Upd (foot p s) w w' ∧ Fr w p s s' := by
  obtain ⟨c0, c1, c2, c3, n0, n1, c6, c7, c8, cf⟩ := h.cells
  have hbw := h.blk.lt
  have HA := Lib.hid h
  clear h
  go_enter Tryd.func52, Tryd.ntmps52
  go_wp2
  go_returns
  refine ⟨rfl, ⟨s.bound, .slice none 0 0, .slice none 0 0, [], [], g0, false, false, 0⟩, ⟨?_, OwnS.nil _ _ _, OwnS.nil _ _ _, (fun k h => by cases h), fun g hg => ?_, ?_⟩, rfl, Upd.foot1 ?_, ?_⟩
  · (apply Blk.eq_; (focus (repeat' (first | with_reducible exact HA.out.blk | with_reducible apply Blk.drewN | with_reducible apply Blk.drew | with_reducible apply Blk.set_ | with_reducible apply Blk.alloc))); all_goals (simp only [LS.cells, List.setIfInBounds_toArray, List.set_cons_succ, List.set_cons_zero] <;> rfl))
  · simp [LS.groups] at hg
    subst hg
    exact OwnS.nil _ _ _
  · simp [blocks, LS.groups, g0, Value.ownBlock]
  · (repeat' (first | with_reducible exact Upd.refl _ _ | with_reducible refine Upd.drewN ?_ _ | with_reducible refine Upd.drew ?_ | with_reducible refine Upd.alloc ?_ _ | (with_reducible refine Upd.setCell ?_ ?_ _; rotate_left; first | exact Or.inl rfl | exact Or.inl (foot_p _ _))))
  · rintro k (rfl | hk | hk | ⟨g, hg, hk⟩)
    · exact .inl (foot_p _ _)
    · cases hk
    · cases hk
    · simp [LS.groups] at hg
      subst hg
      cases hk
theorem resume_open (h : At w p s) (ho : s.op = true) : Calls Tryd.prog 39 #[.pointer (some ⟨p, 0, none⟩)] w fun e w' => e = .returned (.bool false) ∧ w = w' := by
  obtain ⟨_, _, _, _, _, _, c6, -⟩ := h.cells
  rw [ho] at c6
  clear h ho
  go_enter Tryd.func39, Tryd.ntmps39
  go_wp2
  go_ret
  exact ⟨rfl, rfl⟩
theorem resume_redo (h : At w p s) (ho : s.op = false) (hr : 0 < s.redo.length) : Calls Tryd.prog 39 #[.pointer (some ⟨p, 0, none⟩)] w fun e w' => e = .returned (.bool false) ∧ w = w' := by
  obtain ⟨_, _, c2, _, _, _, c6, -⟩ := h.cells
  obtain ⟨A, c, hv, _⟩ := h.r.form
  rw [hv] at c2
  rw [ho] at c6
  generalize s.redo.length = n at *
  clear h ho hv
  go_enter Tryd.func39, Tryd.ntmps39
  go_wp2
  go_ret
  exact ⟨rfl, rfl⟩
theorem resume_none (h : At w p s) (ho : s.op = false) (hr : s.redo = []) (hu : s.undo = []) : Calls Tryd.prog 39 #[.pointer (some ⟨p, 0, none⟩)] w fun e w' => e = .returned (.bool false) ∧ w = w' := by
  obtain ⟨_, c1, c2, _, _, _, c6, -⟩ := h.cells
  obtain ⟨A, c, hv, _⟩ := h.r.form
  obtain ⟨A', c', hv', _⟩ := h.u.form
  rw [hv, hr] at c2
  rw [hv', hu] at c1
  rw [ho] at c6
  clear h ho hv hv' hr hu
  go_enter Tryd.func39, Tryd.ntmps39
  go_wp2
  go_ret
  exact ⟨rfl, rfl⟩
theorem At.resumed (h : At w p s) (ho : s.op = false) (hu : s.undo = init ++ [g]) (hr : s.redo = []) {A : Option Addr} {c : Nat} (hv : s.uv = .slice A (init.length + 1) c) (u : Upd (fun k => k = p) w w')
    (hb : Blk w' p 104 (⟨s.bound, .slice A init.length c, s.rv, init, s.redo, g, true, true, g.ds.length⟩ : LS).cells) :
    At w' p ⟨s.bound, .slice A init.length c, s.rv, init, s.redo, g, true, true, g.ds.length⟩ ∧ (⟨s.bound, .slice A init.length c, s.rv, init, s.redo, g, true, true, g.ds.length⟩ : LS).abs = s.abs.resume ∧ Upd (foot p s) w w' ∧ Fr w p s ⟨s.bound, .slice A init.length c, s.rv, init, s.redo, g, true, true, g.ds.length⟩ := by
  have hbl : (Value.slice A init.length c).ownBlock = s.uv.ownBlock := by rw [hv]; cases A <;> rfl
  have hU : OwnS w 102 3 (.slice A init.length c) init.length (init.flatMap Gr.cells) := by
    have h1 := h.u
    rw [hv, hu, List.length_append] at h1
    have h2 := OwnS.take h1 init.length (by omega)
    rw [flat_init] at h2
    exact h2
  have hgr : ∀ x ∈ (⟨s.bound, .slice A init.length c, s.rv, init, s.redo, g, true, true, g.ds.length⟩ : LS).groups, (∃ g1 ∈ s.groups, x.dv = g1.dv ∧ x.ds = g1.ds) ∨ (x.dv = .slice none 0 0 ∧ x.ds = []) := by
    intro x hx
    refine .inl ⟨x, ?_, rfl, rfl⟩
    unfold LS.groups at hx ⊢
    rw [hu, hr]
    rw [hr] at hx
    simp at hx ⊢
    rcases hx with rfl | hx <;> simp_all
  refine ⟨h.build (Upd.top1 u) hb (hU.upd u (fun k hk e => ?_)) (h.r.upd u (fun k hk e => h.rp (by rw [← e]; exact hk))) ?_ hgr ?_, ?_, Upd.foot1 u, Fr.build ?_ (fun k hk => .inl hk) hgr⟩
  · rw [hbl, e] at hk
    exact h.up hk
  · intro k hk
    rw [hbl] at hk
    exact h.ur k hk
  · have h1 := h.ap
    unfold blocks LS.groups at h1 ⊢
    rw [hu, hr] at h1
    rw [hr]
    refine List.Perm.nodup (l := List.filterMap (fun g => g.dv.ownBlock) (init ++ [g])) (List.Perm.filterMap _ ?_) ?_
    · simp
    · rw [List.filterMap_cons] at h1
      simp only [List.append_nil] at h1
      split at h1
      · exact h1
      · exact (List.nodup_cons.1 h1).2
  · unfold LS.abs AS.resume AS.resumeG
    simp [ho, hu, hr, Gr.abs]
  · intro k hk
    exact .inl (by rw [← hbl]; exact hk)
theorem resume_yes (h : At w p s) (ho : s.op = false) (init : List Gr) (g : Gr) (hu : s.undo = init ++ [g]) (hr : s.redo = []) (hm : init.length ≤ 2000) :
    Calls Tryd.prog 39 #[.pointer (some ⟨p, 0, none⟩)] w fun e w' => e = .returned (.bool true) ∧ ∃ s', At w' p s' ∧ s'.abs = s.abs.resume ∧ Upd (foot p s) w w' ∧ Fr w p s s' := by
  obtain ⟨c0, c1, c2, c3, n0, n1, c6, c7, c8, cf⟩ := h.cells
  have hgm : g ∈ s.groups := by simp [LS.groups, hu]
  obtain ⟨A3, cd, hdv, hdl⟩ := (h.d g hgm).len
  obtain ⟨gb, off, c, hv, hl, hc⟩ := h.u.some_ (by rw [hu]; simp)
  obtain ⟨A2, cr, hrv, hrl⟩ := h.r.form
  have hne : gb ≠ p := fun e => h.up (by rw [hv, e]; rfl)
  have hgw : gb < w.heap.size := h.u.lt gb (by rw [hv]; rfl)
  have hpw := h.blk.lt
  have hul : s.undo.length = init.length + 1 := by rw [hu]; simp
  have k0 := hc _ _ (by rw [hu]; exact flat_last init g 0 _ rfl)
  rw [Nat.add_zero] at k0
  have k1 := hc _ _ (by rw [hu]; exact flat_last init g 1 _ rfl)
  rw [← Nat.add_assoc] at k1
  have k2 := hc _ _ (by rw [hu]; exact flat_last init g 2 _ rfl)
  rw [← Nat.add_assoc] at k2
  rw [hul] at hv hl
  rw [hv] at c1
  rw [hrv, hr] at c2
  rw [ho] at c6
  have HFIN : Hid (∀ w', _ → _ → _) := Lib.hid (fun w' => At.resumed (w' := w') h ho hu hr hv)
  have HA := Lib.hid h
  obtain ⟨gv, gd, ga, ge⟩ := g
  dsimp only at hdv k0 k1 k2 HFIN ⊢
  subst hdv
  clear h ho hu hr hv hgm hul hc
  generalize init.length = m at *
  have z1 : IntKind.i64.wrap (((m + 1 : Nat) : Int) - 1) = (m : Int) := by rw [IntKind.wrap_i64]; omega
  go_enter Tryd.func39, Tryd.ntmps39
  go_wp2
  go_ret
  refine ⟨rfl, _, HFIN.out _ ?_ ?_⟩
  · (repeat' (first | with_reducible exact Upd.refl _ _ | with_reducible refine Upd.drewN ?_ _ | with_reducible refine Upd.drew ?_ | with_reducible refine Upd.alloc ?_ _ | (with_reducible refine Upd.setCell ?_ ?_ _; rotate_left; first | exact Or.inl rfl | exact Or.inl (foot_p _ _))))
  · (apply Blk.eq_; (focus (repeat' (first | with_reducible exact HA.out.blk | with_reducible apply Blk.drewN | with_reducible apply Blk.drew | with_reducible apply Blk.set_ | with_reducible apply Blk.alloc))); all_goals (simp only [LS.cells, List.setIfInBounds_toArray, List.set_cons_succ, List.set_cons_zero] <;> rfl))
end
end LogS
end Go.Proofs.YtkpcnfchhnfpoaaDoor
/- A log's Add. -/
set_option linter.unusedVariables false
namespace Go.Proofs.YtkpcnfchhnfpoaaDoor
open Go.RowKit Go.Proofs.YtkpcnfchhnfpoaaDoorW.PrintWords Go.Proofs.YtkpcnfchhnfpoaaDoor.Sep Log
namespace LogS
section
variable {w w' w5 W : World} {p : Nat} {s s' : LS} {S : Nat → Prop} {init : List Gr} {g : Gr} {v5 : Value}
set_option maxHeartbeats 1600000
set_option maxRecDepth 100000
theorem add_no (h : At w p s) (ho : s.op = false) (v : Value) : Calls Tryd.prog 42 #[.pointer (some ⟨p, 0, none⟩), v] w fun e w' => e = .returned (.bool false) ∧ w = w' := by
  obtain ⟨_, _, _, _, _, _, c6, -⟩ := h.cells
  rw [ho] at c6
  clear h ho
  go_enter Tryd.func42, Tryd.ntmps42
  go_wp2
  go_ret
  exact ⟨rfl, rfl⟩
/-- The open group, with deltas put into it. -/
def LS.put (s : LS) (v : Value) (ds : List Delta) : LS := { s with now := { s.now with dv := v, ds := ds } }
theorem Fr.refl (w : World) (p : Nat) (s : LS) : Fr w p s s := fun k h => .inl h
theorem At.pushed (h : At w p s) {d : Delta} (hW : Below w.heap.size w W)
    (ho5 : OwnS w5 24 3 v5 (s.now.ds.length + 1) (s.now.ds.flatMap dcells ++ dcells d)) (hg5 : W.grownBy w5 s.now.dv.ownBlock) (hb5 : v5.ownBlock = s.now.dv.ownBlock ∨ ∀ k, v5.ownBlock = some k → W.heap.size ≤ k) :
    At (w5.setCell ⟨p, 3, none⟩ v5) p (s.put v5 (s.now.ds ++ [d])) ∧ Upd (foot p s) w (w5.setCell ⟨p, 3, none⟩ v5) ∧ Fr w p s (s.put v5 (s.now.ds ++ [d])) := by
  have hnm : s.now ∈ s.groups := by simp [LS.groups]
  have hg5u : Upd (fun k => s.now.dv.ownBlock = some k) W w5 := Upd.grown hg5 (fun k e => e)
  have hu5 : Upd (fun k => s.now.dv.ownBlock = some k) w w5 := (Upd.below hW _).then_ hg5u (fun k hk => .inl hk)
  have hnp : s.now.dv.ownBlock ≠ some p := fun e => h.notTop hnm e (.inl rfl)
  have hB5 : Blk w5 p 104 s.cells := h.blk.upd hu5 hnp
  have hB6 : Blk (w5.setCell ⟨p, 3, none⟩ v5) p 104 (s.put v5 (s.now.ds ++ [d])).cells := by
    unfold LS.put
    (apply Blk.eq_; (focus (repeat' (first | with_reducible exact hB5 | with_reducible apply Blk.drewN | with_reducible apply Blk.drew | with_reducible apply Blk.set_ | with_reducible apply Blk.alloc))); all_goals (simp only [LS.cells, List.setIfInBounds_toArray, List.set_cons_succ, List.set_cons_zero] <;> rfl))
  have hu6 : Upd (fun k => k = p ∨ s.now.dv.ownBlock = some k) w (w5.setCell ⟨p, 3, none⟩ v5) := (hu5.mono (fun k hk => .inr hk)).setCell (.inl (.inl rfl)) _
  have hvp : v5.ownBlock ≠ some p := fun e => by
    rcases hb5 with hb | hb
    · exact hnp (by rw [← hb]; exact e)
    · have h1 := hb p e
      have h2 := h.blk.lt
      have h3 := hW.size
      omega
  have hlt := h.lt
  have hv5 : ∀ k, v5.ownBlock = some k → s.now.dv.ownBlock = some k ∨ w.heap.size ≤ k := fun k hk => by
    rcases hb5 with hb | hb
    · exact .inl (by rw [← hb]; exact hk)
    · exact .inr (Nat.le_trans hW.size (hb k hk))
  refine ⟨⟨hB6, ?_, ?_, h.ur, ?_, ?_⟩, hu6.mono (fun k hk => hk.elim .inl (fun e => .inr (.inr (.inr ⟨_, hnm, e⟩)))), ?_⟩
  · refine h.u.upd hu6 (fun k hk e => ?_)
    rcases e with rfl | e
    · exact h.up hk
    · exact h.notTop hnm e (.inr (.inl hk))
  · refine h.r.upd hu6 (fun k hk e => ?_)
    rcases e with rfl | e
    · exact h.rp hk
    · exact h.notTop hnm e (.inr (.inr hk))
  · intro g hg
    have hg : g ∈ (s.put v5 (s.now.ds ++ [d])).now :: (s.undo ++ s.redo) := hg
    rcases List.mem_cons.1 hg with rfl | hg
    · show OwnS _ _ _ v5 (s.now.ds ++ [d]).length ((s.now.ds ++ [d]).flatMap dcells)
      rw [List.length_append, List.flatMap_append]
      simp only [List.flatMap_cons, List.flatMap_nil, List.append_nil]
      exact ho5.keep (fun k hk => Below.heap_setCell _ _ _ _ (fun e => hvp (by rw [hk, e])))
    · have hgm : g ∈ s.groups := List.mem_cons_of_mem _ hg
      refine OwnS.upd (h.d g hgm) hu6 (fun k hk e => ?_)
      rcases e with rfl | e
      · exact h.notTop hgm hk (.inl rfl)
      · have h1 := h.ap
        unfold blocks LS.groups at h1
        rw [List.filterMap_cons, e] at h1
        exact (List.nodup_cons.1 h1).1 (List.mem_filterMap.2 ⟨g, hg, hk⟩)
  · show (blocks ((s.put v5 (s.now.ds ++ [d])).now :: (s.undo ++ s.redo))).Nodup
    have h1 := h.ap
    unfold blocks LS.groups at h1
    unfold blocks
    rw [List.filterMap_cons] at h1 ⊢
    have hrest : ((s.undo ++ s.redo).filterMap fun g => g.dv.ownBlock).Nodup := by
      split at h1
      · exact h1
      · exact (List.nodup_cons.1 h1).2
    have hx0 : (s.put v5 (s.now.ds ++ [d])).now.dv.ownBlock = v5.ownBlock := rfl
    rw [hx0]
    cases hx : v5.ownBlock with
    | none => exact hrest
    | some b =>
      refine List.nodup_cons.2 ⟨fun hm => ?_, hrest⟩
      obtain ⟨g, hg, hk⟩ := List.mem_filterMap.1 hm
      rcases hv5 b hx with e | e
      · rw [e] at h1
        exact (List.nodup_cons.1 h1).1 (List.mem_filterMap.2 ⟨g, hg, hk⟩)
      · have := OwnS.lt (h.d g (List.mem_cons_of_mem _ hg)) b hk
        omega
  · rintro k (hk | hk | hk | ⟨g, hg, hk⟩)
    · exact .inl (.inl hk)
    · exact .inl (.inr (.inl hk))
    · exact .inl (.inr (.inr (.inl hk)))
    · have hg : g ∈ (s.put v5 (s.now.ds ++ [d])).now :: (s.undo ++ s.redo) := hg
      rcases List.mem_cons.1 hg with rfl | hg
      · exact (hv5 k hk).imp (fun e => .inr (.inr (.inr ⟨_, hnm, e⟩))) id
      · exact .inl (.inr (.inr (.inr ⟨g, List.mem_cons_of_mem _ hg, hk⟩)))
theorem LS.put_put (s : LS) (v v' : Value) (ds ds' : List Delta) : (s.put v ds).put v' ds' = s.put v' ds' := rfl
theorem live_eq (a : Int) (o i : ByteArray) : live (a, o, i) = (!o.toList.isEmpty || !i.toList.isEmpty) := rfl
theorem filter_step (ds : List Delta) (i : Nat) (hi : i < ds.length) : (ds.take (i + 1)).filter live = (ds.take i).filter live ++ (if live (ds.getD i D0) = true then [ds.getD i D0] else []) := by
  rw [List.take_add_one, List.filter_append]
  congr 1
  rw [List.getElem?_eq_getElem hi]
  simp [List.getD, hi, List.filter_cons]
theorem add_yes (h : At w p s) (ho : s.op = true) (A : Option Addr) (n c : Nat) (ds : List Delta) (hr : ReadsD w w.heap.size A n ds) (hn : s.now.ds.length + n ≤ 1000000000000) (hap : 0 < n → ∀ a, A = some a → ¬ foot p s a.block) :
    Calls Tryd.prog 42 #[.pointer (some ⟨p, 0, none⟩), .slice A n c] w fun e w' => e = .returned (.bool true) ∧ ∃ s', At w' p s' ∧ s'.abs = s.abs.add ds ∧ Upd (foot p s) w w' ∧ Fr w p s s' := by
  obtain ⟨_, _, _, _, _, _, c6, -⟩ := h.cells
  obtain ⟨i0, hi0, hz0, hz1, hz2⟩ := info_parts info24
  rw [ho] at c6
  have hl := hr.1
  have HO := Lib.hid ho
  have HR := Lib.hid hr
  have HAP := Lib.hid hap
  have HA := Lib.hid h
  have HN := Lib.hid hn
  have hn2 : n ≤ 1000000000000 := by omega
  clear h ho hr hap hn
  go_enter Tryd.func42, Tryd.ntmps42
  go_wp2
  go_loopg [18] n (fun k v18 w' => ∃ i : Nat, v18 = .int .i64 i ∧ i + k = n ∧ ∃ v, Hid (At w' p (s.put v (s.now.ds ++ (ds.take i).filter live))) ∧ Hid (Upd (foot p s) w w') ∧ Hid (Fr w p s (s.put v (s.now.ds ++ (ds.take i).filter live))))
  case atStart => exact ⟨0, rfl, by omega, s.now.dv, Lib.hid (by simpa [LS.put] using HA.out), Lib.hid (Upd.refl _ _), Lib.hid (by simpa [LS.put] using Fr.refl w p s)⟩
  case round =>
    obtain ⟨i, rfl, hik, v, HAt, HU, HF⟩ := hrel
    cases gk with
    | zero =>
      have e1 : decide ((i : Int) < (n : Int)) = false := by simp; omega
      have HT : Hid (ds.take i = ds) := Lib.hid (List.take_of_length_le (by omega))
      go_wp2
      go_ret
      refine ⟨rfl, _, HAt.out, ?_, HU.out, HF.out⟩
      rw [HT.out]
      unfold LS.abs AS.add LS.put
      dsimp only
      rw [HO.out]
      rfl
    | succ k1 =>
      have hi : i < n := by omega
      have e1 : decide ((i : Int) < (n : Int)) = true := by simp [hi]
      obtain ⟨g, off, rfl, d0, d1, d2, _⟩ := delta_at HR.out hi
      have hnf : ¬ foot p s g := HAP.out (by omega) _ rfl
      have c0 := HU.out.cell (a := ⟨g, off + i * 3, none⟩) d0 hnf
      have c1 := HU.out.cell (a := ⟨g, off + i * 3 + 1, none⟩) d1 hnf
      have c2 := HU.out.cell (a := ⟨g, off + i * 3 + 2, none⟩) d2 hnf
      have hgw := World.block_lt_of_cell? _ _ c0
      clear d0 d1 d2 hnf
      have HFS := Lib.hid (filter_step ds i (by omega))
      have HN3 : Hid (s.now.ds.length + ((ds.take i).filter live).length + 1 ≤ 1000000000000) := Lib.hid (by
        have h1 := List.length_filter_le live (ds.take i)
        have h2 := HN.out
        rw [List.length_take] at h1
        omega)
      obtain ⟨x, hx⟩ : ∃ x, x = ds.getD i D0 := ⟨_, rfl⟩
      rw [← hx] at c0 c1 c2 HFS
      clear hx
      obtain ⟨x0, x1, x2⟩ := x
      dsimp only at c0 c1 c2
      obtain ⟨s2, hs2⟩ : ∃ s2, s2 = s.put v (s.now.ds ++ (ds.take i).filter live) := ⟨_, rfl⟩
      have HPUT : Hid (∀ v5 y, s2.put v5 (s2.now.ds ++ y) = s.put v5 (s.now.ds ++ ((ds.take i).filter live ++ y))) := Lib.hid (fun v5 y => by rw [hs2, LS.put_put]; unfold LS.put; dsimp only; rw [List.append_assoc])
      have HLN : Hid (s2.now.ds.length + 1 ≤ 1000000000000) := Lib.hid (by rw [hs2]; unfold LS.put; dsimp only; rw [List.length_append]; exact HN3.out)
      rw [← hs2] at HAt HF
      have HS2 := Lib.hid hs2
      clear hs2
      obtain ⟨f0, f1, f2, f3, -, -, -, -, -, ff⟩ := HAt.out.cells
      obtain ⟨A3, cd, hdv, hdl⟩ := (HAt.out.d s2.now (by simp [LS.groups])).len
      have hOr := HAt.out.d s2.now (by simp [LS.groups])
      unfold OwnD at hOr
      rw [hdv] at f3 hOr
      have hpw := HAt.out.blk.lt
      cases hlv : live (x0, x1, x2) with
      | false =>
        rw [hlv] at HFS
        rw [live_eq] at hlv
        have b1 : x1.toList.isEmpty = true := by cases h1 : x1.toList.isEmpty <;> simp_all
        have b2 : x2.toList.isEmpty = true := by cases h1 : x2.toList.isEmpty <;> simp_all
        have HE : Hid ((ds.take (i + 1)).filter live = (ds.take i).filter live) := Lib.hid (by rw [HFS.out]; simp)
        clear hlv hdv hOr hdl f0 f1 f2 f3 ff
        go_wp2
        go_roundg k1
        case measure => omega
        case rel =>
          have hb : Below wr.heap.size wr (wr.alloc (.cells #[.int .i64 x0, .string x1, .string x2] 24)) := (Below.refl _ _).alloc (Nat.le_refl _) _
          refine ⟨i + 1, by simp, by omega, v, Lib.hid ?_, Lib.hid ?_, Lib.hid ?_⟩
          · rw [HE.out, ← HS2.out]
            exact HAt.out.below hb
          · exact HU.out.then_ (Upd.below hb No) (fun k hk => hk.elim)
          · rw [HE.out, ← HS2.out]
            exact HF.out
      | true =>
        rw [hlv] at HFS
        have HE : Hid ((ds.take (i + 1)).filter live = (ds.take i).filter live ++ [(x0, x1, x2)]) := Lib.hid (by rw [HFS.out]; simp)
        have hlv2 : x1.toList.isEmpty = false ∨ (x1.toList.isEmpty = true ∧ x2.toList.isEmpty = false) := by
          rw [live_eq] at hlv
          cases h1 : x1.toList.isEmpty <;> simp_all
        have hWb : Below wr.heap.size wr (((wr.alloc (.cells #[.int .i64 x0, .string x1, .string x2] 24)).alloc (.cells #[.int .i64 x0, .string x1, .string x2] 24)).drew) := by
          have := ((Below.refl wr.heap.size wr).alloc (Nat.le_refl _) (.cells #[.int .i64 x0, .string x1, .string x2] 24)).alloc (by simp) (.cells #[.int .i64 x0, .string x1, .string x2] 24)
          exact ⟨this.os, this.tape, this.output, this.size, this.block⟩
        have HOr := Lib.hid (OwnS.upd hOr (Upd.below hWb No) (fun k hk h => h))
        have hrn := reads_one (wr.alloc (.cells #[.int .i64 x0, .string x1, .string x2] 24)) (x0, x1, x2)
        rw [show (wr.alloc (.cells #[.int .i64 x0, .string x1, .string x2] 24)).heap.size = wr.heap.size + 1 by simp] at hrn
        have HRn := Lib.hid (Reads.drew hrn)
        clear hrn
        have HBu := Lib.hid (HAt.out.blk.upd (Upd.below hWb No) (fun h => h))
        have hnp : (Value.slice A3 s2.now.ds.length cd).ownBlock ≠ some p := fun e => HAt.out.notTop (g := s2.now) (by simp [LS.groups]) (by rw [hdv]; exact e) (.inl rfl)
        have HNP := Lib.hid hnp
        have HFIN : Hid (∀ v5 w5, _ → _ → _ → _) := Lib.hid (fun v5 w5 => At.pushed (v5 := v5) (w5 := w5) (d := (x0, x1, x2)) HAt.out hWb)
        rw [hdv] at HFIN
        have HDV := Lib.hid hdv
        have HL2 := Lib.hid hdl
        obtain ⟨N, hN⟩ : ∃ N, N = s2.now.ds.length := ⟨_, rfl⟩
        rw [← hN] at f3 HOr
        have HNN := Lib.hid hN
        have hN1 : N + 1 ≤ 1000000000000 := by have := HLN.out; omega
        clear hlv hdv hOr hdl f0 f1 f2 hWb hnp hN
        rcases hlv2 with b1 | ⟨b1, b2⟩
        all_goals
          go_wp2
          go_region_law (first
            | (refine step_append_s (v := .slice A3 N cd) (by rfl) _ _ _ (by rfl) Tryd.underlying22 hi0 hz0 hz1 hz2 rfl (by omega) (by rfl) HOr.out (by rfl) HRn.out (one_cells [(x0, x1, x2)]) (by unfold maxLen; omega) (by omega) ?_; intro v5 w5 ho5 hg5 hb5; have HO5 := Lib.hid ho5; have HG5 := Lib.hid hg5; have HB5 := Lib.hid hb5; have hb6 := HBu.out.upd (Upd.grown (S := fun k => (Value.slice A3 N cd).ownBlock = some k) HG5.out (fun k e => e)) (fun e => HNP.out (by rw [← HNN.out]; exact e)); have e3 := hb6.cell 3; have ef := hb6.frozen; have hlp := hb6.lt; obtain ⟨A5, c5, hv5, hl5⟩ := HO5.out.form; subst hv5; clear ho5 hg5 hb5 hb6; simp only [LS.cells, List.getElem?_toArray, List.getElem?_cons_succ, List.getElem?_cons_zero] at e3; rw [HDV.out] at e3))
        all_goals
          have hfin := HFIN.out (.slice A5 (N + 1) c5) w5 (by rw [← HNN.out]; exact HO5.out) (by rw [← HNN.out]; exact HG5.out) (by rw [← HNN.out]; exact HB5.out)
          have HFN := Lib.hid hfin
          clear hfin
          go_wp2
          go_roundg k1
          case measure => omega
          case rel =>
            obtain ⟨hA6, hU6, hF6⟩ := HFN.out
            rw [HPUT.out, ← HE.out] at hA6 hF6
            refine ⟨i + 1, by simp, by omega, .slice A5 (N + 1) c5, Lib.hid hA6, Lib.hid (HU.out.then_ hU6 (fun k hk => HF.out k hk)), Lib.hid (fun k hk => ?_)⟩
            rcases hF6 k hk with e | e
            · exact HF.out k e
            · exact .inr (Nat.le_trans HU.out.size e)
end
end LogS
end Go.Proofs.YtkpcnfchhnfpoaaDoor
