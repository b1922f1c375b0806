/- A log in memory: what lies where. -/
import Derived.Test.YtkpcnfchhnfpoaaDoorAbs
import Derived.Handy
import Derived.WalkSpells
import Derived.WalkLawsBesides
import Derived.Deep.RegionHeld3
import Derived.LoopTactic
import Derived.BigQuiet
import Derived.IntWalk
import Derived.StillTailTactics
set_option linter.unusedVariables false
namespace Go.Proofs.YtkpcnfchhnfpoaaDoor
open Go.RowKit Go.Proofs.YtkpcnfchhnfpoaaDoorW.PrintWords Go.Proofs.YtkpcnfchhnfpoaaDoor.Sep Log
namespace LogI
theorem Blk.eq_ {w : World} {g : Nat} {t : TypeId} {cs cs' : Array Value} (h : Blk w g t cs) (e : cs = cs') : Blk w g t cs' := e ▸ h
abbrev A := Int
abbrev zA : A := 0
structure Gr where
  dv : Value
  ds : List Delta
  ah : A
  be : A
def Gr.cells (g : Gr) : List Value := [g.dv, .int .i64 g.ah, .int .i64 g.be]
def g0 : Gr := ⟨.slice none 0 0, [], zA, zA⟩
def Gr.abs (g : Gr) : AG A := ⟨g.ds, g.ah, g.be⟩
theorem info_g : (Tryd.prog.info? 81).map (fun i => (i.zero, i.size, i.bytes)) = some (some (.agg #[.slice none 0 0, .int .i64 zA, .int .i64 zA]), 3, 40) := by kernel_rfl
structure LS where
  bound : Nat
  uv : Value
  rv : Value
  undo : List Gr
  redo : List Gr
  now : Gr
  op : Bool
  res : Bool
  fst : Nat
def LS.cells (s : LS) : Array Value := #[.int .i64 (s.bound : Int), s.uv, s.rv, s.now.dv, .int .i64 s.now.ah, .int .i64 s.now.be, .bool s.op, .bool s.res, .int .i64 (s.fst : Int)]
def LS.groups (s : LS) : List Gr := s.now :: (s.undo ++ s.redo)
def LS.abs (s : LS) : AS A := ⟨s.bound, s.undo.map Gr.abs, s.redo.map Gr.abs, if s.op = true then some (s.now.abs, s.res, s.fst) else none⟩
def blocks (l : List Gr) : List Nat := l.filterMap fun g => g.dv.ownBlock
structure At (w : World) (p : Nat) (s : LS) : Prop where
  blk : Blk w p 83 s.cells
  u : OwnS w 81 3 s.uv s.undo.length (s.undo.flatMap Gr.cells)
  r : OwnS w 81 3 s.rv s.redo.length (s.redo.flatMap Gr.cells)
  ur : ∀ k, s.uv.ownBlock = some k → s.rv.ownBlock ≠ some k
  d : ∀ g ∈ s.groups, OwnD w g.dv g.ds
  ap : (blocks s.groups).Nodup
def top (p : Nat) (s : LS) : Nat → Prop := fun k => k = p ∨ s.uv.ownBlock = some k ∨ s.rv.ownBlock = some k
def foot (p : Nat) (s : LS) : Nat → Prop := fun k => k = p ∨ s.uv.ownBlock = some k ∨ s.rv.ownBlock = some k ∨ ∃ g ∈ s.groups, g.dv.ownBlock = some k
def Fr (w : World) (p : Nat) (s s' : LS) : Prop := ∀ k, foot p s' k → foot p s k ∨ w.heap.size ≤ k
theorem flat_glen (l : List Gr) : (l.flatMap Gr.cells).length = l.length * 3 := by
  induction l with
  | nil => rfl
  | cons g l ih => rw [List.flatMap_cons, List.length_append, ih, List.length_cons, Nat.succ_mul]; simp [Gr.cells]; omega
theorem flat_last (l : List Gr) (g : Gr) (j : Nat) (u : Value) (hj : g.cells[j]? = some u) : ((l ++ [g]).flatMap Gr.cells)[l.length * 3 + j]? = some u := by
  rw [List.flatMap_append, List.getElem?_append_right (by rw [flat_glen]; omega), flat_glen]
  simp [hj]
theorem foot_p (p : Nat) (s : LS) : foot p s p := Or.inl rfl
section
variable {w w' : World} {p : Nat} {s s' : LS} {S : Nat → Prop}
theorem At.cells (h : At w p s) : w.cell? ⟨p, 0, none⟩ = some (.int .i64 (s.bound : Int)) ∧ w.cell? ⟨p, 1, none⟩ = some s.uv ∧ w.cell? ⟨p, 2, none⟩ = some s.rv ∧ w.cell? ⟨p, 3, none⟩ = some s.now.dv ∧
w.cell? ⟨p, 4, none⟩ = some (.int .i64 s.now.ah) ∧ w.cell? ⟨p, 5, none⟩ = some (.int .i64 s.now.be) ∧ w.cell? ⟨p, 6, none⟩ = some (.bool s.op) ∧ w.cell? ⟨p, 7, none⟩ = some (.bool s.res) ∧ w.cell? ⟨p, 8, none⟩ = some (.int .i64 (s.fst : Int)) ∧ ∀ j, w.frozen? ⟨p, j, none⟩ = false :=
  ⟨(h.blk.cell 0).trans rfl, (h.blk.cell 1).trans rfl, (h.blk.cell 2).trans rfl, (h.blk.cell 3).trans rfl, (h.blk.cell 4).trans rfl, (h.blk.cell 5).trans rfl, (h.blk.cell 6).trans rfl, (h.blk.cell 7).trans rfl, (h.blk.cell 8).trans rfl, h.blk.frozen⟩
theorem At.topFoot : ∀ k, top p s k → foot p s k := fun k h => by
  rcases h with h | h | h
  · exact .inl h
  · exact .inr (.inl h)
  · exact .inr (.inr (.inl h))
theorem At.lt (h : At w p s) : ∀ k, foot p s k → k < w.heap.size := by
  rintro k (rfl | hk | hk | ⟨g, hg, hk⟩)
  · exact h.blk.lt
  · exact h.u.lt k hk
  · exact h.r.lt k hk
  · exact OwnS.lt (h.d g hg) k hk
theorem At.upd (h : At w p s) (u : Upd S w w') (hn : ∀ k, foot p s k → ¬ S k) : At w' p s :=
  ⟨h.blk.upd u (hn p (.inl rfl)), h.u.upd u (fun k hk => hn k (.inr (.inl hk))), h.r.upd u (fun k hk => hn k (.inr (.inr (.inl hk)))), h.ur, fun g hg => OwnS.upd (h.d g hg) u (fun k hk => hn k (.inr (.inr (.inr ⟨g, hg, hk⟩)))), h.ap⟩
theorem At.below (h : At w p s) (hb : Below w.heap.size w w') : At w' p s := h.upd (Upd.below hb No) (fun _ _ h => h)
theorem At.notTop (h : At w p s) {g : Gr} (hg : g ∈ s.groups) {k : Nat} (hk : g.dv.ownBlock = some k) : ¬ top p s k := by
  rintro (rfl | hu | hu)
  · exact OwnS.ne_blk (h.d g hg) h.blk (by decide) hk
  · exact OwnS.ne_own (h.d g hg) h.u (by decide) hk hu
  · exact OwnS.ne_own (h.d g hg) h.r (by decide) hk hu
theorem At.dKeep (h : At w p s) (u : Upd S w w') (hS : ∀ k, S k → top p s k) : ∀ g ∈ s.groups, OwnD w' g.dv g.ds :=
  fun g hg => OwnS.upd (h.d g hg) u (fun k hk hs => h.notTop hg hk (hS k hs))
theorem At.up (h : At w p s) : s.uv.ownBlock ≠ some p := h.u.ne_blk h.blk (by decide)
theorem At.rp (h : At w p s) : s.rv.ownBlock ≠ some p := h.r.ne_blk h.blk (by decide)
/-- Only the log's own block was written. -/
theorem At.top_ (h : At w p s) (u : Upd (fun k => k = p) w w') (hb : Blk w' p 83 s'.cells) (hu : s'.uv = s.uv) (hr : s'.rv = s.rv) (hun : s'.undo = s.undo) (hre : s'.redo = s.redo)
    (hd : s'.now = s.now ∨ (s'.now.dv = .slice none 0 0 ∧ s'.now.ds = [])) : At w' p s' := by
  have hD := h.dKeep u (fun k hk => .inl hk)
  have hg : s'.groups = s'.now :: (s.undo ++ s.redo) := by unfold LS.groups; rw [hun, hre]
  refine ⟨hb, ?_, ?_, by rw [hu, hr]; exact h.ur, fun g hgm => ?_, ?_⟩
  · rw [hu, hun]
    exact h.u.upd u (fun k hk e => h.up (by rw [← e]; exact hk))
  · rw [hr, hre]
    exact h.r.upd u (fun k hk e => h.rp (by rw [← e]; exact hk))
  · rw [hg] at hgm
    rcases List.mem_cons.1 hgm with rfl | hgm
    · rcases hd with e | ⟨e1, e2⟩
      · rw [e]
        exact hD s.now (by simp [LS.groups])
      · unfold OwnD
        rw [e1, e2]
        exact OwnS.nil _ _ _
    · exact hD g (by unfold LS.groups; exact List.mem_cons_of_mem _ hgm)
  · rw [hg]
    have := h.ap
    unfold blocks LS.groups at *
    rcases hd with e | ⟨e1, e2⟩
    · rw [e]
      exact this
    · rw [List.filterMap_cons] at this ⊢
      rw [e1]
      simp only [Value.ownBlock]
      cases hx : s.now.dv.ownBlock with
      | none => rw [hx] at this; exact this
      | some b => rw [hx] at this; exact (List.nodup_cons.1 this).2
theorem Fr.top (hu : s'.uv = s.uv) (hr : s'.rv = s.rv) (hun : s'.undo = s.undo) (hre : s'.redo = s.redo) (hd : s'.now = s.now ∨ s'.now.dv = .slice none 0 0) : Fr w p s s' := by
  rintro k (hk | hk | hk | ⟨g, hg, hk⟩)
  · exact .inl (.inl hk)
  · exact .inl (.inr (.inl (by rw [← hu]; exact hk)))
  · exact .inl (.inr (.inr (.inl (by rw [← hr]; exact hk))))
  · unfold LS.groups at hg
    rw [hun, hre] at hg
    rcases List.mem_cons.1 hg with rfl | hg
    · rcases hd with e | e
      · exact .inl (.inr (.inr (.inr ⟨s.now, by simp [LS.groups], by rw [← e]; exact hk⟩)))
      · rw [e] at hk
        cases hk
    · exact .inl (.inr (.inr (.inr ⟨g, by unfold LS.groups; exact List.mem_cons_of_mem _ hg, hk⟩)))
end
end LogI
end Go.Proofs.YtkpcnfchhnfpoaaDoor
