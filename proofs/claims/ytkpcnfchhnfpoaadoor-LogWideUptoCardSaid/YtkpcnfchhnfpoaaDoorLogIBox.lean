/- A log that lies in new memory. -/
import Derived.Test.YtkpcnfchhnfpoaaDoorLogIApi
import Derived.Handy
import Derived.WalkSpells
import Derived.WalkLawsBesides
import Derived.Deep.RegionHeld3
import Derived.LoopTactic
import Derived.BigQuiet
import Derived.IntWalk
import Derived.StillTailTactics
set_option linter.unusedVariables false
namespace Go.Proofs.YtkpcnfchhnfpoaaDoor
open Go.RowKit Go.Proofs.YtkpcnfchhnfpoaaDoorW.PrintWords Go.Proofs.YtkpcnfchhnfpoaaDoor.Sep Log
namespace LogI
/-- A log in state a in memory newer than w0. -/
structure LB (w0 w : World) (p : Nat) (s : LS) (a : AS A) (N : Nat) : Prop where
  at_ : At w p s
  abs : s.abs = a
  new : ∀ k, foot p s k → w0.heap.size ≤ k
  below : Below w0.heap.size w0 w
  inv : AS.Inv N a
  small : N ≤ 100000000000
section
variable {w0 w w' : World} {p : Nat} {s s' : LS} {a a' : AS A} {N M : Nat} {S : Nat → Prop}
/-- What a call on the box leaves. -/
def Box (w0 w w' : World) (p : Nat) (s : LS) (a : AS A) (N : Nat) : Prop := ∃ s', LB w0 w' p s' a N ∧ Upd (foot p s) w w' ∧ Fr w p s s'
def BoxL (w0 w w' : World) (p : Nat) (s : LS) (a : AS A) (N : Nat) (v : Value) (ds : List Delta) : Prop := ∃ s', LB w0 w' p s' a N ∧ Upd (foot p s) w w' ∧ Fr w p s s' ∧ OwnD w' v ds ∧ ∀ k, v.ownBlock = some k → w.heap.size ≤ k ∧ ¬ foot p s' k
theorem LB.left (h : LB w0 w p s a N) (hl : Left w w' p s a') (hi : AS.Inv M a') (hm : M ≤ 100000000000) : Box w0 w w' p s a' M := by
  obtain ⟨s', h1, h2, h3, h4⟩ := hl
  exact ⟨s', ⟨h1, h2, fun k hk => (h4 k hk).elim (h.new k) (fun e => Nat.le_trans h.below.size e), h.below.trans (h3.toBelow h.below.size h.new), hi, hm⟩, h3, h4⟩
theorem LB.leftL (h : LB w0 w p s a N) {v : Value} {ds : List Delta} (hl : LeftL w w' p s a' v ds) (hi : AS.Inv M a') (hm : M ≤ 100000000000) : BoxL w0 w w' p s a' M v ds := by
  obtain ⟨s', h1, h2, h3, h4, h5, h6⟩ := hl
  exact ⟨s', ⟨h1, h2, fun k hk => (h4 k hk).elim (h.new k) (fun e => Nat.le_trans h.below.size e), h.below.trans (h3.toBelow h.below.size h.new), hi, hm⟩, h3, h4, h5, h6⟩
theorem LB.later (h : LB w0 w p s a N) (hb : Below w.heap.size w w') : LB w0 w' p s a N :=
  ⟨h.at_.below hb, h.abs, h.new, h.below.trans (hb.mono h.below.size), h.inv, h.small⟩
theorem LB.beside (h : LB w0 w p s a N) (hu : Upd S w w') (hd : ∀ k, S k → w0.heap.size ≤ k ∧ ¬ foot p s k) : LB w0 w' p s a N :=
  ⟨h.at_.upd hu (fun k hk hs => (hd k hs).2 hk), h.abs, h.new, h.below.trans (hu.toBelow h.below.size (fun k hk => (hd k hk).1)), h.inv, h.small⟩
theorem LB.drewN (h : LB w0 w p s a N) (n : Nat) : LB w0 (w.drewN n) p s a N := ⟨h.at_.below (Below.drewN' (Below.refl _ _) n), h.abs, h.new, Below.drewN' h.below n, h.inv, h.small⟩
theorem LB.drew (h : LB w0 w p s a N) : LB w0 w.drew p s a N := ⟨h.at_.below ⟨rfl, rfl, rfl, Nat.le_refl _, fun _ _ => rfl⟩, h.abs, h.new, ⟨h.below.os, h.below.tape, h.below.output, h.below.size, h.below.block⟩, h.inv, h.small⟩
theorem new_b (n : Int) (hb : Below w0.heap.size w0 w) (a : AS A) (ha : AS.new (min (max n 0) 1000).toNat = a) (N : Nat) (hN : N ≤ 100000000000) : Calls Tryd.prog 20 #[.int .i64 n] w fun e w' => ∃ p s, e = .returned (.pointer (some ⟨p, 0, none⟩)) ∧ LB w0 w' p s a N ∧ (∀ k, foot p s k → w.heap.size ≤ k) ∧ Below w.heap.size w w' := by
  subst ha
  refine (new_ w n).mono ?_
  rintro e w' ⟨p, s, rfl, h1, h2, h3, h4⟩
  exact ⟨p, s, rfl, ⟨h1, h2, fun k hk => Nat.le_trans hb.size (h3 k hk), hb.trans (h4.mono hb.size), AS.Inv.new _ (by omega) N, hN⟩, h3, h4⟩
theorem bound_b (h : LB w0 w p s a N) (n : Nat) (hn : a.bound = n) : Calls Tryd.prog 22 #[.pointer (some ⟨p, 0, none⟩)] w fun e w' => e = .returned (.int .i64 (n : Int)) ∧ w = w' := by
  subst hn
  have := bound_ h.at_
  rw [← h.abs]
  exact this
theorem undos_b (h : LB w0 w p s a N) (n : Nat) (hn : a.undo.length = n) : Calls Tryd.prog 23 #[.pointer (some ⟨p, 0, none⟩)] w fun e w' => e = .returned (.int .i64 (n : Int)) ∧ w = w' := by
  subst hn
  have := undos h.at_
  rw [← h.abs, show s.abs.undo.length = s.undo.length from List.length_map ..]
  exact this
theorem redos_b (h : LB w0 w p s a N) (n : Nat) (hn : a.redo.length = n) : Calls Tryd.prog 24 #[.pointer (some ⟨p, 0, none⟩)] w fun e w' => e = .returned (.int .i64 (n : Int)) ∧ w = w' := by
  subst hn
  have := redos h.at_
  rw [← h.abs, show s.abs.redo.length = s.redo.length from List.length_map ..]
  exact this
theorem open_b (h : LB w0 w p s a N) (b : Bool) (hn : a.isOpen = b) : Calls Tryd.prog 55 #[.pointer (some ⟨p, 0, none⟩)] w fun e w' => e = .returned (.bool b) ∧ w = w' := by
  subst hn
  have := open_ h.at_
  rw [← h.abs, abs_open]
  exact this
theorem begin_b (h : LB w0 w p s a N) (x : A) (b : Bool) (hb : (!a.isOpen) = b) (a' : AS A) (ha : a.begin_ zA x = a') : Calls Tryd.prog 33 #[.pointer (some ⟨p, 0, none⟩), .int .i64 x] w fun e w' => e = .returned (.bool b) ∧ Box w0 w w' p s a' N := by
  refine (begin_a h.at_ x b (by rw [h.abs]; exact hb) a' (by rw [h.abs]; exact ha)).mono ?_
  rintro e w' ⟨rfl, hl⟩
  exact ⟨rfl, h.left hl (by rw [← ha]; exact h.inv.begin_ _ _) h.small⟩
theorem resume_b (h : LB w0 w p s a N) (b : Bool) (hb : a.resumeG.isSome = b) (a' : AS A) (ha : a.resume = a') : Calls Tryd.prog 37 #[.pointer (some ⟨p, 0, none⟩)] w fun e w' => e = .returned (.bool b) ∧ Box w0 w w' p s a' N := by
  refine (resume_a h.at_ (N := N) (by rw [h.abs]; exact h.inv) h.small b (by rw [h.abs]; exact hb) a' (by rw [h.abs]; exact ha)).mono ?_
  rintro e w' ⟨rfl, hl⟩
  exact ⟨rfl, h.left hl (by rw [← ha]; exact h.inv.resume) h.small⟩
theorem add_b (h : LB w0 w p s a N) (A : Option Addr) (n c : Nat) (ds : List Delta) (hr : ReadsD w w.heap.size A n ds) (hN : N + n ≤ 100000000000) (hap : 0 < n → ∀ a, A = some a → ¬ foot p s a.block) (b : Bool) (hb : a.isOpen = b) (a' : AS LogI.A) (ha : a.add ds = a') :
    Calls Tryd.prog 40 #[.pointer (some ⟨p, 0, none⟩), .slice A n c] w fun e w' => e = .returned (.bool b) ∧ Box w0 w w' p s a' (N + n) := by
  refine (add_a h.at_ (N := N) (by rw [h.abs]; exact h.inv) A n c ds hr hN hap b (by rw [h.abs]; exact hb) a' (by rw [h.abs]; exact ha)).mono ?_
  rintro e w' ⟨rfl, hl⟩
  exact ⟨rfl, h.left hl (by rw [← ha, ← hr.1]; exact h.inv.add _) hN⟩
theorem commit_b (h : LB w0 w p s a N) (x : A) (b : Bool) (hb : a.commitB = b) (a' : AS A) (ha : a.commit x = a') : Calls Tryd.prog 43 #[.pointer (some ⟨p, 0, none⟩), .int .i64 x] w fun e w' => e = .returned (.bool b) ∧ Box w0 w w' p s a' N := by
  refine (commit_a h.at_ (N := N) (by rw [h.abs]; exact h.inv) h.small x b (by rw [h.abs]; exact hb) a' (by rw [h.abs]; exact ha)).mono ?_
  rintro e w' ⟨rfl, hl⟩
  exact ⟨rfl, h.left hl (by rw [← ha]; exact h.inv.commit _) h.small⟩
theorem cancel_b (h : LB w0 w p s a N) (b : Bool) (hb : a.isOpen = b) (ds : List Delta) (hd : a.cancelL = ds) (a' : AS A) (ha : a.cancel = a') : Calls Tryd.prog 46 #[.pointer (some ⟨p, 0, none⟩)] w fun e w' => ∃ v, e = .returned (.tuple #[v, .bool b]) ∧ BoxL w0 w w' p s a' N v ds := by
  refine (cancel_a h.at_ (N := N) (by rw [h.abs]; exact h.inv) h.small b (by rw [h.abs]; exact hb) ds (by rw [h.abs]; exact hd) a' (by rw [h.abs]; exact ha)).mono ?_
  rintro e w' ⟨v, rfl, hl⟩
  exact ⟨v, rfl, h.leftL hl (by rw [← ha]; exact h.inv.cancel) h.small⟩
theorem undo_b (h : LB w0 w p s a N) (ds : List Delta) (hd : a.undoL = ds) (x : A) (hx : a.undoA zA = x) (c : Int) (hc : a.undoE = c) (a' : AS A) (ha : a.undo_ = a') : Calls Tryd.prog 25 #[.pointer (some ⟨p, 0, none⟩)] w fun e w' => ∃ v, e = .returned (.tuple #[v, .int .i64 x, .int .i64 c]) ∧ BoxL w0 w w' p s a' N v ds := by
  refine (undo_a h.at_ (N := N) (by rw [h.abs]; exact h.inv) h.small ds (by rw [h.abs]; exact hd) x (by rw [h.abs]; exact hx) c (by rw [h.abs]; exact hc) a' (by rw [h.abs]; exact ha)).mono ?_
  rintro e w' ⟨v, rfl, hl⟩
  exact ⟨v, rfl, h.leftL hl (by rw [← ha]; exact h.inv.undo_) h.small⟩
theorem redo_b (h : LB w0 w p s a N) (ds : List Delta) (hd : a.redoL = ds) (x : A) (hx : a.redoA zA = x) (c : Int) (hc : a.redoE = c) (a' : AS A) (ha : a.redo_ = a') : Calls Tryd.prog 26 #[.pointer (some ⟨p, 0, none⟩)] w fun e w' => ∃ v, e = .returned (.tuple #[v, .int .i64 x, .int .i64 c]) ∧ BoxL w0 w w' p s a' N v ds := by
  refine (redo_a h.at_ (N := N) (by rw [h.abs]; exact h.inv) h.small ds (by rw [h.abs]; exact hd) x (by rw [h.abs]; exact hx) c (by rw [h.abs]; exact hc) a' (by rw [h.abs]; exact ha)).mono ?_
  rintro e w' ⟨v, rfl, hl⟩
  exact ⟨v, rfl, h.leftL hl (by rw [← ha]; exact h.inv.redo_) h.small⟩
theorem clear_b (h : LB w0 w p s a N) (a' : AS A) (ha : a.clear = a') : Calls Tryd.prog 50 #[.pointer (some ⟨p, 0, none⟩)] w fun e w' => e = .returned (.tuple #[]) ∧ Box w0 w w' p s a' N := by
  subst ha
  refine (clear_a h.at_).mono ?_
  rintro e w' ⟨rfl, hl⟩
  rw [h.abs] at hl
  exact ⟨rfl, h.left hl h.inv.clear h.small⟩
end
end LogI
end Go.Proofs.YtkpcnfchhnfpoaaDoor
