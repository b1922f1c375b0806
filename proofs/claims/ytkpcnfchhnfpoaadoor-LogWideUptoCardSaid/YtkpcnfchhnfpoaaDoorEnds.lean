/- A nil log's methods; two logs of numbers side by side. -/
import Derived.Test.YtkpcnfchhnfpoaaDoorFixed
import Derived.Test.YtkpcnfchhnfpoaaDoorOps
set_option linter.unusedVariables false
namespace Go.Proofs.YtkpcnfchhnfpoaaDoor
open Go.RowKit Go.Proofs.YtkpcnfchhnfpoaaDoorW.PrintWords Go.Proofs.YtkpcnfchhnfpoaaDoor.Sep Log LogI
namespace LogI
section
variable {w0 w w' : World} {p q : Nat} {s t : LS} {a b a' : AS A} {N M N' : Nat}
theorem nil_begin (w : World) (x : Int) : Calls Tryd.prog 33 #[.pointer none, .int .i64 x] w fun e w' => e = .returned (.bool false) ∧ w = w' := by
  go_enter Tryd.func33, Tryd.ntmps33
  go_wp2
  go_ret
  exact ⟨rfl, rfl⟩
theorem nil_resume (w : World) : Calls Tryd.prog 37 #[.pointer none] w fun e w' => e = .returned (.bool false) ∧ w = w' := by
  go_enter Tryd.func37, Tryd.ntmps37
  go_wp2
  go_ret
  exact ⟨rfl, rfl⟩
theorem nil_add (w : World) (v : Value) : Calls Tryd.prog 40 #[.pointer none, v] w fun e w' => e = .returned (.bool false) ∧ w = w' := by
  go_enter Tryd.func40, Tryd.ntmps40
  go_wp2
  go_ret
  exact ⟨rfl, rfl⟩
theorem nil_commit (w : World) (x : Int) : Calls Tryd.prog 43 #[.pointer none, .int .i64 x] w fun e w' => e = .returned (.bool false) ∧ w = w' := by
  go_enter Tryd.func43, Tryd.ntmps43
  go_wp2
  go_ret
  exact ⟨rfl, rfl⟩
theorem nil_cancel (w : World) : Calls Tryd.prog 46 #[.pointer none] w fun e w' => e = .returned (.tuple #[.slice none 0 0, .bool false]) ∧ w = w' := by
  go_enter Tryd.func46, Tryd.ntmps46
  go_wp2
  go_ret2
  exact ⟨rfl, rfl⟩
theorem nil_undo (w : World) : Calls Tryd.prog 25 #[.pointer none] w fun e w' => e = .returned (.tuple #[.slice none 0 0, .int .i64 0, .int .i64 3]) ∧ w = w' := by
  go_enter Tryd.func25, Tryd.ntmps25
  go_wp2
  go_ret3
  exact ⟨rfl, rfl⟩
theorem nil_redo (w : World) : Calls Tryd.prog 26 #[.pointer none] w fun e w' => e = .returned (.tuple #[.slice none 0 0, .int .i64 0, .int .i64 4]) ∧ w = w' := by
  go_enter Tryd.func26, Tryd.ntmps26
  go_wp2
  go_ret3
  exact ⟨rfl, rfl⟩
theorem nil_clear (w : World) : Calls Tryd.prog 50 #[.pointer none] w fun e w' => e = .returned (.tuple #[]) ∧ w = w' := by
  go_enter Tryd.func50, Tryd.ntmps50
  go_wp2
  go_returns
  exact ⟨rfl, rfl⟩
theorem nil_open (w : World) : Calls Tryd.prog 55 #[.pointer none] w fun e w' => e = .returned (.bool false) ∧ w = w' := by
  go_enter Tryd.func55, Tryd.ntmps55
  go_wp2
  go_ret
  exact ⟨rfl, rfl⟩
theorem nil_undos (w : World) : Calls Tryd.prog 23 #[.pointer none] w fun e w' => e = .returned (.int .i64 0) ∧ w = w' := by
  go_enter Tryd.func23, Tryd.ntmps23
  go_wp2
  go_ret
  exact ⟨rfl, rfl⟩
theorem nil_redos (w : World) : Calls Tryd.prog 24 #[.pointer none] w fun e w' => e = .returned (.int .i64 0) ∧ w = w' := by
  go_enter Tryd.func24, Tryd.ntmps24
  go_wp2
  go_ret
  exact ⟨rfl, rfl⟩
theorem nil_bound (w : World) : Calls Tryd.prog 22 #[.pointer none] w fun e w' => e = .returned (.int .i64 0) ∧ w = w' := by
  go_enter Tryd.func22, Tryd.ntmps22
  go_wp2
  go_ret
  exact ⟨rfl, rfl⟩
/-- Two logs in new memory, apart. -/
structure Two (w0 w : World) (p : Nat) (s : LS) (a : AS A) (N : Nat) (q : Nat) (t : LS) (b : AS A) (M : Nat) : Prop where
  l : LB w0 w p s a N
  r : LB w0 w q t b M
  apart : ∀ k, foot p s k → ¬ foot q t k
theorem Two.stepL (h : Two w0 w p s a N q t b M) (hb : Box w0 w w' p s a' N') : ∃ s', Two w0 w' p s' a' N' q t b M ∧ Upd (fun k => foot p s k ∨ foot q t k) w w' ∧ Fr w p s s' := by
  obtain ⟨s', h1, h2, h3⟩ := hb
  refine ⟨s', ⟨h1, h.r.beside h2 (fun k hk => ⟨h.l.new k hk, h.apart k hk⟩), fun k hk hx => ?_⟩, h2.mono (fun k hk => .inl hk), h3⟩
  rcases h3 k hk with e | e
  · exact h.apart k e hx
  · have := h.r.at_.lt k hx
    omega
theorem Two.stepR (h : Two w0 w p s a N q t b M) (hb : Box w0 w w' q t a' N') : ∃ t', Two w0 w' p s a N q t' a' N' ∧ Upd (fun k => foot p s k ∨ foot q t k) w w' ∧ Fr w q t t' := by
  obtain ⟨t', h1, h2, h3⟩ := hb
  refine ⟨t', ⟨h.l.beside h2 (fun k hk => ⟨h.r.new k hk, fun hx => h.apart k hx hk⟩), h1, fun k hk hx => ?_⟩, h2.mono (fun k hk => .inr hk), h3⟩
  rcases h3 k hx with e | e
  · exact h.apart k hk e
  · have := h.l.at_.lt k hk
    omega
theorem Two.stepLs (h : Two w0 w p s a N q t b M) {s' : LS} (h1 : LB w0 w' p s' a' N') (h2 : Upd (foot p s) w w') (h3 : Fr w p s s') : Two w0 w' p s' a' N' q t b M := by
  refine ⟨h1, h.r.beside h2 (fun k hk => ⟨h.l.new k hk, h.apart k hk⟩), fun k hk hx => ?_⟩
  rcases h3 k hk with e | e
  · exact h.apart k e hx
  · have := h.r.at_.lt k hx
    omega
theorem Two.stepRs (h : Two w0 w p s a N q t b M) {t' : LS} (h1 : LB w0 w' q t' a' N') (h2 : Upd (foot q t) w w') (h3 : Fr w q t t') : Two w0 w' p s a N q t' a' N' := by
  refine ⟨h.l.beside h2 (fun k hk => ⟨h.r.new k hk, fun hx => h.apart k hx hk⟩), h1, fun k hk hx => ?_⟩
  rcases h3 k hx with e | e
  · exact h.apart k hk e
  · have := h.l.at_.lt k hk
    omega
theorem cancelL_len (h : AS.Inv N a) : a.cancelL.length ≤ N := by
  unfold AS.cancelL
  cases hc : a.cur with
  | none => exact Nat.zero_le _
  | some y =>
    obtain ⟨g, r, f⟩ := y
    have := (h.c g r f hc).1
    dsimp only
    unfold back
    rw [List.length_map, List.length_reverse, List.length_drop]
    omega
theorem Two.later (h : Two w0 w p s a N q t b M) (hb : Below w.heap.size w w') : Two w0 w' p s a N q t b M := ⟨h.l.later hb, h.r.later hb, h.apart⟩
theorem Two.drew (h : Two w0 w p s a N q t b M) : Two w0 w.drew p s a N q t b M := ⟨h.l.drew, h.r.drew, h.apart⟩
theorem BoxL.box {v : Value} {ds : List Delta} (h : BoxL w0 w w' p s a N v ds) : Box w0 w w' p s a N := by
  obtain ⟨s', h1, h2, h3, -⟩ := h
  exact ⟨s', h1, h2, h3⟩
end
/-- A log of the bound 0 keeps nothing. -/
structure Zr (a : AS A) : Prop where
  b : a.bound = 0
  u : a.undo = []
  r : a.redo = []
  c : ∀ g r f, a.cur = some (g, r, f) → r = false
theorem Zr.new : Zr (AS.new 0) := ⟨rfl, rfl, rfl, fun g r f h => by cases h⟩
theorem Zr.begin_ {a : AS A} (h : Zr a) (x : A) : Zr (a.begin_ zA x) := by
  unfold AS.begin_
  cases hc : a.cur with
  | none => exact ⟨h.b, h.u, h.r, fun g r f e => by injection e with e; injection e with e1 e2; injection e2 with e2 e3; exact e2.symm⟩
  | some y => exact h
theorem Zr.resG {a : AS A} (h : Zr a) : a.resumeG = none := by
  unfold AS.resumeG
  rw [h.u]
  cases a.cur with
  | none => dsimp only; split <;> rfl
  | some y => rfl
theorem Zr.resume {a : AS A} (h : Zr a) : Zr a.resume := by
  unfold AS.resume
  rw [h.resG]
  exact h
theorem Zr.add {a : AS A} (h : Zr a) (ds : List Delta) : Zr (a.add ds) := by
  unfold AS.add
  cases hc : a.cur with
  | none => exact h
  | some y =>
    obtain ⟨g, r, f⟩ := y
    refine ⟨h.b, h.u, h.r, fun g' r' f' e => ?_⟩
    injection e with e
    injection e with e1 e2
    injection e2 with e2 e3
    rw [← e2]
    exact h.c g r f hc
theorem Zr.commit {a : AS A} (h : Zr a) (x : A) : Zr (a.commit x) := by
  unfold AS.commit
  cases hc : a.cur with
  | none => exact h
  | some y =>
    obtain ⟨g, r, f⟩ := y
    dsimp only
    split
    · exact ⟨h.b, h.u, h.r, fun _ _ _ e => by cases e⟩
    · refine ⟨h.b, ?_, rfl, fun _ _ _ e => by cases e⟩
      dsimp only
      rw [h.b, h.u]
      rfl
theorem Zr.cancel {a : AS A} (h : Zr a) : Zr a.cancel := by
  unfold AS.cancel
  cases hc : a.cur with
  | none => exact h
  | some y =>
    obtain ⟨g, r, f⟩ := y
    have hr := h.c g r f hc
    subst hr
    exact ⟨h.b, h.u, h.r, fun _ _ _ e => by cases e⟩
end LogI
end Go.Proofs.YtkpcnfchhnfpoaaDoor
