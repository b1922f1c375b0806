/- A log and the document's, side by side. -/
import Derived.Test.YtkpcnfchhnfpoaaDoorEnds
import Derived.Test.YtkpcnfchhnfpoaaDoorRefM2
import Derived.Deep.DeepFit
import Derived.BigQuiet
set_option linter.unusedVariables false
namespace Go.Proofs.YtkpcnfchhnfpoaaDoor
open Go.RowKit Go.Proofs.YtkpcnfchhnfpoaaDoorW.PrintWords Go.Proofs.YtkpcnfchhnfpoaaDoor.Sep Log
namespace Log
abbrev F2 (p : Nat) (s : LogI.LS) (q : Nat) (t : RefL.RS) : Nat → Prop := fun k => LogI.foot p s k ∨ RefL.foot q t k
structure Pr (w0 w : World) (p : Nat) (s : LogI.LS) (q : Nat) (t : RefL.RS) (a b : AS Int) (N M : Nat) : Prop where
  l : LogI.LB w0 w p s a N
  r : RefL.LB w0 w q t b M
  apart : ∀ k, LogI.foot p s k → ¬ RefL.foot q t k
section
variable {w0 w w' : World} {p q : Nat} {s : LogI.LS} {t : RefL.RS} {a b a' : AS Int} {N M N' : Nat}
theorem Pr.stepL (h : Pr w0 w p s q t a b N M) (hb : LogI.Box w0 w w' p s a' N') : ∃ s', Pr w0 w' p s' q t a' b N' M ∧ Upd (F2 p s q t) w w' ∧ (∀ k, F2 p s' q t k → F2 p s q t k ∨ w.heap.size ≤ k) := by
  obtain ⟨s', h1, h2, h3⟩ := hb
  refine ⟨s', ⟨h1, h.r.beside h2 (fun k hk => ⟨h.l.new k hk, h.apart k hk⟩), fun k hk hx => ?_⟩, h2.mono (fun k hk => .inl hk), fun k hk => hk.elim (fun e => (h3 k e).imp .inl id) (fun e => .inl (.inr e))⟩
  rcases h3 k hk with e | e
  · exact h.apart k e hx
  · have := h.r.at_.lt k hx
    omega
theorem Pr.stepR (h : Pr w0 w p s q t a b N M) (hb : RefL.Box w0 w w' q t a' N') : ∃ t', Pr w0 w' p s q t' a a' N N' ∧ Upd (F2 p s q t) w w' ∧ (∀ k, F2 p s q t' k → F2 p s q t k ∨ w.heap.size ≤ k) := by
  obtain ⟨t', h1, h2, h3⟩ := hb
  refine ⟨t', ⟨h.l.beside h2 (fun k hk => ⟨h.r.new k hk, fun hx => h.apart k hx hk⟩), h1, fun k hk hx => ?_⟩, h2.mono (fun k hk => .inr hk), fun k hk => hk.elim (fun e => .inl (.inl e)) (fun e => (h3 k e).imp .inr id)⟩
  rcases h3 k hx with e | e
  · exact h.apart k hk e
  · have := h.l.at_.lt k hk
    omega
theorem Pr.later (h : Pr w0 w p s q t a b N M) (hb : Below w.heap.size w w') : Pr w0 w' p s q t a b N M := ⟨h.l.later hb, h.r.later hb, h.apart⟩
theorem Pr.drew (h : Pr w0 w p s q t a b N M) : Pr w0 w.drew p s q t a b N M := ⟨h.l.drew, h.r.drew, h.apart⟩
theorem Pr.drewN (h : Pr w0 w p s q t a b N M) (n : Nat) : Pr w0 (w.drewN n) p s q t a b N M := ⟨h.l.drewN n, h.r.drewN n, h.apart⟩
theorem Pr.beside {S : Nat → Prop} (h : Pr w0 w p s q t a b N M) (hu : Upd S w w') (hd : ∀ k, S k → w0.heap.size ≤ k ∧ ¬ F2 p s q t k) : Pr w0 w' p s q t a b N M :=
  ⟨h.l.beside hu (fun k hk => ⟨(hd k hk).1, fun e => (hd k hk).2 (.inl e)⟩), h.r.beside hu (fun k hk => ⟨(hd k hk).1, fun e => (hd k hk).2 (.inr e)⟩), h.apart⟩
theorem Pr.lt (h : Pr w0 w p s q t a b N M) : ∀ k, F2 p s q t k → k < w.heap.size := fun k hk => hk.elim (h.l.at_.lt k) (h.r.at_.lt k)
theorem Pr.new (h : Pr w0 w p s q t a b N M) : ∀ k, F2 p s q t k → w0.heap.size ≤ k := fun k hk => hk.elim (h.l.new k) (h.r.new k)
set_option maxHeartbeats 12800000
set_option maxRecDepth 100000
theorem looks_w (h : Pr w0 w p s q t a a N M) : Calls Tryd.prog 29 #[.pointer (some ⟨p, 0, none⟩), .pointer (some ⟨q, 0, none⟩)] w fun e w' => e = .returned (.bool true) ∧ ∃ n, w' = w.drewN n := by
  obtain ⟨c0, c1, c2, c3, c4, c5, c6, c7, c8, cf⟩ := h.r.at_.cells
  obtain ⟨A1, k1, hu, _⟩ := h.r.at_.u.form
  obtain ⟨A2, k2, hr, _⟩ := h.r.at_.r.form
  obtain ⟨nb, hnb⟩ : ∃ nb, a.bound = nb := ⟨_, rfl⟩
  obtain ⟨nu, hnu⟩ : ∃ nu, a.undo.length = nu := ⟨_, rfl⟩
  obtain ⟨nr, hnr⟩ : ∃ nr, a.redo.length = nr := ⟨_, rfl⟩
  obtain ⟨op, hop⟩ : ∃ op, a.isOpen = op := ⟨_, rfl⟩
  have e0 : t.bound = nb := by rw [← hnb, ← h.r.abs]; rfl
  have e1 : t.undo.length = nu := by rw [← hnu, ← h.r.abs]; simp [RefL.RS.abs]
  have e2 : t.redo.length = nr := by rw [← hnr, ← h.r.abs]; simp [RefL.RS.abs]
  have e3 : t.op = op := by rw [← hop, ← h.r.abs, RefL.abs_open]
  rw [e0] at c0
  rw [hu, e1] at c1
  rw [hr, e2] at c2
  rw [e3] at c3
  have HNB := Lib.hid hnb
  have HNU := Lib.hid hnu
  have HNR := Lib.hid hnr
  have HNO := Lib.hid hop
  have HP := Lib.hid h
  have o1 : (op == op) = true := by simp
  have hqw := h.r.at_.blk.lt
  clear h hu hr hnb hnu hnr hop e0 e1 e2 e3
  go_enter Tryd.func29, Tryd.ntmps29
  go_wp2
  go_quiet (first
    | (go_at_call 22; exact Calls.quiet_of_same ((LogI.bound_b (HP.out.l.drewN _) nb HNB.out).mono (fun e w1 h1 => ⟨h1.1, h1.2.symm⟩)))
    | (go_at_call 23; exact Calls.quiet_of_same ((LogI.undos_b (HP.out.l.drewN _) nu HNU.out).mono (fun e w1 h1 => ⟨h1.1, h1.2.symm⟩)))
    | (go_at_call 24; exact Calls.quiet_of_same ((LogI.redos_b (HP.out.l.drewN _) nr HNR.out).mono (fun e w1 h1 => ⟨h1.1, h1.2.symm⟩)))
    | (go_at_call 55; exact Calls.quiet_of_same ((LogI.open_b (HP.out.l.drewN _) op HNO.out).mono (fun e w1 h1 => ⟨h1.1, h1.2.symm⟩))))
  go_wp2
  go_ret
  exact ⟨rfl, _, rfl⟩
end
end Log
end Go.Proofs.YtkpcnfchhnfpoaaDoor
/- A step of the pair: what is carried. -/
set_option linter.unusedVariables false
namespace Go.Proofs.YtkpcnfchhnfpoaaDoor
open Go.RowKit Go.Proofs.YtkpcnfchhnfpoaaDoorW.PrintWords Go.Proofs.YtkpcnfchhnfpoaaDoor.Sep Log
namespace Log
structure Run (w0 w9 w : World) (p q : Nat) (s : LogI.LS) (t : RefL.RS) (s1 : LogI.LS) (t1 : RefL.RS) (a b : AS Int) (N M : Nat) : Prop where
  pr : Pr w0 w p s1 q t1 a b N M
  u : Upd (F2 p s q t) w9 w
  f : ∀ k, F2 p s1 q t1 k → F2 p s q t k ∨ w9.heap.size ≤ k
def Stepped (w0 w w' : World) (p q : Nat) (s : LogI.LS) (t : RefL.RS) (a : AS Int) (N : Nat) : Prop := ∃ s1 t1, Run w0 w w' p q s t s1 t1 a a N N
section
variable {w0 w9 w w' : World} {p q : Nat} {s s1 : LogI.LS} {t t1 : RefL.RS} {a b a' : AS Int} {N M N' : Nat}
theorem Run.start (h : Pr w0 w p s q t a b N M) : Run w0 w w p q s t s t a b N M := ⟨h, Upd.refl _ _, fun k hk => .inl hk⟩
theorem Run.later (h : Run w0 w9 w p q s t s1 t1 a b N M) (hb : Below w.heap.size w w') : Run w0 w9 w' p q s t s1 t1 a b N M :=
  ⟨h.pr.later hb, h.u.then_ (Upd.below hb No) (fun k hk => hk.elim), h.f⟩
theorem Run.drew (h : Run w0 w9 w p q s t s1 t1 a b N M) : Run w0 w9 w.drew p q s t s1 t1 a b N M := ⟨h.pr.drew, h.u.drew, h.f⟩
theorem Run.drewN (h : Run w0 w9 w p q s t s1 t1 a b N M) (n : Nat) : Run w0 w9 (w.drewN n) p q s t s1 t1 a b N M := ⟨h.pr.drewN n, h.u.drewN n, h.f⟩
theorem Run.then_ {u2 : Prop} (h : Run w0 w9 w p q s t s1 t1 a b N M) {s2 : LogI.LS} {t2 : RefL.RS} {a2 b2 : AS Int} {N2 M2 : Nat} (g : Pr w0 w' p s2 q t2 a2 b2 N2 M2) (hu : Upd (F2 p s1 q t1) w w') (hf : ∀ k, F2 p s2 q t2 k → F2 p s1 q t1 k ∨ w.heap.size ≤ k) : Run w0 w9 w' p q s t s2 t2 a2 b2 N2 M2 :=
  ⟨g, h.u.then_ hu (fun k hk => h.f k hk), fun k hk => (hf k hk).elim (h.f k) (fun e => .inr (Nat.le_trans h.u.size e))⟩
theorem Run.stepL (h : Run w0 w9 w p q s t s1 t1 a b N M) (hb : LogI.Box w0 w w' p s1 a' N') : ∃ s2, Run w0 w9 w' p q s t s2 t1 a' b N' M ∧ Upd (fun k => F2 p s q t k ∨ w9.heap.size ≤ k) w w' := by
  obtain ⟨s2, h1, h2, h3⟩ := h.pr.stepL hb
  exact ⟨s2, Run.then_ (u2 := True) h h1 h2 h3, h2.mono (fun k hk => h.f k hk)⟩
theorem Run.stepR (h : Run w0 w9 w p q s t s1 t1 a b N M) (hb : RefL.Box w0 w w' q t1 a' N') : ∃ t2, Run w0 w9 w' p q s t s1 t2 a a' N N' ∧ Upd (fun k => F2 p s q t k ∨ w9.heap.size ≤ k) w w' := by
  obtain ⟨t2, h1, h2, h3⟩ := h.pr.stepR hb
  exact ⟨t2, Run.then_ (u2 := True) h h1 h2 h3, h2.mono (fun k hk => h.f k hk)⟩
theorem Run.stepLs (h : Run w0 w9 w p q s t s1 t1 a b N M) {v : Value} {ds : List Delta} (hb : LogI.BoxL w0 w w' p s1 a' N' v ds) : ∃ s2, Run w0 w9 w' p q s t s2 t1 a' b N' M ∧ OwnD w' v ds ∧ ∀ k, v.ownBlock = some k → ¬ RefL.foot q t1 k := by
  obtain ⟨s2, ht, _⟩ := h.stepL hb.box
  obtain ⟨s3, _, _, _, h4, h5⟩ := hb
  exact ⟨s2, ht, h4, fun k hk hx => by have h6 := (h5 k hk).1; have h7 := h.pr.r.at_.lt k hx; omega⟩
theorem Run.stepRs (h : Run w0 w9 w p q s t s1 t1 a b N M) {v : Value} {ds : List Delta} (hb : RefL.BoxL w0 w w' q t1 a' N' v ds) : ∃ t2, Run w0 w9 w' p q s t s1 t2 a a' N N' ∧ OwnD w' v ds ∧ Upd (RefL.foot q t1) w w' := by
  obtain ⟨t3, h1, h2, h3, h4, h5⟩ := hb
  obtain ⟨t2, ht, _⟩ := h.stepR ⟨t3, h1, h2, h3⟩
  exact ⟨t2, ht, h4, h2⟩
theorem undoL_len (h : AS.Inv N a) : a.undoL.length ≤ N := by
  unfold AS.undoL AS.undoG
  cases hc : a.cur with
  | some y => exact Nat.zero_le _
  | none =>
    cases hl : a.undo.getLast? with
    | none => simp
    | some g =>
      have := h.d g (List.mem_append_left _ (List.mem_of_getLast? hl))
      simp only
      unfold back
      rw [List.length_map, List.length_reverse]
      exact this
theorem redoL_len (h : AS.Inv N a) : a.redoL.length ≤ N := by
  unfold AS.redoL AS.redoG
  cases hc : a.cur with
  | some y => exact Nat.zero_le _
  | none =>
    cases hl : a.redo.getLast? with
    | none => simp
    | some g =>
      have := h.d g (List.mem_append_right _ (List.mem_of_getLast? hl))
      simp only
      exact this
theorem Run.rebase {w10 : World} (h : Run w0 w10 w p q s t s1 t1 a b N M) (hb : Below w9.heap.size w9 w10) : Run w0 w9 w p q s t s1 t1 a b N M :=
  ⟨h.pr, (Upd.below hb _).then_ h.u (fun k hk => .inl hk), fun k hk => (h.f k hk).imp id (fun e => Nat.le_trans hb.size e)⟩
theorem Run.write {g : Nat} (h : Run w0 w9 w p q s t s1 t1 a b N M) (hu : Upd (fun k => k = g) w w') (hg : w9.heap.size ≤ g) (hng : ¬ F2 p s1 q t1 g) (hw : w0.heap.size ≤ g) : Run w0 w9 w' p q s t s1 t1 a b N M :=
  ⟨h.pr.beside hu (fun k hk => by subst hk; exact ⟨hw, hng⟩), h.u.then_ hu (fun k hk => by subst hk; exact .inr hg), h.f⟩
def Room (w : World) (g off l : Nat) : Prop := ∃ cs : Array Value, Blk w g 24 cs ∧ off + l * 3 ≤ cs.size
theorem Room.cell {g off l : Nat} (h : Room w g off l) (j : Nat) (hj : j < l * 3) : ∃ x, w.cell? ⟨g, off + j, none⟩ = some x := by
  obtain ⟨cs, hb, hs⟩ := h
  exact ⟨cs[off + j], (hb.cell _).trans (Array.getElem?_eq_getElem (by omega))⟩
theorem Room.frozen {g off l : Nat} (h : Room w g off l) : ∀ j, w.frozen? ⟨g, j, none⟩ = false := by
  obtain ⟨cs, hb, hs⟩ := h
  exact hb.frozen
theorem Room.set {g off l : Nat} (h : Room w g off l) (j : Nat) (v : Value) : Room (w.setCell ⟨g, j, none⟩ v) g off l := by
  obtain ⟨cs, hb, hs⟩ := h
  exact ⟨_, hb.set_ j v, by simpa using hs⟩
theorem Room.lt {g off l : Nat} (h : Room w g off l) : g < w.heap.size := by
  obtain ⟨cs, hb, hs⟩ := h
  exact hb.lt
theorem OwnD.room {A : Option Addr} {l c : Nat} {ds : List Delta} (h : OwnD w (.slice A l c) ds) (h0 : 0 < l) (hl : ds.length = l) : ∃ g off, A = some ⟨g, off, none⟩ ∧ Room w g off l := by
  unfold OwnD at h
  rw [hl] at h
  rcases h.2 with ⟨e, h1⟩ | ⟨g, off, cap, cur, e, hh, h1, h2, h3, h4⟩
  · omega
  · injection e with e1 e2 e3
    exact ⟨g, off, e1, cur, hh, by omega⟩
theorem Run.done (h : Run w0 w9 w' p q s t s1 t1 a a N N) (hb : Below w.heap.size w w9) : Stepped w0 w w' p q s t a N :=
  ⟨s1, t1, h.pr, (Upd.below hb _).then_ h.u (fun k hk => .inl hk), fun k hk => (h.f k hk).imp id (fun e => Nat.le_trans hb.size e)⟩
end
end Log
end Go.Proofs.YtkpcnfchhnfpoaaDoor
/- LogPlays' step, walked. Printed by a program of this claim. -/
set_option linter.unusedVariables false
namespace Go.Proofs.YtkpcnfchhnfpoaaDoor
open Go.RowKit Go.Proofs.YtkpcnfchhnfpoaaDoorW.PrintWords Go.Proofs.YtkpcnfchhnfpoaaDoor.Sep Log
namespace Log
section
variable {w0 w : World} {p q : Nat} {s : LogI.LS} {t : RefL.RS} {a : AS Int} {N : Nat}
theorem w3_upd (w : World) (g a b c : Nat) (x y z : Value) : Upd (fun k => k = g) w (((w.setCell ⟨g, a, none⟩ x).setCell ⟨g, b, none⟩ y).setCell ⟨g, c, none⟩ z) :=
  Upd.setCell (S := fun k => k = g) (p := ⟨g, c, none⟩) (Upd.setCell (S := fun k => k = g) (p := ⟨g, b, none⟩) (Upd.setCell (S := fun k => k = g) (p := ⟨g, a, none⟩) (Upd.refl _ w) (.inl rfl) _) (.inl rfl) _) (.inl rfl) _
set_option maxHeartbeats 40000000
set_option maxRecDepth 100000
theorem step_1 (h : Pr w0 w p s q t a a N N) (on : Int) (oA : Option Addr) (ol oc : Nat) : Calls Tryd.prog 30 #[.pointer (some ⟨p, 0, none⟩), .pointer (some ⟨q, 0, none⟩), .agg #[.int .i64 1, .int .i64 on, .slice oA ol oc]] w fun e w' => e = .returned (.bool true) ∧ Stepped w0 w w' p q s t (a.begin_ 0 on) (N) := by
  have HB0 : Hid (Below w.heap.size w (w.alloc (.cells #[.int .i64 1, .int .i64 on, .slice oA ol oc] 59))) := Lib.hid (below_one w _)
  have HBO : Hid (Blk (w.alloc (.cells #[.int .i64 1, .int .i64 on, .slice oA ol oc] 59)) w.heap.size 59 #[.int .i64 1, .int .i64 on, .slice oA ol oc]) := Lib.hid (Blk.new w _ _)
  have HNB : Hid (∀ k, F2 p s q t k ∨ (w.alloc (.cells #[.int .i64 1, .int .i64 on, .slice oA ol oc] 59)).heap.size ≤ k → k ≠ w.heap.size) := Lib.hid (fun k hk e => by
    subst e
    rcases hk with hk | hk
    · exact Nat.lt_irrefl _ (h.lt _ hk)
    · simp at hk
      omega)
  have HT := Lib.hid (Run.start (h.later HB0.out))
  obtain ⟨rb, hrb⟩ : ∃ rb, rb = (!a.isOpen) := ⟨_, rfl⟩
  have HRB := Lib.hid hrb.symm
  have rb1 : (rb == rb) = true := by simp
  clear h hrb
  have HTD := Lib.hid HT.out.drew
  go_enter Tryd.func30, Tryd.ntmps30
  go_wp2
  go_region_held3 (fun w' => w'.cell? ⟨w.heap.size, 1, none⟩ = some (.int .i64 on))
    (first | go_keep | exact m1 | exact n1)
    (first
      | (go_at_call 33; go_fit (LogI.begin_b HTD.out.pr.l on rb HRB.out _ rfl); rintro e w3 ⟨rfl, hb⟩; obtain ⟨s1, ht1, hu1⟩ := HTD.out.stepL hb; have hbo := HBO.out.drew.upd hu1 (fun e => HNB.out _ e rfl); obtain ⟨m0, m1, m2⟩ := Blk.three hbo; have HBO1 := Lib.hid hbo; have HT1 := Lib.hid ht1; clear hb ht1 hu1 hbo)
      | (go_at_call 60; go_fit (RefL.begin_b HT1.out.pr.r on rb HRB.out _ rfl); rintro e w4 ⟨rfl, hb⟩; obtain ⟨t2, ht2, hu2⟩ := HT1.out.stepR hb; have hbo := HBO1.out.upd hu2 (fun e => HNB.out _ e rfl); obtain ⟨n0, n1, n2⟩ := Blk.three hbo; have HT2 := Lib.hid ht2; clear hb ht2 hu2 hbo))
  go_wp2_with (go_at_call 29; go_fit (looks_w HT2.out.pr); rintro e w9 ⟨rfl, n9, rfl⟩)
  go_ret
  exact ⟨rfl, (HT2.out.drewN _).done HB0.out⟩
theorem step_2 (h : Pr w0 w p s q t a a N N) (on : Int) (oA : Option Addr) (ol oc : Nat) : Calls Tryd.prog 30 #[.pointer (some ⟨p, 0, none⟩), .pointer (some ⟨q, 0, none⟩), .agg #[.int .i64 2, .int .i64 on, .slice oA ol oc]] w fun e w' => e = .returned (.bool true) ∧ Stepped w0 w w' p q s t (a.resume) (N) := by
  have HB0 : Hid (Below w.heap.size w (w.alloc (.cells #[.int .i64 2, .int .i64 on, .slice oA ol oc] 59))) := Lib.hid (below_one w _)
  have HBO : Hid (Blk (w.alloc (.cells #[.int .i64 2, .int .i64 on, .slice oA ol oc] 59)) w.heap.size 59 #[.int .i64 2, .int .i64 on, .slice oA ol oc]) := Lib.hid (Blk.new w _ _)
  have HNB : Hid (∀ k, F2 p s q t k ∨ (w.alloc (.cells #[.int .i64 2, .int .i64 on, .slice oA ol oc] 59)).heap.size ≤ k → k ≠ w.heap.size) := Lib.hid (fun k hk e => by
    subst e
    rcases hk with hk | hk
    · exact Nat.lt_irrefl _ (h.lt _ hk)
    · simp at hk
      omega)
  have HT := Lib.hid (Run.start (h.later HB0.out))
  obtain ⟨rb, hrb⟩ : ∃ rb, rb = a.resumeG.isSome := ⟨_, rfl⟩
  have HRB := Lib.hid hrb.symm
  have rb1 : (rb == rb) = true := by simp
  clear h hrb
  go_enter Tryd.func30, Tryd.ntmps30
  go_wp2_with (first
    | (go_at_call 37; go_fit (LogI.resume_b HT.out.pr.l rb HRB.out _ rfl); rintro e w3 ⟨rfl, hb⟩; obtain ⟨s1, ht1, hu1⟩ := HT.out.stepL hb; have hbo := HBO.out.upd hu1 (fun e => HNB.out _ e rfl); obtain ⟨m0, m1, m2⟩ := Blk.three hbo; have HBO1 := Lib.hid hbo; have HT1 := Lib.hid ht1; clear hb ht1 hu1 hbo)
    | (go_at_call 61; go_fit (RefL.resume_b HT1.out.pr.r rb HRB.out _ rfl); rintro e w4 ⟨rfl, hb⟩; obtain ⟨t2, ht2, hu2⟩ := HT1.out.stepR hb; have hbo := HBO1.out.upd hu2 (fun e => HNB.out _ e rfl); obtain ⟨n0, n1, n2⟩ := Blk.three hbo; have HT2 := Lib.hid ht2; clear hb ht2 hu2 hbo)
    | (go_at_call 29; go_fit (looks_w HT2.out.pr); rintro e w9 ⟨rfl, n9, rfl⟩))
  go_ret
  exact ⟨rfl, (HT2.out.drewN _).done HB0.out⟩
theorem step_4 (h : Pr w0 w p s q t a a N N) (on : Int) (oA : Option Addr) (ol oc : Nat) : Calls Tryd.prog 30 #[.pointer (some ⟨p, 0, none⟩), .pointer (some ⟨q, 0, none⟩), .agg #[.int .i64 4, .int .i64 on, .slice oA ol oc]] w fun e w' => e = .returned (.bool true) ∧ Stepped w0 w w' p q s t (a.commit on) (N) := by
  have HB0 : Hid (Below w.heap.size w (w.alloc (.cells #[.int .i64 4, .int .i64 on, .slice oA ol oc] 59))) := Lib.hid (below_one w _)
  have HBO : Hid (Blk (w.alloc (.cells #[.int .i64 4, .int .i64 on, .slice oA ol oc] 59)) w.heap.size 59 #[.int .i64 4, .int .i64 on, .slice oA ol oc]) := Lib.hid (Blk.new w _ _)
  have HNB : Hid (∀ k, F2 p s q t k ∨ (w.alloc (.cells #[.int .i64 4, .int .i64 on, .slice oA ol oc] 59)).heap.size ≤ k → k ≠ w.heap.size) := Lib.hid (fun k hk e => by
    subst e
    rcases hk with hk | hk
    · exact Nat.lt_irrefl _ (h.lt _ hk)
    · simp at hk
      omega)
  have HT := Lib.hid (Run.start (h.later HB0.out))
  obtain ⟨rb, hrb⟩ : ∃ rb, rb = a.commitB := ⟨_, rfl⟩
  have HRB := Lib.hid hrb.symm
  have rb1 : (rb == rb) = true := by simp
  clear h hrb
  have HTD := Lib.hid HT.out.drew
  go_enter Tryd.func30, Tryd.ntmps30
  go_wp2
  go_region_held3 (fun w' => w'.cell? ⟨w.heap.size, 1, none⟩ = some (.int .i64 on))
    (first | go_keep | exact m1 | exact n1)
    (first
      | (go_at_call 43; go_fit (LogI.commit_b HTD.out.pr.l on rb HRB.out _ rfl); rintro e w3 ⟨rfl, hb⟩; obtain ⟨s1, ht1, hu1⟩ := HTD.out.stepL hb; have hbo := HBO.out.drew.upd hu1 (fun e => HNB.out _ e rfl); obtain ⟨m0, m1, m2⟩ := Blk.three hbo; have HBO1 := Lib.hid hbo; have HT1 := Lib.hid ht1; clear hb ht1 hu1 hbo)
      | (go_at_call 63; go_fit (RefL.commit_b HT1.out.pr.r on rb HRB.out _ rfl); rintro e w4 ⟨rfl, hb⟩; obtain ⟨t2, ht2, hu2⟩ := HT1.out.stepR hb; have hbo := HBO1.out.upd hu2 (fun e => HNB.out _ e rfl); obtain ⟨n0, n1, n2⟩ := Blk.three hbo; have HT2 := Lib.hid ht2; clear hb ht2 hu2 hbo))
  go_wp2_with (go_at_call 29; go_fit (looks_w HT2.out.pr); rintro e w9 ⟨rfl, n9, rfl⟩)
  go_ret
  exact ⟨rfl, (HT2.out.drewN _).done HB0.out⟩
theorem step_3 (h : Pr w0 w p s q t a a N N) (on : Int) (oA : Option Addr) (ol oc : Nat) (ds : List Delta) (hr : ReadsD w0 w0.heap.size oA ol ds) (hN : N + ol ≤ 100000000000) : Calls Tryd.prog 30 #[.pointer (some ⟨p, 0, none⟩), .pointer (some ⟨q, 0, none⟩), .agg #[.int .i64 3, .int .i64 on, .slice oA ol oc]] w fun e w' => e = .returned (.bool true) ∧ Stepped w0 w w' p q s t (a.add ds) (N + ol) := by
  have HB0 : Hid (Below w.heap.size w (w.alloc (.cells #[.int .i64 3, .int .i64 on, .slice oA ol oc] 59))) := Lib.hid (below_one w _)
  have HBO : Hid (Blk (w.alloc (.cells #[.int .i64 3, .int .i64 on, .slice oA ol oc] 59)) w.heap.size 59 #[.int .i64 3, .int .i64 on, .slice oA ol oc]) := Lib.hid (Blk.new w _ _)
  have HS := Lib.hid h
  have hl := hr.1
  have HRA : Hid (∀ w', Below w0.heap.size w0 w' → ReadsD w' w'.heap.size oA ol ds) := Lib.hid (fun w' hb => ⟨hr.1, (hr.2.below hb).more hb.size⟩)
  obtain ⟨rb, hrb⟩ : ∃ rb, rb = a.isOpen := ⟨_, rfl⟩
  have HRB := Lib.hid hrb.symm
  have rb1 : (rb == rb) = true := by simp
  have hdd : decide (ds = ds) = true := by simp
  have HNN := Lib.hid hN
  have HB8 : Hid (Below w0.heap.size w0 (w.alloc (.cells #[.int .i64 3, .int .i64 on, .slice oA ol oc] 59))) := Lib.hid (h.l.below.trans (HB0.out.mono h.l.below.size))
  clear h hr hrb hN
  go_enter Tryd.func30, Tryd.ntmps30
  go_wp2_with (go_at_call 12; refine (copied _ oA ol oc ds (HRA.out _ HB8.out) (by have := HNN.out; omega)).mono ?_; rintro e w2 ⟨v2, rfl, ho, hf, hb⟩; obtain ⟨A2, c2, hv2, -⟩ := ho.len; rw [hl] at hv2; have HO2 := Lib.hid ho; have HF2 := Lib.hid hf; have HB2 := Lib.hid hb; subst hv2; clear ho hf hb)
  have HBW : Hid (Below w.heap.size w w2) := Lib.hid (HB0.out.trans (HB2.out.mono HB0.out.size))
  have HT := Lib.hid ((Run.start (HS.out.later HBW.out)).drew)
  have hbo2 := Blk.later HBO.out HB2.out
  obtain ⟨k0, k1, k2⟩ := Blk.three hbo2
  have HBO2 := Lib.hid hbo2
  have hsz : w.heap.size < w2.heap.size := hbo2.lt
  have HOD : Hid (OwnD w2.drew (.slice A2 ol c2) ds) := Lib.hid (OwnS.upd (S := No) HO2.out (Upd.refl _ _).drew (fun k _ hx => hx.elim))
  have HNB : Hid (∀ k, F2 p s q t k ∨ w2.heap.size ≤ k → k ≠ w.heap.size) := Lib.hid (fun k hk e => by
    subst e
    rcases hk with hk | hk
    · exact Nat.lt_irrefl _ (HS.out.lt _ hk)
    · omega)
  have HGB : Hid (∀ k, (Value.slice A2 ol c2).ownBlock = some k → (w.alloc (.cells #[.int .i64 3, .int .i64 on, .slice oA ol oc] 59)).heap.size ≤ k ∧ k < w2.heap.size ∧ ¬ F2 p s q t k) := Lib.hid (fun k hk => by
    have h1 := HF2.out k hk
    refine ⟨h1, HO2.out.lt k hk, fun hx => ?_⟩
    have h2 := HS.out.lt _ hx
    have h3 := HB0.out.size
    omega)
  have HNF : Hid (∀ k, F2 p s q t k ∨ w2.heap.size ≤ k → ∀ j, (Value.slice A2 ol c2).ownBlock = some j → k ≠ j) := Lib.hid (fun k hk j hj e => by
    subst e
    have h1 := HGB.out k hj
    rcases hk with hk | hk
    · exact h1.2.2 hk
    · omega)
  clear hbo2 hsz
  go_region_held3 (fun w' => w'.cell? ⟨w.heap.size, 2, none⟩ = some (.slice oA ol oc))
    (first | go_keep | exact k2 | exact m2 | exact n2 | exact o2)
    (first
      | (go_at_call 40; go_fit (LogI.add_b HT.out.pr.l A2 ol c2 ds (OwnD.reads HOD.out hl.symm) HNN.out (fun h0 b hb hx => (HGB.out b.block (by subst hb; rfl)).2.2 (.inl hx)) rb HRB.out _ rfl); rintro e w3 ⟨rfl, hb⟩; obtain ⟨s1, ht1, hu1⟩ := HT.out.stepL hb; have hbo := HBO2.out.drew.upd hu1 (fun e => HNB.out _ e rfl); obtain ⟨m0, m1, m2⟩ := Blk.three hbo; have HBO3 := Lib.hid hbo; have HT1 := Lib.hid ht1; have HO3 := Lib.hid (OwnS.upd HOD.out hu1 (fun j hj hx => HNF.out j hx j hj rfl)); clear hb ht1 hu1 hbo)
      | (go_at_call 62; go_fit (RefL.add_b HT1.out.pr.r oA ol oc ds (HRA.out _ HT1.out.pr.r.below) HNN.out rb HRB.out _ rfl); rintro e w4 ⟨rfl, hb⟩; obtain ⟨t2, ht2, hu2⟩ := HT1.out.stepR hb; have hbo := HBO3.out.upd hu2 (fun e => HNB.out _ e rfl); obtain ⟨n0, n1, n2⟩ := Blk.three hbo; have HBO4 := Lib.hid hbo; have HT2 := Lib.hid ht2; have HO4 := Lib.hid (OwnS.upd HO3.out hu2 (fun j hj hx => HNF.out j hx j hj rfl)); clear hb ht2 hu2 hbo)
      | (go_at_call 27; go_fit (same _ A2 oA ol ol c2 oc ds ds (OwnD.reads HO4.out hl.symm) (HRA.out _ HT2.out.pr.r.below) (by have := HNN.out; omega)); rintro e w5 ⟨rfl, hb⟩; have hbo := Blk.later HBO4.out hb; obtain ⟨o0, o1, o2⟩ := Blk.three hbo; have HT3 := Lib.hid (HT2.out.later hb); have HO5 := Lib.hid (OwnS.upd HO4.out (Upd.below hb No) (fun k _ hx => hx.elim)); clear hb hbo))
  have HRM : Hid (∃ g off, 0 < ol → A2 = some ⟨g, off, none⟩ ∧ Room w5 g off ol ∧ (w.alloc (.cells #[.int .i64 3, .int .i64 on, .slice oA ol oc] 59)).heap.size ≤ g ∧ ¬ F2 p s1 q t2 g ∧ w0.heap.size ≤ g) := Lib.hid (by
    by_cases h0 : 0 < ol
    · obtain ⟨g, off, rfl, hrm⟩ := OwnD.room HO5.out h0 hl
      obtain ⟨h1, h2, h3⟩ := HGB.out g rfl
      refine ⟨g, off, fun _ => ⟨rfl, hrm, h1, fun hx => ?_, Nat.le_trans HB8.out.size h1⟩⟩
      exact HNF.out g (HT3.out.f g hx) g rfl rfl
    · exact ⟨0, 0, fun h => absurd h h0⟩)
  obtain ⟨g, off, hrm⟩ := HRM.out
  have HG := Lib.hid (fun h0 => (hrm h0).1)
  have HGN := Lib.hid (fun h0 => (hrm h0).2.2)
  have HRM5 := Lib.hid (fun h0 => (hrm h0).2.1)
  have HT9 := Lib.hid (HT3.out.rebase HB2.out)
  clear hrm
  obtain ⟨W1, hW1⟩ : ∃ W1, W1 = (w.alloc (.cells #[.int .i64 3, .int .i64 on, .slice oA ol oc] 59)) := ⟨_, rfl⟩
  rw [← hW1] at HT9 HGN HB0
  clear HRM HT HT1 HT2 HT3 HO2 HO3 HO4 HO5 HOD HBO HBO2 HBO3 HBO4 HNF HGB HNB HF2 HB2 HB8
  have hol : ol ≤ 100000000000 := by have := HNN.out; omega
  go_wp2
  go_loopg [9] ol (fun k v9 w' => ∃ i : Nat, v9 = .int .i64 i ∧ i + k = ol ∧ Hid (Run w0 W1 w' p q s t s1 t2 (a.add ds) (a.add ds) (N + ol) (N + ol)) ∧ Hid (0 < ol → Room w' g off ol))
  case atStart => exact ⟨0, rfl, by omega, HT9, HRM5⟩
  case round =>
    obtain ⟨i, rfl, hik, HT, HR⟩ := hrel
    cases gk with
    | zero =>
      have e1 : decide (i < ol) = false := by simp; omega
      go_wp2_with (go_at_call 29; go_fit (looks_w HT.out.pr); rintro e w9 ⟨rfl, n9, rfl⟩)
      go_ret
      exact ⟨rfl, (HT.out.drewN _).done HB0.out⟩
    | succ k1 =>
      have hi : i < ol := by omega
      have e1 : decide (i < ol) = true := by simp [hi]
      have h0 : 0 < ol := by omega
      have hA := HG.out h0
      subst hA
      have hR := HR.out h0
      obtain ⟨x0, hx0⟩ := hR.cell (i * 3) (by omega)
      obtain ⟨x1, hx1⟩ := hR.cell (i * 3 + 1) (by omega)
      obtain ⟨x2, hx2⟩ := hR.cell (i * 3 + 2) (by omega)
      rw [← Nat.add_assoc] at hx1 hx2
      have hfr := hR.frozen
      clear hR
      go_wp2
      go_roundg k1
      case measure => omega
      case rel =>
        have hgn := HGN.out h0
        refine ⟨i + 1, by simp, by omega, Lib.hid (Run.write HT.out (w3_upd _ g _ _ _ _ _ _) hgn.1 hgn.2.1 hgn.2.2), Lib.hid (fun h => ?_)⟩
        exact (((HR.out h).set _ _).set _ _).set _ _
theorem step_5 (h : Pr w0 w p s q t a a N N) (on : Int) (oA : Option Addr) (ol oc : Nat) : Calls Tryd.prog 30 #[.pointer (some ⟨p, 0, none⟩), .pointer (some ⟨q, 0, none⟩), .agg #[.int .i64 5, .int .i64 on, .slice oA ol oc]] w fun e w' => e = .returned (.bool true) ∧ Stepped w0 w w' p q s t (a.cancel) (N) := by
  have HB0 : Hid (Below w.heap.size w (w.alloc (.cells #[.int .i64 5, .int .i64 on, .slice oA ol oc] 59))) := Lib.hid (below_one w _)
  have HBO : Hid (Blk (w.alloc (.cells #[.int .i64 5, .int .i64 on, .slice oA ol oc] 59)) w.heap.size 59 #[.int .i64 5, .int .i64 on, .slice oA ol oc]) := Lib.hid (Blk.new w _ _)
  have HNB : Hid (∀ k, F2 p s q t k ∨ (w.alloc (.cells #[.int .i64 5, .int .i64 on, .slice oA ol oc] 59)).heap.size ≤ k → k ≠ w.heap.size) := Lib.hid (fun k hk e => by
    subst e
    rcases hk with hk | hk
    · exact Nat.lt_irrefl _ (h.lt _ hk)
    · simp at hk
      omega)
  have HT := Lib.hid (Run.start (h.later HB0.out))
  obtain ⟨rb, hrb⟩ : ∃ rb, rb = a.isOpen := ⟨_, rfl⟩
  have HRB := Lib.hid hrb.symm
  have rb1 : (rb == rb) = true := by simp
  clear hrb
  have hdd : decide (a.cancelL = a.cancelL) = true := by simp
  clear h
  go_enter Tryd.func30, Tryd.ntmps30
  go_wp2_with (first
    | (go_at_call 46; go_fit (LogI.cancel_b HT.out.pr.l rb HRB.out _ rfl _ rfl); rintro e w3 ⟨v3, rfl, hb⟩; obtain ⟨s1, ht1, ho1, hf1⟩ := HT.out.stepLs hb; obtain ⟨A3, c3, hv3, -⟩ := ho1.len; have HT1 := Lib.hid ht1; have HO1 := Lib.hid ho1; have HF1 := Lib.hid hf1; subst hv3; clear hb ht1 ho1 hf1)
    | (go_at_call 64; go_fit (RefL.cancel_b HT1.out.pr.r rb HRB.out _ rfl _ rfl); rintro e w4 ⟨v4, rfl, hb⟩; obtain ⟨t2, ht2, ho2, hu2⟩ := HT1.out.stepRs hb; obtain ⟨A4, c4, hv4, -⟩ := ho2.len; have HO1b := Lib.hid (OwnS.upd HO1.out hu2 (fun k hk hx => HF1.out k hk hx)); have HT2 := Lib.hid ht2; have HO2 := Lib.hid ho2; subst hv4; clear hb ht2 ho2 hu2)
    | (go_at_call 27; refine (same _ _ _ _ _ _ _ (a.cancelL) (a.cancelL) (OwnD.reads HO1b.out rfl) (OwnD.reads HO2.out rfl) (by have := LogI.cancelL_len HT.out.pr.l.inv; have := HT.out.pr.l.small; omega)).mono ?_; rintro e w5 ⟨rfl, hb⟩; have HT3 := Lib.hid (HT2.out.later hb); clear hb)
    | (go_at_call 29; go_fit (looks_w HT3.out.pr); rintro e w9 ⟨rfl, n9, rfl⟩))
  go_ret
  exact ⟨rfl, (HT3.out.drewN _).done HB0.out⟩
theorem step_6 (h : Pr w0 w p s q t a a N N) (on : Int) (oA : Option Addr) (ol oc : Nat) : Calls Tryd.prog 30 #[.pointer (some ⟨p, 0, none⟩), .pointer (some ⟨q, 0, none⟩), .agg #[.int .i64 6, .int .i64 on, .slice oA ol oc]] w fun e w' => e = .returned (.bool true) ∧ Stepped w0 w w' p q s t (a.undo_) (N) := by
  have HB0 : Hid (Below w.heap.size w (w.alloc (.cells #[.int .i64 6, .int .i64 on, .slice oA ol oc] 59))) := Lib.hid (below_one w _)
  have HBO : Hid (Blk (w.alloc (.cells #[.int .i64 6, .int .i64 on, .slice oA ol oc] 59)) w.heap.size 59 #[.int .i64 6, .int .i64 on, .slice oA ol oc]) := Lib.hid (Blk.new w _ _)
  have HNB : Hid (∀ k, F2 p s q t k ∨ (w.alloc (.cells #[.int .i64 6, .int .i64 on, .slice oA ol oc] 59)).heap.size ≤ k → k ≠ w.heap.size) := Lib.hid (fun k hk e => by
    subst e
    rcases hk with hk | hk
    · exact Nat.lt_irrefl _ (h.lt _ hk)
    · simp at hk
      omega)
  have HT := Lib.hid (Run.start (h.later HB0.out))
  obtain ⟨rx, hrx⟩ : ∃ rx, rx = a.undoA LogI.zA := ⟨_, rfl⟩
  obtain ⟨rc, hrc⟩ : ∃ rc, rc = a.undoE := ⟨_, rfl⟩
  have HRX := Lib.hid hrx.symm
  have HRC := Lib.hid hrc.symm
  clear hrx hrc
  have hdd : decide (a.undoL = a.undoL) = true := by simp
  clear h
  go_enter Tryd.func30, Tryd.ntmps30
  go_wp2_with (first
    | (go_at_call 25; go_fit (LogI.undo_b HT.out.pr.l _ rfl rx HRX.out rc HRC.out _ rfl); rintro e w3 ⟨v3, rfl, hb⟩; obtain ⟨s1, ht1, ho1, hf1⟩ := HT.out.stepLs hb; obtain ⟨A3, c3, hv3, -⟩ := ho1.len; have HT1 := Lib.hid ht1; have HO1 := Lib.hid ho1; have HF1 := Lib.hid hf1; subst hv3; clear hb ht1 ho1 hf1)
    | (go_at_call 65; go_fit (RefL.undo_b HT1.out.pr.r _ rfl rx HRX.out rc HRC.out _ rfl); rintro e w4 ⟨v4, rfl, hb⟩; obtain ⟨t2, ht2, ho2, hu2⟩ := HT1.out.stepRs hb; obtain ⟨A4, c4, hv4, -⟩ := ho2.len; have HO1b := Lib.hid (OwnS.upd HO1.out hu2 (fun k hk hx => HF1.out k hk hx)); have HT2 := Lib.hid ht2; have HO2 := Lib.hid ho2; subst hv4; clear hb ht2 ho2 hu2)
    | (go_at_call 27; refine (same _ _ _ _ _ _ _ (a.undoL) (a.undoL) (OwnD.reads HO1b.out rfl) (OwnD.reads HO2.out rfl) (by have := undoL_len HT.out.pr.l.inv; have := HT.out.pr.l.small; omega)).mono ?_; rintro e w5 ⟨rfl, hb⟩; have HT3 := Lib.hid (HT2.out.later hb); clear hb)
    | (go_at_call 29; go_fit (looks_w HT3.out.pr); rintro e w9 ⟨rfl, n9, rfl⟩))
  go_ret
  exact ⟨rfl, (HT3.out.drewN _).done HB0.out⟩
theorem step_7 (h : Pr w0 w p s q t a a N N) (on : Int) (oA : Option Addr) (ol oc : Nat) : Calls Tryd.prog 30 #[.pointer (some ⟨p, 0, none⟩), .pointer (some ⟨q, 0, none⟩), .agg #[.int .i64 7, .int .i64 on, .slice oA ol oc]] w fun e w' => e = .returned (.bool true) ∧ Stepped w0 w w' p q s t (a.redo_) (N) := by
  have HB0 : Hid (Below w.heap.size w (w.alloc (.cells #[.int .i64 7, .int .i64 on, .slice oA ol oc] 59))) := Lib.hid (below_one w _)
  have HBO : Hid (Blk (w.alloc (.cells #[.int .i64 7, .int .i64 on, .slice oA ol oc] 59)) w.heap.size 59 #[.int .i64 7, .int .i64 on, .slice oA ol oc]) := Lib.hid (Blk.new w _ _)
  have HNB : Hid (∀ k, F2 p s q t k ∨ (w.alloc (.cells #[.int .i64 7, .int .i64 on, .slice oA ol oc] 59)).heap.size ≤ k → k ≠ w.heap.size) := Lib.hid (fun k hk e => by
    subst e
    rcases hk with hk | hk
    · exact Nat.lt_irrefl _ (h.lt _ hk)
    · simp at hk
      omega)
  have HT := Lib.hid (Run.start (h.later HB0.out))
  obtain ⟨rx, hrx⟩ : ∃ rx, rx = a.redoA LogI.zA := ⟨_, rfl⟩
  obtain ⟨rc, hrc⟩ : ∃ rc, rc = a.redoE := ⟨_, rfl⟩
  have HRX := Lib.hid hrx.symm
  have HRC := Lib.hid hrc.symm
  clear hrx hrc
  have hdd : decide (a.redoL = a.redoL) = true := by simp
  clear h
  go_enter Tryd.func30, Tryd.ntmps30
  go_wp2_with (first
    | (go_at_call 26; go_fit (LogI.redo_b HT.out.pr.l _ rfl rx HRX.out rc HRC.out _ rfl); rintro e w3 ⟨v3, rfl, hb⟩; obtain ⟨s1, ht1, ho1, hf1⟩ := HT.out.stepLs hb; obtain ⟨A3, c3, hv3, -⟩ := ho1.len; have HT1 := Lib.hid ht1; have HO1 := Lib.hid ho1; have HF1 := Lib.hid hf1; subst hv3; clear hb ht1 ho1 hf1)
    | (go_at_call 66; go_fit (RefL.redo_b HT1.out.pr.r _ rfl rx HRX.out rc HRC.out _ rfl); rintro e w4 ⟨v4, rfl, hb⟩; obtain ⟨t2, ht2, ho2, hu2⟩ := HT1.out.stepRs hb; obtain ⟨A4, c4, hv4, -⟩ := ho2.len; have HO1b := Lib.hid (OwnS.upd HO1.out hu2 (fun k hk hx => HF1.out k hk hx)); have HT2 := Lib.hid ht2; have HO2 := Lib.hid ho2; subst hv4; clear hb ht2 ho2 hu2)
    | (go_at_call 27; refine (same _ _ _ _ _ _ _ (a.redoL) (a.redoL) (OwnD.reads HO1b.out rfl) (OwnD.reads HO2.out rfl) (by have := redoL_len HT.out.pr.l.inv; have := HT.out.pr.l.small; omega)).mono ?_; rintro e w5 ⟨rfl, hb⟩; have HT3 := Lib.hid (HT2.out.later hb); clear hb)
    | (go_at_call 29; go_fit (looks_w HT3.out.pr); rintro e w9 ⟨rfl, n9, rfl⟩))
  go_ret
  exact ⟨rfl, (HT3.out.drewN _).done HB0.out⟩
theorem step_8 (h : Pr w0 w p s q t a a N N) (on : Int) (oA : Option Addr) (ol oc : Nat) : Calls Tryd.prog 30 #[.pointer (some ⟨p, 0, none⟩), .pointer (some ⟨q, 0, none⟩), .agg #[.int .i64 8, .int .i64 on, .slice oA ol oc]] w fun e w' => e = .returned (.bool true) ∧ Stepped w0 w w' p q s t (a.clear) (N) := by
  have HB0 : Hid (Below w.heap.size w (w.alloc (.cells #[.int .i64 8, .int .i64 on, .slice oA ol oc] 59))) := Lib.hid (below_one w _)
  have HBO : Hid (Blk (w.alloc (.cells #[.int .i64 8, .int .i64 on, .slice oA ol oc] 59)) w.heap.size 59 #[.int .i64 8, .int .i64 on, .slice oA ol oc]) := Lib.hid (Blk.new w _ _)
  have HNB : Hid (∀ k, F2 p s q t k ∨ (w.alloc (.cells #[.int .i64 8, .int .i64 on, .slice oA ol oc] 59)).heap.size ≤ k → k ≠ w.heap.size) := Lib.hid (fun k hk e => by
    subst e
    rcases hk with hk | hk
    · exact Nat.lt_irrefl _ (h.lt _ hk)
    · simp at hk
      omega)
  have HT := Lib.hid (Run.start (h.later HB0.out))
  clear h
  go_enter Tryd.func30, Tryd.ntmps30
  go_wp2_with (first
    | (go_at_call 50; go_fit (LogI.clear_b HT.out.pr.l _ rfl); rintro e w3 ⟨rfl, hb⟩; obtain ⟨s1, ht1, hu1⟩ := HT.out.stepL hb; have HT1 := Lib.hid ht1; clear hb ht1 hu1)
    | (go_at_call 67; go_fit (RefL.clear_b HT1.out.pr.r _ rfl); rintro e w4 ⟨rfl, hb⟩; obtain ⟨t2, ht2, hu2⟩ := HT1.out.stepR hb; have HT2 := Lib.hid ht2; clear hb ht2 hu2)
    | (go_at_call 29; go_fit (looks_w HT2.out.pr); rintro e w9 ⟨rfl, n9, rfl⟩))
  go_ret
  exact ⟨rfl, (HT2.out.drewN _).done HB0.out⟩
theorem step_o (h : Pr w0 w p s q t a a N N) (ok : Int) (hk : ∀ j ∈ [1, 2, 3, 4, 5, 6, 7, 8], ok ≠ j) (on : Int) (oA : Option Addr) (ol oc : Nat) : Calls Tryd.prog 30 #[.pointer (some ⟨p, 0, none⟩), .pointer (some ⟨q, 0, none⟩), .agg #[.int .i64 ok, .int .i64 on, .slice oA ol oc]] w fun e w' => e = .returned (.bool true) ∧ Stepped w0 w w' p q s t (a) (N) := by
  have HB0 : Hid (Below w.heap.size w (w.alloc (.cells #[.int .i64 ok, .int .i64 on, .slice oA ol oc] 59))) := Lib.hid (below_one w _)
  have HBO : Hid (Blk (w.alloc (.cells #[.int .i64 ok, .int .i64 on, .slice oA ol oc] 59)) w.heap.size 59 #[.int .i64 ok, .int .i64 on, .slice oA ol oc]) := Lib.hid (Blk.new w _ _)
  have HNB : Hid (∀ k, F2 p s q t k ∨ (w.alloc (.cells #[.int .i64 ok, .int .i64 on, .slice oA ol oc] 59)).heap.size ≤ k → k ≠ w.heap.size) := Lib.hid (fun k hk e => by
    subst e
    rcases hk with hk | hk
    · exact Nat.lt_irrefl _ (h.lt _ hk)
    · simp at hk
      omega)
  have HT := Lib.hid (Run.start (h.later HB0.out))
  have b1 : (ok == 1) = false := by rw [beq_eq_false_iff_ne]; exact hk 1 (by simp)
  have b2 : (ok == 2) = false := by rw [beq_eq_false_iff_ne]; exact hk 2 (by simp)
  have b3 : (ok == 3) = false := by rw [beq_eq_false_iff_ne]; exact hk 3 (by simp)
  have b4 : (ok == 4) = false := by rw [beq_eq_false_iff_ne]; exact hk 4 (by simp)
  have b5 : (ok == 5) = false := by rw [beq_eq_false_iff_ne]; exact hk 5 (by simp)
  have b6 : (ok == 6) = false := by rw [beq_eq_false_iff_ne]; exact hk 6 (by simp)
  have b7 : (ok == 7) = false := by rw [beq_eq_false_iff_ne]; exact hk 7 (by simp)
  have b8 : (ok == 8) = false := by rw [beq_eq_false_iff_ne]; exact hk 8 (by simp)
  clear h hk
  go_enter Tryd.func30, Tryd.ntmps30
  go_wp2_with ((go_at_call 29; go_fit (looks_w HT.out.pr); rintro e w9 ⟨rfl, n9, rfl⟩))
  go_ret
  exact ⟨rfl, (HT.out.drewN _).done HB0.out⟩
end
end Log
end Go.Proofs.YtkpcnfchhnfpoaaDoor
/- LogPlays, walked. Printed by a program of this claim. -/
set_option linter.unusedVariables false
namespace Go.Proofs.YtkpcnfchhnfpoaaDoor
open Go.RowKit Go.Proofs.YtkpcnfchhnfpoaaDoorW.PrintWords Go.Proofs.YtkpcnfchhnfpoaaDoor.Sep Log
namespace Log
section
variable {w0 w w' : World} {p q p2 q2 : Nat} {s s2 : LogI.LS} {t t2 : RefL.RS} {a a2 a' : AS Int} {N N2 N' : Nat}
theorem step_w (h : Pr w0 w p s q t a a N N) (ok on : Int) (oA : Option Addr) (ol oc : Nat) (ds : List Delta) (hr : ReadsD w0 w0.heap.size oA ol ds) (hN : N + ol ≤ 100000000000) : Calls Tryd.prog 30 #[.pointer (some ⟨p, 0, none⟩), .pointer (some ⟨q, 0, none⟩), .agg #[.int .i64 ok, .int .i64 on, .slice oA ol oc]] w fun e w' => e = .returned (.bool true) ∧ ∃ a' M, M ≤ N + ol ∧ Stepped w0 w w' p q s t a' M := by
  by_cases h1 : ok = 1
  · subst h1
    exact (step_1 h on oA ol oc).mono (fun e w' x => ⟨x.1, _, _, by omega, x.2⟩)
  by_cases h2 : ok = 2
  · subst h2
    exact (step_2 h on oA ol oc).mono (fun e w' x => ⟨x.1, _, _, by omega, x.2⟩)
  by_cases h3 : ok = 3
  · subst h3
    exact (step_3 h on oA ol oc ds hr hN).mono (fun e w' x => ⟨x.1, _, _, by omega, x.2⟩)
  by_cases h4 : ok = 4
  · subst h4
    exact (step_4 h on oA ol oc).mono (fun e w' x => ⟨x.1, _, _, by omega, x.2⟩)
  by_cases h5 : ok = 5
  · subst h5
    exact (step_5 h on oA ol oc).mono (fun e w' x => ⟨x.1, _, _, by omega, x.2⟩)
  by_cases h6 : ok = 6
  · subst h6
    exact (step_6 h on oA ol oc).mono (fun e w' x => ⟨x.1, _, _, by omega, x.2⟩)
  by_cases h7 : ok = 7
  · subst h7
    exact (step_7 h on oA ol oc).mono (fun e w' x => ⟨x.1, _, _, by omega, x.2⟩)
  by_cases h8 : ok = 8
  · subst h8
    exact (step_8 h on oA ol oc).mono (fun e w' x => ⟨x.1, _, _, by omega, x.2⟩)
  exact (step_o h ok (by simp [h1, h2, h3, h4, h5, h6, h7, h8]) on oA ol oc).mono (fun e w' x => ⟨x.1, _, _, by omega, x.2⟩)
structure Tp (w0 w : World) (p q : Nat) (s : LogI.LS) (t : RefL.RS) (a : AS Int) (N : Nat) (p2 q2 : Nat) (s2 : LogI.LS) (t2 : RefL.RS) (a2 : AS Int) (N2 : Nat) : Prop where
  l : Pr w0 w p s q t a a N N
  r : Pr w0 w p2 s2 q2 t2 a2 a2 N2 N2
  far : ∀ k, F2 p s q t k → ¬ F2 p2 s2 q2 t2 k
theorem Tp.drewN (h : Tp w0 w p q s t a N p2 q2 s2 t2 a2 N2) (n : Nat) : Tp w0 (w.drewN n) p q s t a N p2 q2 s2 t2 a2 N2 := ⟨h.l.drewN n, h.r.drewN n, h.far⟩
theorem Tp.stepL (h : Tp w0 w p q s t a N p2 q2 s2 t2 a2 N2) (hs : Stepped w0 w w' p q s t a' N') : ∃ s1 t1, Tp w0 w' p q s1 t1 a' N' p2 q2 s2 t2 a2 N2 := by
  obtain ⟨s1, t1, h1, h2, h3⟩ := hs
  refine ⟨s1, t1, h1, h.r.beside h2 (fun k hk => ⟨h.l.new k hk, h.far k hk⟩), fun k hk hx => ?_⟩
  rcases h3 k hk with e | e
  · exact h.far k e hx
  · have := h.r.lt k hx
    omega
theorem Tp.stepR (h : Tp w0 w p q s t a N p2 q2 s2 t2 a2 N2) (hs : Stepped w0 w w' p2 q2 s2 t2 a' N') : ∃ s1 t1, Tp w0 w' p q s t a N p2 q2 s1 t1 a' N' := by
  obtain ⟨s1, t1, h1, h2, h3⟩ := hs
  refine ⟨s1, t1, h.l.beside h2 (fun k hk => ⟨h.r.new k hk, fun hx => h.far k hx hk⟩), h1, fun k hx hk => ?_⟩
  rcases h3 k hk with e | e
  · exact h.far k hx e
  · have := h.l.lt k hx
    omega
theorem osum_next {os : List OpV} {l i N ol : Nat} (hl : os.length = l) (hi : i < l) (hN : N ≤ osum (os.take i)) (ho : (ods (os.getD i O0)).length = ol) : N + ol ≤ osum (os.take (i + 1)) := by
  have := osum_take os i (by omega)
  omega
theorem osum_stay {os : List OpV} {l i N : Nat} (hl : os.length = l) (hi : ¬ i < l) (hN : N ≤ osum (os.take i)) : N ≤ osum (os.take (i + 1)) := by
  rw [List.take_of_length_le (by omega)]
  rw [List.take_of_length_le (by omega)] at hN
  exact hN
end
set_option maxHeartbeats 40000000
set_option maxRecDepth 100000
theorem plays_w (W : World) (n : Int) (A : Option Addr) (la ca : Nat) (os : List OpV) (hr : ReadsO W W.heap.size A la os) (hz : osum os + la ≤ 2000000) (B : Option Addr) (lb cb : Nat) (qs : List OpV) (gr : ReadsO W W.heap.size B lb qs) (gz : osum qs + lb ≤ 2000000) :
    Calls Tryd.prog 7 #[.int .i64 n, .slice A la ca, .slice B lb cb] W fun e w' => e = .returned (.bool true) ∧ Below W.heap.size W w' := by
  have hl := hr.len
  have gl := gr.len
  have hla : la ≤ 2000000 := by omega
  have hlb : lb ≤ 2000000 := by omega
  have HZ := Lib.hid hz
  have GZ := Lib.hid gz
  have HR := Lib.hid hr
  have GR := Lib.hid gr
  obtain ⟨a, ha⟩ : ∃ a : AS Int, AS.new (min (max n 0) 1000).toNat = a := ⟨_, rfl⟩
  have HA := Lib.hid ha
  clear hr gr hz gz ha
  go_enter Tryd.func7, Tryd.ntmps7
  go_wp2_with (first
    | (go_at_call 10; go_fit (fixed _); rintro e w1 ⟨rfl, hb⟩; have HB1 := Lib.hid hb; clear hb)
    | (go_at_call 20; go_fit (LogI.new_b (w0 := W) n HP1.out.l.below a HA.out 0 (by omega)); rintro e w4 ⟨p2, s2, rfl, h1, h2, h3⟩; have HL2 := Lib.hid h1; have HF2 := Lib.hid h2; have HP2 := Lib.hid (HP1.out.later h3); have HB4 := Lib.hid h3; clear h1 h2 h3)
    | (go_at_call 28; go_fit (RefL.new_b (w0 := W) n HL2.out.below a HA.out 0 (by omega)); rintro e w5 ⟨q2, t2, rfl, h1, h2, h3⟩; have hp : Pr W w5 p2 s2 q2 t2 a a 0 0 := ⟨HL2.out.later h3, h1, fun k hk hx => by have h4 := HL2.out.at_.lt k hk; have h5 := h2 k hx; omega⟩; have HT := Lib.hid (Tp.mk (HP2.out.later h3) hp (fun k hk hx => by have h4 := HP1.out.lt k hk; rcases hx with hx | hx; (have h5 := HF2.out k hx; omega); (have h5 := h2 k hx; have h6 := HB4.out.size; omega))); clear h1 h2 h3 hp)
    | (go_at_call 20; go_fit (LogI.new_b (w0 := W) n HB1.out a HA.out 0 (by omega)); rintro e w2 ⟨p, s, rfl, h1, h2, h3⟩; have HL1 := Lib.hid h1; clear h1 h2 h3)
    | (go_at_call 28; go_fit (RefL.new_b (w0 := W) n HL1.out.below a HA.out 0 (by omega)); rintro e w3 ⟨q, t, rfl, h1, h2, h3⟩; have hp : Pr W w3 p s q t a a 0 0 := ⟨HL1.out.later h3, h1, fun k hk hx => by have h4 := HL1.out.at_.lt k hk; have h5 := h2 k hx; omega⟩; have HP1 := Lib.hid hp; clear h1 h2 h3 hp)
    | (go_at_call 29; go_fit (looks_w HT.out.l); rintro e w9 ⟨rfl, n9, rfl⟩; have HT9 := Lib.hid (HT.out.drewN n9)))
  clear HL1 HP1 HL2 HF2 HP2 HB4 HT HB1
  obtain ⟨nn, hnn⟩ : ∃ nn, nn = max la lb := ⟨_, rfl⟩
  go_loopg [11] nn (fun k v11 w' => ∃ i : Nat, v11 = .int .i64 i ∧ i + k = nn ∧ ∃ s t a N s2 t2 a2 N2, Hid (Tp W w' p q s t a N p2 q2 s2 t2 a2 N2) ∧ Hid (N ≤ osum (os.take i)) ∧ Hid (N2 ≤ osum (qs.take i)))
  case atStart => exact ⟨0, rfl, by omega, s, t, a, 0, s2, t2, a, 0, HT9, Lib.hid (Nat.zero_le _), Lib.hid (Nat.zero_le _)⟩
  case round =>
    obtain ⟨i, rfl, hik, s, t, a, N, s2, t2, a2, N2, HT, HN, HM⟩ := hrel
    cases gk with
    | zero =>
      have e1 : decide (i < la) = false := by simp; omega
      have e2 : decide (i < lb) = false := by simp; omega
      clear hnn
      go_wp2_with (first
        | (go_at_call 29; go_fit (looks_w HT.out.l); rintro e w8 ⟨rfl, n8, rfl⟩; have HT8 := Lib.hid (HT.out.drewN n8))
        | (go_at_call 29; go_fit (looks_w HT8.out.r); rintro e w7 ⟨rfl, n7, rfl⟩; have HT7 := Lib.hid (HT8.out.drewN n7)))
      go_ret
      exact ⟨rfl, Below.drewN' HT.out.l.l.below _⟩
    | succ k1 =>
      have HNS := Lib.hid (fun ol ho hi => osum_next (ol := ol) hl hi HN.out ho)
      have HMS := Lib.hid (fun ol ho hi => osum_next (ol := ol) gl hi HM.out ho)
      have HNK := Lib.hid (fun hi => osum_stay hl hi HN.out)
      have HMK := Lib.hid (fun hi => osum_stay gl hi HM.out)
      have HOM := Lib.hid (osum_mono os (i + 1))
      have HQM := Lib.hid (osum_mono qs (i + 1))
      by_cases hi : i < la
      · by_cases hj : i < lb
        · as_aux_lemma =>
            have e1 : decide (i < la) = true := by simp [hi]
            obtain ⟨xkb, xoff, rfl, xc0, xc1, xc2, xhk, xhrd⟩ := op_at HR.out hi
            have xHK := Lib.hid xhk
            have xHO := HNS.out _ rfl hi
            obtain ⟨xop, xhop⟩ : ∃ op, op = os.getD i O0 := ⟨_, rfl⟩
            rw [← xhop] at xc0 xc1 xc2 xhrd xHO
            clear xhop xhk
            obtain ⟨xk, xn, xA, xl, xc, xds⟩ := xop
            dsimp only at xc0 xc1 xc2
            have xhln := xhrd.1
            have xHS : Hid (N + xl ≤ osum (os.take (i + 1))) := Lib.hid (by have h4 : (ods (xk, xn, xA, xl, xc, xds)).length = xl := xhln; omega)
            have xHRD := Lib.hid xhrd
            have xC0 := Lib.hid xc0
            have xC1 := Lib.hid xc1
            have xC2 := Lib.hid xc2
            clear xhrd xHO xhln xc0 xc1 xc2
            have e2 : decide (i < lb) = true := by simp [hj]
            obtain ⟨ykb, yoff, rfl, yc0, yc1, yc2, yhk, yhrd⟩ := op_at GR.out hj
            have yHK := Lib.hid yhk
            have yHO := HMS.out _ rfl hj
            obtain ⟨yop, yhop⟩ : ∃ op, op = qs.getD i O0 := ⟨_, rfl⟩
            rw [← yhop] at yc0 yc1 yc2 yhrd yHO
            clear yhop yhk
            obtain ⟨yk, yn, yA, yl, yc, yds⟩ := yop
            dsimp only at yc0 yc1 yc2
            have yhln := yhrd.1
            have yHS : Hid (N2 + yl ≤ osum (qs.take (i + 1))) := Lib.hid (by have h4 : (ods (yk, yn, yA, yl, yc, yds)).length = yl := yhln; omega)
            have yHRD := Lib.hid yhrd
            have yC0 := Lib.hid yc0
            have yC1 := Lib.hid yc1
            have yC2 := Lib.hid yc2
            clear yhrd yHO yhln yc0 yc1 yc2
            clear hnn
            have xd0 := (HT.out.l.l.below.cell (p := ⟨xkb, xoff + i * 3, none⟩) xHK.out).trans xC0.out
            have xd1 := (HT.out.l.l.below.cell (p := ⟨xkb, xoff + i * 3 + 1, none⟩) xHK.out).trans xC1.out
            have xd2 := (HT.out.l.l.below.cell (p := ⟨xkb, xoff + i * 3 + 2, none⟩) xHK.out).trans xC2.out
            go_wp2_with (first
              | (go_at_call 30; go_fit (step_w HT.out.l xk xn xA xl xc (ods (xk, xn, xA, xl, xc, xds)) xHRD.out (by have h1 := xHS.out; have h2 := HOM.out; have h3 := HZ.out; omega)); rintro e wT1 ⟨rfl, aT1, MT1, hm, hs⟩; obtain ⟨sT1, tT1, ht⟩ := HT.out.stepL hs; have T1 := Lib.hid ht; have HMT1 := Lib.hid (Nat.le_trans hm xHS.out); clear hm hs ht; have yd0 := (T1.out.l.l.below.cell (p := ⟨ykb, yoff + i * 3, none⟩) yHK.out).trans yC0.out; have yd1 := (T1.out.l.l.below.cell (p := ⟨ykb, yoff + i * 3 + 1, none⟩) yHK.out).trans yC1.out; have yd2 := (T1.out.l.l.below.cell (p := ⟨ykb, yoff + i * 3 + 2, none⟩) yHK.out).trans yC2.out)
              | (go_at_call 30; go_fit (step_w T1.out.r yk yn yA yl yc (ods (yk, yn, yA, yl, yc, yds)) yHRD.out (by have h1 := yHS.out; have h2 := HQM.out; have h3 := GZ.out; omega)); rintro e wT2 ⟨rfl, aT2, MT2, hm, hs⟩; obtain ⟨sT2, tT2, ht⟩ := T1.out.stepR hs; have T2 := Lib.hid ht; have HMT2 := Lib.hid (Nat.le_trans hm yHS.out); clear hm hs ht; skip))
            go_roundg k1
            case measure => omega
            case rel => exact ⟨i + 1, by simp, by omega, _, _, _, _, _, _, _, _, T2, HMT1, HMT2⟩
        · as_aux_lemma =>
            have e1 : decide (i < la) = true := by simp [hi]
            obtain ⟨xkb, xoff, rfl, xc0, xc1, xc2, xhk, xhrd⟩ := op_at HR.out hi
            have xHK := Lib.hid xhk
            have xHO := HNS.out _ rfl hi
            obtain ⟨xop, xhop⟩ : ∃ op, op = os.getD i O0 := ⟨_, rfl⟩
            rw [← xhop] at xc0 xc1 xc2 xhrd xHO
            clear xhop xhk
            obtain ⟨xk, xn, xA, xl, xc, xds⟩ := xop
            dsimp only at xc0 xc1 xc2
            have xhln := xhrd.1
            have xHS : Hid (N + xl ≤ osum (os.take (i + 1))) := Lib.hid (by have h4 : (ods (xk, xn, xA, xl, xc, xds)).length = xl := xhln; omega)
            have xHRD := Lib.hid xhrd
            have xC0 := Lib.hid xc0
            have xC1 := Lib.hid xc1
            have xC2 := Lib.hid xc2
            clear xhrd xHO xhln xc0 xc1 xc2
            have e2 : decide (i < lb) = false := by simp [hj]
            clear hnn
            have xd0 := (HT.out.l.l.below.cell (p := ⟨xkb, xoff + i * 3, none⟩) xHK.out).trans xC0.out
            have xd1 := (HT.out.l.l.below.cell (p := ⟨xkb, xoff + i * 3 + 1, none⟩) xHK.out).trans xC1.out
            have xd2 := (HT.out.l.l.below.cell (p := ⟨xkb, xoff + i * 3 + 2, none⟩) xHK.out).trans xC2.out
            go_wp2_with (go_at_call 30; go_fit (step_w HT.out.l xk xn xA xl xc (ods (xk, xn, xA, xl, xc, xds)) xHRD.out (by have h1 := xHS.out; have h2 := HOM.out; have h3 := HZ.out; omega)); rintro e wT1 ⟨rfl, aT1, MT1, hm, hs⟩; obtain ⟨sT1, tT1, ht⟩ := HT.out.stepL hs; have T1 := Lib.hid ht; have HMT1 := Lib.hid (Nat.le_trans hm xHS.out); clear hm hs ht; skip)
            go_roundg k1
            case measure => omega
            case rel => exact ⟨i + 1, by simp, by omega, _, _, _, _, _, _, _, _, T1, HMT1, (Lib.hid (HMK.out hj))⟩
      · by_cases hj : i < lb
        · as_aux_lemma =>
            have e1 : decide (i < la) = false := by simp [hi]
            have e2 : decide (i < lb) = true := by simp [hj]
            obtain ⟨ykb, yoff, rfl, yc0, yc1, yc2, yhk, yhrd⟩ := op_at GR.out hj
            have yHK := Lib.hid yhk
            have yHO := HMS.out _ rfl hj
            obtain ⟨yop, yhop⟩ : ∃ op, op = qs.getD i O0 := ⟨_, rfl⟩
            rw [← yhop] at yc0 yc1 yc2 yhrd yHO
            clear yhop yhk
            obtain ⟨yk, yn, yA, yl, yc, yds⟩ := yop
            dsimp only at yc0 yc1 yc2
            have yhln := yhrd.1
            have yHS : Hid (N2 + yl ≤ osum (qs.take (i + 1))) := Lib.hid (by have h4 : (ods (yk, yn, yA, yl, yc, yds)).length = yl := yhln; omega)
            have yHRD := Lib.hid yhrd
            have yC0 := Lib.hid yc0
            have yC1 := Lib.hid yc1
            have yC2 := Lib.hid yc2
            clear yhrd yHO yhln yc0 yc1 yc2
            clear hnn
            have yd0 := (HT.out.l.l.below.cell (p := ⟨ykb, yoff + i * 3, none⟩) yHK.out).trans yC0.out
            have yd1 := (HT.out.l.l.below.cell (p := ⟨ykb, yoff + i * 3 + 1, none⟩) yHK.out).trans yC1.out
            have yd2 := (HT.out.l.l.below.cell (p := ⟨ykb, yoff + i * 3 + 2, none⟩) yHK.out).trans yC2.out
            go_wp2_with (go_at_call 30; go_fit (step_w HT.out.r yk yn yA yl yc (ods (yk, yn, yA, yl, yc, yds)) yHRD.out (by have h1 := yHS.out; have h2 := HQM.out; have h3 := GZ.out; omega)); rintro e wT2 ⟨rfl, aT2, MT2, hm, hs⟩; obtain ⟨sT2, tT2, ht⟩ := HT.out.stepR hs; have T2 := Lib.hid ht; have HMT2 := Lib.hid (Nat.le_trans hm yHS.out); clear hm hs ht; skip)
            go_roundg k1
            case measure => omega
            case rel => exact ⟨i + 1, by simp, by omega, _, _, _, _, _, _, _, _, T2, (Lib.hid (HNK.out hi)), HMT2⟩
        · exfalso
          omega
end Log
end Go.Proofs.YtkpcnfchhnfpoaaDoor
/- LogPlays, as its row wants it. -/
set_option linter.unusedVariables false
namespace Go.Proofs.YtkpcnfchhnfpoaaDoor
open Go.RowKit Go.Proofs.YtkpcnfchhnfpoaaDoor.Sep Log
namespace Log
theorem plays_row (W : World) (n : Int) {X : Prop} (hn : X) {H : Type}
    (A : Option Addr) (l c : Nat) (us : List (OpV × DataW H)) (hr : ReadsO W W.heap.size A l (us.map (·.1))) (hc : l ≤ c) (ho : ∀ u ∈ us, oOk W u) (y : l * 40 ≤ reachBytes) (hl : us.length = l) {d : DataW H} (hd : (l = 0 ∧ d = .nil) ∨ ∃ sp, d = .slice (us.map (·.2)) sp) (hb : Rows.uptoBulk d ≤ 1048576)
    (B : Option Addr) (m e : Nat) (vs : List (OpV × DataW H)) (gr : ReadsO W W.heap.size B m (vs.map (·.1))) (gc : m ≤ e) (go : ∀ u ∈ vs, oOk W u) (gy : m * 40 ≤ reachBytes) (gl : vs.length = m) {f : DataW H} (gd : (m = 0 ∧ f = .nil) ∨ ∃ sp, f = .slice (vs.map (·.2)) sp) (gb : Rows.uptoBulk f ≤ 1048576) :
    Calls Tryd.prog 7 #[.int .i64 n, .slice A l c, .slice B m e] W fun e W' => e = .returned (.bool true) ∧ Below W.heap.size W W' := by
  refine plays_w W n A l c _ hr ?_ B m e _ gr ?_
  · have h := bulk_ops hl ho hd hb
    omega
  · have h := bulk_ops gl go gd gb
    omega
end Log
end Go.Proofs.YtkpcnfchhnfpoaaDoor
