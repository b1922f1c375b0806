/- The law's helpers: agree, play. -/
import Derived.Test.YtlflohbpdapiiaaDoorPlay
import Derived.Deep.RegionHeld3
set_option linter.unusedVariables false
namespace Go.Proofs.YtlflohbpdapiiaaDoor
open Go.RowKit Go.Proofs.YtlflohbpdapiiaaDoorW.PrintWords Go.Proofs.YtlflohbpdapiiaaDoor.Sep Go.Proofs.YtlflohbpdapiiaaDoor.Libs
open Go.Proofs.YtlflohbpdapiiaaDoor.Ring (RS foot joined)
namespace Both

/-- A ring of the program and one of the document, in new memory, apart, in one state. -/
structure Pair (w0 w : World) (b c : Nat) (v u : Value) (s : RS) : Prop where
  p : PAt w b v s
  r : RAt w c u s
  inv : Inv s
  apart : ∀ k, foot b v k → ¬ foot c u k
  newp : ∀ k, foot b v k → w0.heap.size ≤ k
  newr : ∀ k, foot c u k → w0.heap.size ≤ k
  below : Below w0.heap.size w0 w
section
variable {w0 w w' : World} {b c : Nat} {v u v' u' : Value} {s s' : RS}
theorem Pair.later (h : Pair w0 w b c v u s) (hb : Below w.heap.size w w') : Pair w0 w' b c v u s :=
  ⟨h.p.upd (Upd.below hb No) (fun _ _ h => h), h.r.upd (Upd.below hb No) (fun _ _ h => h), h.inv, h.apart, h.newp, h.newr, h.below.trans (hb.mono h.below.size)⟩
/-- The program's ring has gone a step. -/
structure Half (w0 w : World) (b c : Nat) (v u : Value) (s s' : RS) : Prop where
  p : PAt w b v s'
  r : RAt w c u s
  inv : Inv s
  inv' : Inv s'
  apart : ∀ k, foot b v k → ¬ foot c u k
  newp : ∀ k, foot b v k → w0.heap.size ≤ k
  newr : ∀ k, foot c u k → w0.heap.size ≤ k
  below : Below w0.heap.size w0 w
theorem Pair.half (h : Pair w0 w b c v u s) (ha : PAt w' b v' s') (hu : Upd (foot b v) w w') (hf : Fr w v v') (hi : Inv s') : Half w0 w' b c v' u s s' :=
  ⟨ha, h.r.upd hu (fun k hk hb => h.apart k hb hk), h.inv, hi, fun k hk hc => (foot_fr hf k hk).elim (fun e => h.apart k e hc) (fun e => by have := h.r.lt k hc; omega),
    fun k hk => (foot_fr hf k hk).elim (h.newp k) (fun e => Nat.le_trans h.below.size e), h.newr, h.below.trans (hu.toBelow h.below.size h.newp)⟩
theorem Half.full (h : Half w0 w b c v u s s') (ha : RAt w' c u' s') (hu : Upd (foot c u) w w') (hf : Fr w u u') : Pair w0 w' b c v u' s' :=
  ⟨h.p.upd hu (fun k hk hc => h.apart k hk hc), ha, h.inv', fun k hk hc => (foot_fr hf k hc).elim (fun e => h.apart k hk e) (fun e => by have := h.p.lt k hk; omega),
    h.newp, fun k hk => (foot_fr hf k hk).elim (h.newr k) (fun e => Nat.le_trans h.below.size e), h.below.trans (hu.toBelow h.below.size h.newr)⟩
end

set_option maxHeartbeats 1600000 in
theorem agree {w0 w : World} {b c : Nat} {v u : Value} {s : RS} (h : Pair w0 w b c v u s) : Calls Tryd.prog 22 #[.pointer (some ⟨b, 0, none⟩), .pointer (some ⟨c, 0, none⟩)] w fun e w' => e = .returned (.bool true) ∧ Below w.heap.size w w' := by
  have HP := Lib.hid h.p
  have HR := Lib.hid h.r
  have HI := Lib.hid h.inv
  have HN : Hid (s.ents.length ≤ 100000) := Lib.hid (by have := h.inv.len; have := h.inv.b1; omega)
  clear h
  go_enter Tryd.func22, Tryd.ntmps22
  go_wp2_with (first
    | (go_at_call 19; refine (bound_p _ _ _ _ HP.out).mono ?_; rintro e w1 ⟨rfl, rfl⟩)
    | (go_at_call 30; refine (bound_r _ _ _ _ HR.out).mono ?_; rintro e w1 ⟨rfl, rfl⟩)
    | (go_at_call 25; refine (len_p _ _ _ _ HP.out).mono ?_; rintro e w1 ⟨rfl, rfl⟩)
    | (go_at_call 31; refine (len_r _ _ _ _ HR.out).mono ?_; rintro e w1 ⟨rfl, rfl⟩)
    | (go_at_call 15; refine (killing_p _ _ _ _ HP.out).mono ?_; rintro e w1 ⟨rfl, rfl⟩)
    | (go_at_call 32; refine (killing_r _ _ _ _ HR.out).mono ?_; rintro e w1 ⟨rfl, rfl⟩)
    | (go_at_call 26; refine (yanking_p _ _ _ _ HP.out).mono ?_; rintro e w1 ⟨rfl, rfl⟩)
    | (go_at_call 33; refine (yanking_r _ _ _ _ HR.out).mono ?_; rintro e w1 ⟨rfl, rfl⟩)
    | (go_at_call 12; refine (all_p _ _ _ _ HP.out HI.out).mono ?_; rintro e w1 ⟨l1, rfl, ho1, hk1, hb1⟩; have HO1 := Lib.hid ho1; have HB1 := Lib.hid hb1; have HR1 := Lib.hid (HR.out.upd (Upd.below hb1 No) (fun _ _ h => h)); clear ho1 hk1 hb1)
    | (go_at_call 34; refine (all_r _ _ _ _ HR1.out HI.out).mono ?_; rintro e w2 ⟨l2, rfl, ho2, hk2, hb2⟩; have HO2 := Lib.hid ho2; have HB2 := Lib.hid (HB1.out.trans (hb2.mono HB1.out.size)); have HO1' := Lib.hid (HO1.out.upd (Upd.below hb2 No) (fun _ _ h => h)); clear ho2 hk2 hb2)
    | (go_at_call 14; refine (Ref.same _ _ _ _ _ HO1'.out HO2.out HN.out).mono ?_; rintro e w3 ⟨rfl, ⟨m, rfl⟩⟩; have hd : decide (s.ents = s.ents) = true := decide_eq_true rfl))
  go_ret
  exact ⟨(by simp), HB2.out.os, HB2.out.tape, HB2.out.output, HB2.out.size, HB2.out.block⟩
end Both
end Go.Proofs.YtlflohbpdapiiaaDoor
