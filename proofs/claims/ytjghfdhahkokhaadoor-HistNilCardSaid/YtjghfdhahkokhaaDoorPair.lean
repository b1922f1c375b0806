/- Both histories side by side: seen. -/
import Derived.Test.YtjghfdhahkokhaaDoorRefH2
set_option linter.unusedVariables false
namespace Go.Proofs.YtjghfdhahkokhaaDoor
open Go.RowKit Go.Proofs.YtjghfdhahkokhaaDoorW.PrintWords Go.Proofs.YtjghfdhahkokhaaDoor.Sep Go.Proofs.YtjghfdhahkokhaaDoor.Libs
namespace Hist
/-- The program's history in state s, the document's in state t, apart, in memory newer than w0. -/
structure Pair (w0 w : World) (b c : Nat) (r : Pr) (q : RefH.Pr) (s t : HS) : Prop where
  p : At w b r s
  d : RefH.At w c q t
  pi : Inv s
  di : Inv t
  apart : ∀ k, foot b r k → ¬ RefH.foot c q k
  pn : ∀ k, foot b r k → w0.heap.size ≤ k
  dn : ∀ k, RefH.foot c q k → w0.heap.size ≤ k
  below : Below w0.heap.size w0 w
section
variable {w0 w w' : World} {b c : Nat} {r r' : Pr} {q q' : RefH.Pr} {s s' t t' : HS}
theorem Pair.pstep (h : Pair w0 w b c r q s t) (ha : At w' b r' s') (hu : Upd (foot b r) w w') (hf : Fr w b r r') (hi : Inv s') : Pair w0 w' b c r' q s' t :=
  ⟨ha, h.d.upd hu (fun k hk hx => h.apart k hx hk), hi, h.di, fun k hk hx => (hf k hk).elim (fun e => h.apart k e hx) (fun e => by have := h.d.lt k hx; omega), fun k hk => (hf k hk).elim (h.pn k) (fun e => Nat.le_trans h.below.size e), h.dn, h.below.trans (hu.toBelow h.below.size h.pn)⟩
theorem Pair.dstep (h : Pair w0 w b c r q s t) (ha : RefH.At w' c q' t') (hu : Upd (RefH.foot c q) w w') (hf : RefH.Fr w c q q') (hi : Inv t') : Pair w0 w' b c r q' s t' :=
  ⟨h.p.upd hu (fun k hk hx => h.apart k hk hx), ha, h.pi, hi, fun k hk hx => (hf k hx).elim (fun e => h.apart k hk e) (fun e => by have := h.p.lt k hk; omega), h.pn, fun k hk => (hf k hk).elim (h.dn k) (fun e => Nat.le_trans h.below.size e), h.below.trans (hu.toBelow h.below.size h.dn)⟩
theorem Pair.later (h : Pair w0 w b c r q s t) (hb : Below w.heap.size w w') : Pair w0 w' b c r q s t :=
  ⟨h.p.upd (Upd.below hb No) (fun _ _ h => h), h.d.upd (Upd.below hb No) (fun _ _ h => h), h.pi, h.di, h.apart, h.pn, h.dn, h.below.trans (hb.mono h.below.size)⟩
theorem Pair.drewN (h : Pair w0 w b c r q s t) (n : Nat) : Pair w0 (w.drewN n) b c r q s t := ⟨h.p, h.d, h.pi, h.di, h.apart, h.pn, h.dn, ⟨h.below.os, h.below.tape, h.below.output, h.below.size, h.below.block⟩⟩
theorem Pair.beside {S : Nat → Prop} (h : Pair w0 w b c r q s t) (hu : Upd S w w') (hd : ∀ k, S k → w0.heap.size ≤ k ∧ ¬ foot b r k ∧ ¬ RefH.foot c q k) : Pair w0 w' b c r q s t :=
  ⟨h.p.upd hu (fun k hk hs => (hd k hs).2.1 hk), h.d.upd hu (fun k hk hs => (hd k hs).2.2 hk), h.pi, h.di, h.apart, h.pn, h.dn, h.below.trans (hu.toBelow h.below.size (fun k hk => (hd k hk).1))⟩
theorem Pair.rebase {w00 : World} (h : Pair w0 w b c r q s t) (hb : Below w00.heap.size w00 w0) : Pair w00 w b c r q s t :=
  ⟨h.p, h.d, h.pi, h.di, h.apart, fun k hk => Nat.le_trans hb.size (h.pn k hk), fun k hk => Nat.le_trans hb.size (h.dn k hk), hb.trans (h.below.mono hb.size)⟩
/-- What both leave elsewhere. -/
def foots (b c : Nat) (r : Pr) (q : RefH.Pr) : Nat → Prop := fun k => foot b r k ∨ RefH.foot c q k
set_option maxHeartbeats 1600000 in
theorem seen (h : Pair w0 w b c r q s s) : Calls Tryd.prog 27 #[.pointer (some ⟨b, 0, none⟩), .pointer (some ⟨c, 0, none⟩)] w fun e w' => e = .returned (.bool true) ∧ Below w.heap.size w w' := by
  have hl1 := h.pi.l1
  have H := Lib.hid h
  clear h
  go_enter Tryd.func27, Tryd.ntmps27
  go_wp2_with (first
    | (go_at_call 18; refine (len _ _ _ _ H.out.p).mono ?_; rintro e w1 ⟨rfl, rfl⟩)
    | (go_at_call 36; refine (RefH.len H.out.d).mono ?_; rintro e w1 ⟨rfl, rfl⟩)
    | (go_at_call 14; refine (place _ _ _ _ H.out.p).mono ?_; rintro e w1 ⟨rfl, rfl⟩)
    | (go_at_call 37; refine (RefH.place H.out.d).mono ?_; rintro e w1 ⟨rfl, rfl⟩)
    | (go_at_call 20; refine (drafts _ _ _ _ H.out.p).mono ?_; rintro e w1 ⟨rfl, rfl⟩)
    | (go_at_call 38; refine (RefH.drafts H.out.d).mono ?_; rintro e w1 ⟨rfl, rfl⟩)
    | (go_at_call 28; refine (bound _ _ _ _ H.out.p).mono ?_; rintro e w1 ⟨rfl, rfl⟩)
    | (go_at_call 39; refine (RefH.bound H.out.d).mono ?_; rintro e w1 ⟨rfl, rfl⟩)
    | (go_at_call 12; refine (entries _ _ _ _ H.out.p (by omega)).mono ?_; rintro e w2 ⟨l2, rfl, ho, hk, hb⟩; obtain ⟨B2, d2, rfl, hd2⟩ := ho.form; have HO := Lib.hid ho; have HB := Lib.hid hb; have H2 := Lib.hid (H.out.later hb); clear ho hk hb)
    | (go_at_call 26; refine (RefH.entries H2.out.d (by omega)).mono ?_; rintro e w3 ⟨l3, rfl, ho, hk, hb⟩; obtain ⟨B3, d3, rfl, hd3⟩ := ho.form; have HO3 := Lib.hid ho; have HB3 := Lib.hid hb; have HO2 := Lib.hid (HO.out.upd (Upd.below hb No) (fun _ _ h => h)); clear ho hk hb)
    | (go_at_call 16; refine (same_r _ _ _ _ _ _ _ _ _ s.ents s.ents (own_reads HO2.out) (own_reads HO3.out) hd2 hd3 (by omega)).mono ?_; rintro e w4 ⟨rfl, hd6⟩; have HD := Lib.hid hd6.below; clear hd6))
  go_ret
  exact ⟨by simp, HB.out.trans ((HB3.out.trans (HD.out.mono HB3.out.size)).mono HB.out.size)⟩
theorem new_pair {w0 w : World} (n : Int) (hb : Below w0.heap.size w0 w) (hp : HB w0 w b r0 (start n)) : Calls Tryd.prog 23 #[.int .i64 n] w fun e w' => ∃ c, e = .returned (.pointer (some ⟨c, 0, none⟩)) ∧ Pair w0 w' b c r0 RefH.r0 (start n) (start n) := by
  refine (RefH.new w n).mono ?_
  rintro e w' ⟨c, rfl, ha, hk, hw⟩
  have hp' := hp.later hw
  refine ⟨c, rfl, hp'.at_, ha, hp.inv, hp.inv, fun k hk1 hk2 => ?_, hp.new, fun k hk2 => ?_, hp'.below⟩
  · have h1 := hp.at_.lt k hk1
    rcases hk2 with rfl | h2 | h2
    · omega
    · simp [RefH.r0, Value.ownBlock] at h2
    · simp [RefH.r0, Value.ownBlock] at h2
  · rcases hk2 with rfl | h2 | h2
    · exact Nat.le_trans hb.size hk
    · simp [RefH.r0, Value.ownBlock] at h2
    · simp [RefH.r0, Value.ownBlock] at h2
end
end Hist
end Go.Proofs.YtjghfdhahkokhaaDoor
