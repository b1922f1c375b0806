/- One call of both histories. Printed by a program of this claim. -/
import Derived.Test.YtjghfdhahkokhaaDoorKeepsH
import Derived.Test.YtjghfdhahkokhaaDoorRefFind
import Derived.Test.YtjghfdhahkokhaaDoorWalksH
set_option linter.unusedVariables false
namespace Go.Proofs.YtjghfdhahkokhaaDoor
open Go.RowKit Go.Proofs.YtjghfdhahkokhaaDoorW.PrintWords Go.Proofs.YtjghfdhahkokhaaDoor.Sep Go.Proofs.YtjghfdhahkokhaaDoor.Libs
namespace Hist
abbrev OpV := Int × ByteArray × Int
def stp (s : HS) (k : Int) (t : ByteArray) (n : Int) : HS :=
  if k = 1 then add s t else if k = 2 then back s t else if k = 3 then forth s t else if k = 4 then go s n t else if k = 6 then homed s else s
def Sm (s : HS) : Prop := ∀ i, i < s.ents.length → (s.ents.getD i E).size ≤ 1000000000000000
section
variable {w0 w w' : World} {b c : Nat} {r r' : Pr} {q q' : RefH.Pr} {s s' t t' : HS}
theorem padd2 (x : ByteArray) (h : Pair w0 w b c r q s t) (T : Bool) (hT : takes s x = T) : Calls Tryd.prog 24 #[.pointer (some ⟨b, 0, none⟩), .string x] w fun e w' => e = .returned (.bool T) ∧ ∃ r', Pair w0 w' b c r' q (add s x) t ∧ Upd (foot b r) w w' ∧ Fr w b r r' := by
  subst hT
  refine (add_ h.p h.pi x).mono ?_
  rintro e w' ⟨rfl, r', ha, hu, hf⟩
  exact ⟨rfl, r', h.pstep ha hu hf (h.pi.add x), hu, hf⟩
theorem dadd2 (x : ByteArray) (h : Pair w0 w b c r q s t) (T : Bool) (hT : takes t x = T) : Calls Tryd.prog 25 #[.pointer (some ⟨c, 0, none⟩), .string x] w fun e w' => e = .returned (.bool T) ∧ ∃ q', Pair w0 w' b c r q' s (add t x) ∧ Upd (RefH.foot c q) w w' ∧ RefH.Fr w c q q' := by
  subst hT
  refine (RefH.add_ h.d h.di x).mono ?_
  rintro e w' ⟨rfl, q', ha, hu, hf⟩
  exact ⟨rfl, q', h.dstep ha hu hf (h.di.add x), hu, hf⟩
/-- Both footprints grow by new blocks only. -/
def Frs (w : World) (b c : Nat) (r : Pr) (q : RefH.Pr) (r' : Pr) (q' : RefH.Pr) : Prop := ∀ k, foots b c r' q' k → foots b c r q k ∨ w.heap.size ≤ k
theorem Frs.same (w : World) (b c : Nat) (r : Pr) (q : RefH.Pr) : Frs w b c r q r q := fun k h => .inl h
theorem Frs.both {wa w1 : World} (h1 : Fr wa b r r') (h2 : RefH.Fr w1 c q q') (hs1 : w.heap.size ≤ wa.heap.size) (hs2 : w.heap.size ≤ w1.heap.size) : Frs w b c r q r' q' := fun k hk => by
  rcases hk with hk | hk
  · exact (h1 k hk).elim (fun e => .inl (.inl e)) (fun e => .inr (Nat.le_trans hs1 e))
  · exact (h2 k hk).elim (fun e => .inl (.inr e)) (fun e => .inr (Nat.le_trans hs2 e))
theorem pback (x : ByteArray) (h : Pair w0 w b c r q s t) : Calls Tryd.prog 13 #[.pointer (some ⟨b, 0, none⟩), .string x] w fun e w' => e = .returned (.tuple #[.string (backT s x), .int .i64 (backE s)]) ∧ ∃ r', Pair w0 w' b c r' q (back s x) t ∧ Upd (foot b r) w w' ∧ Fr w b r r' := by
  refine (back_ h.p h.pi x).mono ?_
  rintro e w' ⟨rfl, r', ha, hu, hf⟩
  exact ⟨rfl, r', h.pstep ha hu hf (h.pi.back x), hu, hf⟩
theorem dback (x : ByteArray) (h : Pair w0 w b c r q s t) : Calls Tryd.prog 41 #[.pointer (some ⟨c, 0, none⟩), .string x] w fun e w' => e = .returned (.tuple #[.string (backT t x), .int .i64 (backE t)]) ∧ ∃ q', Pair w0 w' b c r q' s (back t x) ∧ Upd (RefH.foot c q) w w' ∧ RefH.Fr w c q q' := by
  refine (RefH.back_ h.d h.di x).mono ?_
  rintro e w' ⟨rfl, q', ha, hu, hf⟩
  exact ⟨rfl, q', h.dstep ha hu hf (h.di.back x), hu, hf⟩
theorem pforth (x : ByteArray) (h : Pair w0 w b c r q s t) : Calls Tryd.prog 15 #[.pointer (some ⟨b, 0, none⟩), .string x] w fun e w' => e = .returned (.tuple #[.string (forthT s x), .int .i64 (forthE s)]) ∧ ∃ r', Pair w0 w' b c r' q (forth s x) t ∧ Upd (foot b r) w w' ∧ Fr w b r r' := by
  refine (forth_ h.p h.pi x).mono ?_
  rintro e w' ⟨rfl, r', ha, hu, hf⟩
  exact ⟨rfl, r', h.pstep ha hu hf (h.pi.forth x), hu, hf⟩
theorem dforth (x : ByteArray) (h : Pair w0 w b c r q s t) : Calls Tryd.prog 42 #[.pointer (some ⟨c, 0, none⟩), .string x] w fun e w' => e = .returned (.tuple #[.string (forthT t x), .int .i64 (forthE t)]) ∧ ∃ q', Pair w0 w' b c r q' s (forth t x) ∧ Upd (RefH.foot c q) w w' ∧ RefH.Fr w c q q' := by
  refine (RefH.forth_ h.d h.di x).mono ?_
  rintro e w' ⟨rfl, q', ha, hu, hf⟩
  exact ⟨rfl, q', h.dstep ha hu hf (h.di.forth x), hu, hf⟩
theorem pgo (p : Int) (x : ByteArray) (h : Pair w0 w b c r q s t) : Calls Tryd.prog 19 #[.pointer (some ⟨b, 0, none⟩), .int .i64 p, .string x] w fun e w' => e = .returned (.tuple #[.string (goT s p x), .int .i64 (goE s p)]) ∧ ∃ r', Pair w0 w' b c r' q (go s p x) t ∧ Upd (foot b r) w w' ∧ Fr w b r r' := by
  unfold go goT goE
  by_cases hp : 0 ≤ p ∧ p ≤ (s.ents.length : Int)
  · simp only [if_pos hp]
    refine (go_ h.p h.pi p x hp.1 hp.2).mono ?_
    rintro e w' ⟨rfl, r', ha, hu, hf⟩
    exact ⟨rfl, r', h.pstep ha hu hf (h.pi.gone hp.1 hp.2 x), hu, hf⟩
  · simp only [if_neg hp]
    refine (go_range h.p p x (by omega)).mono ?_
    rintro e w' ⟨rfl, rfl⟩
    exact ⟨rfl, r, h.later ((Below.refl _ _).alloc (Nat.le_refl _) _), (Upd.refl _ _).alloc _, Fr.same _ _ _⟩
theorem dgo (p : Int) (x : ByteArray) (h : Pair w0 w b c r q s t) : Calls Tryd.prog 43 #[.pointer (some ⟨c, 0, none⟩), .int .i64 p, .string x] w fun e w' => e = .returned (.tuple #[.string (goT t p x), .int .i64 (goE t p)]) ∧ ∃ q', Pair w0 w' b c r q' s (go t p x) ∧ Upd (RefH.foot c q) w w' ∧ RefH.Fr w c q q' := by
  unfold go goT goE
  by_cases hp : 0 ≤ p ∧ p ≤ (t.ents.length : Int)
  · simp only [if_pos hp]
    refine (RefH.go_ h.d h.di p x hp.1 hp.2).mono ?_
    rintro e w' ⟨rfl, q', ha, hu, hf⟩
    exact ⟨rfl, q', h.dstep ha hu hf (h.di.gone hp.1 hp.2 x), hu, hf⟩
  · simp only [if_neg hp]
    refine (RefH.go_range h.d p x (by omega)).mono ?_
    rintro e w' ⟨rfl, rfl⟩
    exact ⟨rfl, q, h, Upd.refl _ _, RefH.Fr.same _ _ _⟩
theorem phome (h : Pair w0 w b c r q s t) : Calls Tryd.prog 17 #[.pointer (some ⟨b, 0, none⟩)] w fun e w' => e = .returned (.tuple #[]) ∧ ∃ r', Pair w0 w' b c r' q (homed s) t ∧ Upd (foot b r) w w' ∧ Fr w b r r' := by
  refine (home_u h.p).mono ?_
  rintro e w' ⟨rfl, ha, hu, hf⟩
  exact ⟨rfl, _, h.pstep ha hu hf h.pi.home, hu, hf⟩
theorem dhome (h : Pair w0 w b c r q s t) : Calls Tryd.prog 35 #[.pointer (some ⟨c, 0, none⟩)] w fun e w' => e = .returned (.tuple #[]) ∧ ∃ q', Pair w0 w' b c r q' s (homed t) ∧ Upd (RefH.foot c q) w w' ∧ RefH.Fr w c q q' := by
  refine (RefH.home h.d).mono ?_
  rintro e w' ⟨rfl, ha, hu, hf⟩
  exact ⟨rfl, _, h.dstep ha hu hf h.di.home, hu, hf⟩
set_option maxHeartbeats 3200000 in
theorem step_2 (h : Pair w0 w b c r q s s) (t : ByteArray) (n : Int) :
    Calls Tryd.prog 31 #[.pointer (some ⟨b, 0, none⟩), .pointer (some ⟨c, 0, none⟩), .agg #[.int .i64 2, .string t, .int .i64 n]] w fun e w' => e = .returned (.bool true) ∧ ∃ r' q', Pair w0 w' b c r' q' (back s t) (back s t) ∧ Upd (foots b c r q) w w' ∧ Frs w b c r q r' q' := by
  have hne : ¬ foot b r w.heap.size := fun e => Nat.lt_irrefl _ (h.p.lt _ e)
  have hnu : ¬ RefH.foot c q w.heap.size := fun e => Nat.lt_irrefl _ (h.d.lt _ e)
  have HA := Lib.hid (h.later ((Below.refl w.heap.size w).alloc (Nat.le_refl _) (.cells #[.int .i64 2, .string t, .int .i64 n] 49)))
  have HU0 : Hid (Upd (foots b c r q) w (w.alloc (.cells #[.int .i64 2, .string t, .int .i64 n] 49))) := Lib.hid ((Upd.refl _ w).alloc _)
  have HSZ : Hid (w.heap.size ≤ (w.alloc (.cells #[.int .i64 2, .string t, .int .i64 n] 49)).heap.size) := Lib.hid HU0.out.size
  clear h
  go_enter Tryd.func31, Tryd.ntmps31
  go_wp2_with (first
    | (go_at_call 13; refine (pback t HA.out).mono ?_; rintro e w1 ⟨rfl, r1, hp, hu, hf⟩; have HFa := Lib.hid hf; have d0 := hu.cell (a := ⟨w.heap.size, 0, none⟩) (v := .int .i64 2) (by simp) hne; have d1 := hu.cell (a := ⟨w.heap.size, 1, none⟩) (v := .string t) (by simp) hne; have d2 := hu.cell (a := ⟨w.heap.size, 2, none⟩) (v := .int .i64 n) (by simp) hne; have HPa := Lib.hid hp; have HUa := Lib.hid (HU0.out.then_ hu (fun k hk => .inl (.inl hk))); clear hp hu hf)
    | (go_at_call 41; refine (dback t HPa.out).mono ?_; rintro e w2 ⟨rfl, q2, hp, hu, hf⟩; have HFb := Lib.hid (Frs.both (w := w) HFa.out hf HSZ.out HUa.out.size); have HPb := Lib.hid hp; have HUb := Lib.hid (HUa.out.then_ hu (fun k hk => .inl (.inr hk))); have e0 := hu.cell d0 hnu; have e1 := hu.cell d1 hnu; have e2 := hu.cell d2 hnu; clear hp hu hf)
    | (go_at_call 27; refine (seen HPb.out).mono ?_; rintro e w9 ⟨rfl, hb⟩; have HPc := Lib.hid (HPb.out.later hb); have HUc := Lib.hid (HUb.out.then_ (Upd.below hb No) (fun k hk => hk.elim)); clear hb))
  go_ret
  exact ⟨(by simp), _, _, HPc.out, HUc.out, HFb.out⟩
set_option maxHeartbeats 3200000 in
theorem step_3 (h : Pair w0 w b c r q s s) (t : ByteArray) (n : Int) :
    Calls Tryd.prog 31 #[.pointer (some ⟨b, 0, none⟩), .pointer (some ⟨c, 0, none⟩), .agg #[.int .i64 3, .string t, .int .i64 n]] w fun e w' => e = .returned (.bool true) ∧ ∃ r' q', Pair w0 w' b c r' q' (forth s t) (forth s t) ∧ Upd (foots b c r q) w w' ∧ Frs w b c r q r' q' := by
  have hne : ¬ foot b r w.heap.size := fun e => Nat.lt_irrefl _ (h.p.lt _ e)
  have hnu : ¬ RefH.foot c q w.heap.size := fun e => Nat.lt_irrefl _ (h.d.lt _ e)
  have HA := Lib.hid (h.later ((Below.refl w.heap.size w).alloc (Nat.le_refl _) (.cells #[.int .i64 3, .string t, .int .i64 n] 49)))
  have HU0 : Hid (Upd (foots b c r q) w (w.alloc (.cells #[.int .i64 3, .string t, .int .i64 n] 49))) := Lib.hid ((Upd.refl _ w).alloc _)
  have HSZ : Hid (w.heap.size ≤ (w.alloc (.cells #[.int .i64 3, .string t, .int .i64 n] 49)).heap.size) := Lib.hid HU0.out.size
  clear h
  go_enter Tryd.func31, Tryd.ntmps31
  go_wp2_with (first
    | (go_at_call 15; refine (pforth t HA.out).mono ?_; rintro e w1 ⟨rfl, r1, hp, hu, hf⟩; have HFa := Lib.hid hf; have d0 := hu.cell (a := ⟨w.heap.size, 0, none⟩) (v := .int .i64 3) (by simp) hne; have d1 := hu.cell (a := ⟨w.heap.size, 1, none⟩) (v := .string t) (by simp) hne; have d2 := hu.cell (a := ⟨w.heap.size, 2, none⟩) (v := .int .i64 n) (by simp) hne; have HPa := Lib.hid hp; have HUa := Lib.hid (HU0.out.then_ hu (fun k hk => .inl (.inl hk))); clear hp hu hf)
    | (go_at_call 42; refine (dforth t HPa.out).mono ?_; rintro e w2 ⟨rfl, q2, hp, hu, hf⟩; have HFb := Lib.hid (Frs.both (w := w) HFa.out hf HSZ.out HUa.out.size); have HPb := Lib.hid hp; have HUb := Lib.hid (HUa.out.then_ hu (fun k hk => .inl (.inr hk))); have e0 := hu.cell d0 hnu; have e1 := hu.cell d1 hnu; have e2 := hu.cell d2 hnu; clear hp hu hf)
    | (go_at_call 27; refine (seen HPb.out).mono ?_; rintro e w9 ⟨rfl, hb⟩; have HPc := Lib.hid (HPb.out.later hb); have HUc := Lib.hid (HUb.out.then_ (Upd.below hb No) (fun k hk => hk.elim)); clear hb))
  go_ret
  exact ⟨(by simp), _, _, HPc.out, HUc.out, HFb.out⟩
set_option maxHeartbeats 3200000 in
theorem step_4 (h : Pair w0 w b c r q s s) (t : ByteArray) (n : Int) :
    Calls Tryd.prog 31 #[.pointer (some ⟨b, 0, none⟩), .pointer (some ⟨c, 0, none⟩), .agg #[.int .i64 4, .string t, .int .i64 n]] w fun e w' => e = .returned (.bool true) ∧ ∃ r' q', Pair w0 w' b c r' q' (go s n t) (go s n t) ∧ Upd (foots b c r q) w w' ∧ Frs w b c r q r' q' := by
  have hne : ¬ foot b r w.heap.size := fun e => Nat.lt_irrefl _ (h.p.lt _ e)
  have hnu : ¬ RefH.foot c q w.heap.size := fun e => Nat.lt_irrefl _ (h.d.lt _ e)
  have HA := Lib.hid (h.later ((Below.refl w.heap.size w).alloc (Nat.le_refl _) (.cells #[.int .i64 4, .string t, .int .i64 n] 49)))
  have HU0 : Hid (Upd (foots b c r q) w (w.alloc (.cells #[.int .i64 4, .string t, .int .i64 n] 49))) := Lib.hid ((Upd.refl _ w).alloc _)
  have HSZ : Hid (w.heap.size ≤ (w.alloc (.cells #[.int .i64 4, .string t, .int .i64 n] 49)).heap.size) := Lib.hid HU0.out.size
  clear h
  go_enter Tryd.func31, Tryd.ntmps31
  go_wp2_with (first
    | (go_at_call 19; refine (pgo n t HA.out).mono ?_; rintro e w1 ⟨rfl, r1, hp, hu, hf⟩; have HFa := Lib.hid hf; have d0 := hu.cell (a := ⟨w.heap.size, 0, none⟩) (v := .int .i64 4) (by simp) hne; have d1 := hu.cell (a := ⟨w.heap.size, 1, none⟩) (v := .string t) (by simp) hne; have d2 := hu.cell (a := ⟨w.heap.size, 2, none⟩) (v := .int .i64 n) (by simp) hne; have HPa := Lib.hid hp; have HUa := Lib.hid (HU0.out.then_ hu (fun k hk => .inl (.inl hk))); clear hp hu hf)
    | (go_at_call 43; refine (dgo n t HPa.out).mono ?_; rintro e w2 ⟨rfl, q2, hp, hu, hf⟩; have HFb := Lib.hid (Frs.both (w := w) HFa.out hf HSZ.out HUa.out.size); have HPb := Lib.hid hp; have HUb := Lib.hid (HUa.out.then_ hu (fun k hk => .inl (.inr hk))); have e0 := hu.cell d0 hnu; have e1 := hu.cell d1 hnu; have e2 := hu.cell d2 hnu; clear hp hu hf)
    | (go_at_call 27; refine (seen HPb.out).mono ?_; rintro e w9 ⟨rfl, hb⟩; have HPc := Lib.hid (HPb.out.later hb); have HUc := Lib.hid (HUb.out.then_ (Upd.below hb No) (fun k hk => hk.elim)); clear hb))
  go_ret
  exact ⟨(by simp), _, _, HPc.out, HUc.out, HFb.out⟩
set_option maxHeartbeats 3200000 in
theorem step_6 (h : Pair w0 w b c r q s s) (t : ByteArray) (n : Int) :
    Calls Tryd.prog 31 #[.pointer (some ⟨b, 0, none⟩), .pointer (some ⟨c, 0, none⟩), .agg #[.int .i64 6, .string t, .int .i64 n]] w fun e w' => e = .returned (.bool true) ∧ ∃ r' q', Pair w0 w' b c r' q' (homed s) (homed s) ∧ Upd (foots b c r q) w w' ∧ Frs w b c r q r' q' := by
  have hne : ¬ foot b r w.heap.size := fun e => Nat.lt_irrefl _ (h.p.lt _ e)
  have hnu : ¬ RefH.foot c q w.heap.size := fun e => Nat.lt_irrefl _ (h.d.lt _ e)
  have HA := Lib.hid (h.later ((Below.refl w.heap.size w).alloc (Nat.le_refl _) (.cells #[.int .i64 6, .string t, .int .i64 n] 49)))
  have HU0 : Hid (Upd (foots b c r q) w (w.alloc (.cells #[.int .i64 6, .string t, .int .i64 n] 49))) := Lib.hid ((Upd.refl _ w).alloc _)
  have HSZ : Hid (w.heap.size ≤ (w.alloc (.cells #[.int .i64 6, .string t, .int .i64 n] 49)).heap.size) := Lib.hid HU0.out.size
  clear h
  go_enter Tryd.func31, Tryd.ntmps31
  go_wp2_with (first
    | (go_at_call 17; refine (phome HA.out).mono ?_; rintro e w1 ⟨rfl, r1, hp, hu, hf⟩; have HFa := Lib.hid hf; have d0 := hu.cell (a := ⟨w.heap.size, 0, none⟩) (v := .int .i64 6) (by simp) hne; have d1 := hu.cell (a := ⟨w.heap.size, 1, none⟩) (v := .string t) (by simp) hne; have d2 := hu.cell (a := ⟨w.heap.size, 2, none⟩) (v := .int .i64 n) (by simp) hne; have HPa := Lib.hid hp; have HUa := Lib.hid (HU0.out.then_ hu (fun k hk => .inl (.inl hk))); clear hp hu hf)
    | (go_at_call 35; refine (dhome HPa.out).mono ?_; rintro e w2 ⟨rfl, q2, hp, hu, hf⟩; have HFb := Lib.hid (Frs.both (w := w) HFa.out hf HSZ.out HUa.out.size); have HPb := Lib.hid hp; have HUb := Lib.hid (HUa.out.then_ hu (fun k hk => .inl (.inr hk))); have e0 := hu.cell d0 hnu; have e1 := hu.cell d1 hnu; have e2 := hu.cell d2 hnu; clear hp hu hf)
    | (go_at_call 27; refine (seen HPb.out).mono ?_; rintro e w9 ⟨rfl, hb⟩; have HPc := Lib.hid (HPb.out.later hb); have HUc := Lib.hid (HUb.out.then_ (Upd.below hb No) (fun k hk => hk.elim)); clear hb))
  go_ret
  exact ⟨(by simp), _, _, HPc.out, HUc.out, HFb.out⟩
set_option maxHeartbeats 3200000 in
theorem step_1 (h : Pair w0 w b c r q s s) (t : ByteArray) (n : Int) :
    Calls Tryd.prog 31 #[.pointer (some ⟨b, 0, none⟩), .pointer (some ⟨c, 0, none⟩), .agg #[.int .i64 1, .string t, .int .i64 n]] w fun e w' => e = .returned (.bool true) ∧ ∃ r' q', Pair w0 w' b c r' q' (add s t) (add s t) ∧ Upd (foots b c r q) w w' ∧ Frs w b c r q r' q' := by
  have hne : ¬ foot b r w.heap.size := fun e => Nat.lt_irrefl _ (h.p.lt _ e)
  have hnu : ¬ RefH.foot c q w.heap.size := fun e => Nat.lt_irrefl _ (h.d.lt _ e)
  have HA := Lib.hid (h.later ((Below.refl w.heap.size w).alloc (Nat.le_refl _) (.cells #[.int .i64 1, .string t, .int .i64 n] 49)))
  have HU0 : Hid (Upd (foots b c r q) w (w.alloc (.cells #[.int .i64 1, .string t, .int .i64 n] 49))) := Lib.hid ((Upd.refl _ w).alloc _)
  have HSZ : Hid (w.heap.size ≤ (w.alloc (.cells #[.int .i64 1, .string t, .int .i64 n] 49)).heap.size) := Lib.hid HU0.out.size
  clear h
  have HAd := Lib.hid HA.out.drew
  have HU0d : Hid (Upd (foots b c r q) w (w.alloc (.cells #[.int .i64 1, .string t, .int .i64 n] 49)).drew) := Lib.hid HU0.out.drew
  go_enter Tryd.func31, Tryd.ntmps31
  go_wp2
  go_region_held3 (fun w' => w'.cell? ⟨w.heap.size, 0, none⟩ = some (.int .i64 1) ∧ w'.cell? ⟨w.heap.size, 1, none⟩ = some (.string t))
    (first | go_keep | exact ⟨d0, d1⟩ | exact ⟨e0, e1⟩)
    (first
      | (go_at_call 24; refine (padd2 t HAd.out _ rfl).mono ?_; rintro e w1 ⟨rfl, r1, hp, hu, hf⟩; have HFa := Lib.hid hf; have d0 := hu.cell (a := ⟨w.heap.size, 0, none⟩) (v := .int .i64 1) (by simp) hne; have d1 := hu.cell (a := ⟨w.heap.size, 1, none⟩) (v := .string t) (by simp) hne; have d2 := hu.cell (a := ⟨w.heap.size, 2, none⟩) (v := .int .i64 n) (by simp) hne; have HPa := Lib.hid hp; have HUa := Lib.hid (HU0d.out.then_ hu (fun k hk => .inl (.inl hk))); clear hp hu hf)
      | (go_at_call 25; refine (dadd2 t HPa.out _ rfl).mono ?_; rintro e w2 ⟨rfl, q2, hp, hu, hf⟩; have HFb := Lib.hid (Frs.both (w := w) HFa.out hf HSZ.out HUa.out.size); have HPb := Lib.hid hp; have HUb := Lib.hid (HUa.out.then_ hu (fun k hk => .inl (.inr hk))); have e0 := hu.cell d0 hnu; have e1 := hu.cell d1 hnu; have e2 := hu.cell d2 hnu; clear hp hu hf))
  go_wp2_with (go_at_call 27; refine (seen HPb.out).mono ?_; rintro e w9 ⟨rfl, hb⟩; have HPc := Lib.hid (HPb.out.later hb); have HUc := Lib.hid (HUb.out.then_ (Upd.below hb No) (fun k hk => hk.elim)); clear hb)
  go_ret
  exact ⟨(by simp), _, _, HPc.out, HUc.out, HFb.out⟩
set_option maxHeartbeats 3200000 in
theorem step_5 (h : Pair w0 w b c r q s s) (t : ByteArray) (n : Int) (hz : Sm s) (ht : t.size ≤ 1000000000000000) :
    Calls Tryd.prog 31 #[.pointer (some ⟨b, 0, none⟩), .pointer (some ⟨c, 0, none⟩), .agg #[.int .i64 5, .string t, .int .i64 n]] w fun e w' => e = .returned (.bool true) ∧ ∃ r' q', Pair w0 w' b c r' q' (s) (s) ∧ Upd (foots b c r q) w w' ∧ Frs w b c r q r' q' := by
  have hne : ¬ foot b r w.heap.size := fun e => Nat.lt_irrefl _ (h.p.lt _ e)
  have hnu : ¬ RefH.foot c q w.heap.size := fun e => Nat.lt_irrefl _ (h.d.lt _ e)
  have HA := Lib.hid (h.later ((Below.refl w.heap.size w).alloc (Nat.le_refl _) (.cells #[.int .i64 5, .string t, .int .i64 n] 49)))
  have HU0 : Hid (Upd (foots b c r q) w (w.alloc (.cells #[.int .i64 5, .string t, .int .i64 n] 49))) := Lib.hid ((Upd.refl _ w).alloc _)
  have HSZ : Hid (w.heap.size ≤ (w.alloc (.cells #[.int .i64 5, .string t, .int .i64 n] 49)).heap.size) := Lib.hid HU0.out.size
  clear h
  have HZ := Lib.hid hz
  clear hz
  go_enter Tryd.func31, Tryd.ntmps31
  go_wp2_with (first
    | (go_at_call 29; refine (find_ HA.out.p HA.out.pi t n (fun i hi => by have := HZ.out i hi; omega)).mono ?_; rintro e w1 ⟨rfl, rfl⟩)
    | (go_at_call 44; refine (RefH.find_ HA.out.d HA.out.di t n ht HZ.out).mono ?_; rintro e w1 ⟨rfl, rfl⟩)
    | (go_at_call 27; refine (seen HA.out).mono ?_; rintro e w9 ⟨rfl, hb⟩; have HPc := Lib.hid (HA.out.later hb); have HUc := Lib.hid (HU0.out.then_ (Upd.below hb No) (fun k hk => hk.elim)); clear hb))
  go_ret
  exact ⟨(by simp), _, _, HPc.out, HUc.out, Frs.same _ _ _ _ _⟩
set_option maxHeartbeats 3200000 in
theorem step_7 (h : Pair w0 w b c r q s s) (t : ByteArray) (n : Int) :
    Calls Tryd.prog 31 #[.pointer (some ⟨b, 0, none⟩), .pointer (some ⟨c, 0, none⟩), .agg #[.int .i64 7, .string t, .int .i64 n]] w fun e w' => e = .returned (.bool true) ∧ ∃ r' q', Pair w0 w' b c r' q' (s) (s) ∧ Upd (foots b c r q) w w' ∧ Frs w b c r q r' q' := by
  have hne : ¬ foot b r w.heap.size := fun e => Nat.lt_irrefl _ (h.p.lt _ e)
  have hnu : ¬ RefH.foot c q w.heap.size := fun e => Nat.lt_irrefl _ (h.d.lt _ e)
  have HA := Lib.hid (h.later ((Below.refl w.heap.size w).alloc (Nat.le_refl _) (.cells #[.int .i64 7, .string t, .int .i64 n] 49)))
  have HU0 : Hid (Upd (foots b c r q) w (w.alloc (.cells #[.int .i64 7, .string t, .int .i64 n] 49))) := Lib.hid ((Upd.refl _ w).alloc _)
  have HSZ : Hid (w.heap.size ≤ (w.alloc (.cells #[.int .i64 7, .string t, .int .i64 n] 49)).heap.size) := Lib.hid HU0.out.size
  clear h
  have hl1 := HA.out.di.l1
  go_enter Tryd.func31, Tryd.ntmps31
  go_wp2_with (first
    | (go_at_call 21; refine (entry_ HA.out.p HA.out.pi n).mono ?_; rintro e w1 ⟨rfl, rfl⟩)
    | (go_at_call 45; refine (RefH.entry HA.out.d hl1 n).mono ?_; rintro e w1 ⟨rfl, rfl⟩)
    | (go_at_call 27; refine (seen HA.out).mono ?_; rintro e w9 ⟨rfl, hb⟩; have HPc := Lib.hid (HA.out.later hb); have HUc := Lib.hid (HU0.out.then_ (Upd.below hb No) (fun k hk => hk.elim)); clear hb))
  go_ret
  exact ⟨(by simp), _, _, HPc.out, HUc.out, Frs.same _ _ _ _ _⟩
set_option maxHeartbeats 3200000 in
theorem step_o (h : Pair w0 w b c r q s s) (k : Int) (t : ByteArray) (n : Int) (h1 : ¬ k = 1) (h2 : ¬ k = 2) (h3 : ¬ k = 3) (h4 : ¬ k = 4) (h5 : ¬ k = 5) (h6 : ¬ k = 6) (h7 : ¬ k = 7) :
    Calls Tryd.prog 31 #[.pointer (some ⟨b, 0, none⟩), .pointer (some ⟨c, 0, none⟩), .agg #[.int .i64 k, .string t, .int .i64 n]] w fun e w' => e = .returned (.bool true) ∧ ∃ r' q', Pair w0 w' b c r' q' (s) (s) ∧ Upd (foots b c r q) w w' ∧ Frs w b c r q r' q' := by
  have hne : ¬ foot b r w.heap.size := fun e => Nat.lt_irrefl _ (h.p.lt _ e)
  have hnu : ¬ RefH.foot c q w.heap.size := fun e => Nat.lt_irrefl _ (h.d.lt _ e)
  have HA := Lib.hid (h.later ((Below.refl w.heap.size w).alloc (Nat.le_refl _) (.cells #[.int .i64 k, .string t, .int .i64 n] 49)))
  have HU0 : Hid (Upd (foots b c r q) w (w.alloc (.cells #[.int .i64 k, .string t, .int .i64 n] 49))) := Lib.hid ((Upd.refl _ w).alloc _)
  have HSZ : Hid (w.heap.size ≤ (w.alloc (.cells #[.int .i64 k, .string t, .int .i64 n] 49)).heap.size) := Lib.hid HU0.out.size
  clear h
  have b1 : (k == 1) = false := by rw [beq_eq_false_iff_ne]; exact h1
  have b2 : (k == 2) = false := by rw [beq_eq_false_iff_ne]; exact h2
  have b3 : (k == 3) = false := by rw [beq_eq_false_iff_ne]; exact h3
  have b4 : (k == 4) = false := by rw [beq_eq_false_iff_ne]; exact h4
  have b5 : (k == 5) = false := by rw [beq_eq_false_iff_ne]; exact h5
  have b6 : (k == 6) = false := by rw [beq_eq_false_iff_ne]; exact h6
  have b7 : (k == 7) = false := by rw [beq_eq_false_iff_ne]; exact h7
  clear h1 h2 h3 h4 h5 h6 h7
  go_enter Tryd.func31, Tryd.ntmps31
  go_wp2_with (go_at_call 27; refine (seen HA.out).mono ?_; rintro e w9 ⟨rfl, hb⟩; have HPc := Lib.hid (HA.out.later hb); have HUc := Lib.hid (HU0.out.then_ (Upd.below hb No) (fun k hk => hk.elim)); clear hb)
  go_ret
  exact ⟨(by simp), _, _, HPc.out, HUc.out, Frs.same _ _ _ _ _⟩
theorem step_ (h : Pair w0 w b c r q s s) (k : Int) (t : ByteArray) (n : Int) (hz : Sm s) (ht : t.size ≤ 1000000000000000) :
    Calls Tryd.prog 31 #[.pointer (some ⟨b, 0, none⟩), .pointer (some ⟨c, 0, none⟩), .agg #[.int .i64 k, .string t, .int .i64 n]] w fun e w' => e = .returned (.bool true) ∧ ∃ r' q', Pair w0 w' b c r' q' (stp s k t n) (stp s k t n) ∧ Upd (foots b c r q) w w' ∧ Frs w b c r q r' q' := by
  unfold stp
  by_cases h1 : k = 1
  · subst h1; exact step_1 h t n
  rw [if_neg h1]
  by_cases h2 : k = 2
  · subst h2; exact step_2 h t n
  rw [if_neg h2]
  by_cases h3 : k = 3
  · subst h3; exact step_3 h t n
  rw [if_neg h3]
  by_cases h4 : k = 4
  · subst h4; exact step_4 h t n
  rw [if_neg h4]
  by_cases h6 : k = 6
  · subst h6; exact step_6 h t n
  rw [if_neg h6]
  by_cases h5 : k = 5
  · subst h5; exact step_5 h t n hz ht
  by_cases h7 : k = 7
  · subst h7; exact step_7 h t n
  exact step_o h k t n h1 h2 h3 h4 h5 h6 h7
theorem Sm.stp (h : Sm s) (k : Int) (t : ByteArray) (n : Int) (ht : t.size ≤ 1000000000000000) : Sm (stp s k t n) := by
  have hsame : ∀ s2 : HS, s2.ents = s.ents → Sm s2 := fun s2 e i hi => by rw [e] at hi ⊢; exact h i hi
  unfold Hist.stp
  split
  · intro i hi
    have hm : (add s t).ents.getD i E ∈ (add s t).ents := by simp [List.getD, hi]
    rcases add_mem hm with e | e
    · obtain ⟨j, hj, e2⟩ := List.getElem_of_mem e
      rw [← e2]
      have := h j hj
      simpa [List.getD, hj] using this
    · rw [e]; exact ht
  · split
    · apply hsame; unfold back; split <;> rfl
    · split
      · apply hsame; unfold forth; split <;> rfl
      · split
        · apply hsame; unfold go; split <;> rfl
        · split
          · exact hsame _ rfl
          · exact h
end
end Hist
end Go.Proofs.YtjghfdhahkokhaaDoor
