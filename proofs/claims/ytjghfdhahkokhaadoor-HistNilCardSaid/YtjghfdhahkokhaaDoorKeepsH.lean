/- The walk of HistKeeps: what is written into the entries that were answered is not seen. -/
import Derived.Test.YtjghfdhahkokhaaDoorPair
set_option linter.unusedVariables false
namespace Go.Proofs.YtjghfdhahkokhaaDoor
open Go.RowKit Go.Proofs.YtjghfdhahkokhaaDoorW.PrintWords Go.Proofs.YtjghfdhahkokhaaDoor.Sep Go.Proofs.YtjghfdhahkokhaaDoor.Libs
namespace Hist
section
variable {w0 w w' : World} {b c : Nat} {r r' : Pr} {q q' : RefH.Pr} {s s' t t' : HS}
theorem Pair.drew (h : Pair w0 w b c r q s t) : Pair w0 w.drew b c r q s t := ⟨h.p, h.d, h.pi, h.di, h.apart, h.pn, h.dn, ⟨h.below.os, h.below.tape, h.below.output, h.below.size, h.below.block⟩⟩
theorem padd (x : ByteArray) (h : Pair w0 w b c r q s t) (T : Bool) (hT : takes s x = T) : Calls Tryd.prog 24 #[.pointer (some ⟨b, 0, none⟩), .string x] w fun e w' => e = .returned (.bool T) ∧ ∃ r', Pair w0 w' b c r' q (add s x) t ∧ Upd (foot b r) w w' := by
  subst hT
  refine (add_ h.p h.pi x).mono ?_
  rintro e w' ⟨rfl, r', ha, hu, hf⟩
  exact ⟨rfl, r', h.pstep ha hu hf (h.pi.add x), hu⟩
theorem dadd (x : ByteArray) (h : Pair w0 w b c r q s t) (T : Bool) (hT : takes t x = T) : Calls Tryd.prog 25 #[.pointer (some ⟨c, 0, none⟩), .string x] w fun e w' => e = .returned (.bool T) ∧ ∃ q', Pair w0 w' b c r q' s (add t x) ∧ Upd (RefH.foot c q) w w' := by
  subst hT
  refine (RefH.add_ h.d h.di x).mono ?_
  rintro e w' ⟨rfl, q', ha, hu, hf⟩
  exact ⟨rfl, q', h.dstep ha hu hf (h.di.add x), hu⟩
/-- The pair, and two lists that were answered: the first is written into, the second looked at. -/
structure Kp (w0 w : World) (b c : Nat) (r : Pr) (q : RefH.Pr) (s : HS) (va vb : Value) (ys xs : List ByteArray) : Prop where
  pr : Pair w0 w b c r q s s
  oa : Own w va ys
  ob : Own w vb xs
  an : ∀ k, va.ownBlock = some k → w0.heap.size ≤ k ∧ ¬ foot b r k ∧ ¬ RefH.foot c q k ∧ vb.ownBlock ≠ some k
theorem Kp.upd {va va' vb : Value} {ys ys' xs : List ByteArray} {S : Nat → Prop} (h : Kp w0 w b c r q s va vb ys xs) (hu : Upd S w w') (hS : ∀ k, S k → va.ownBlock = some k) (ho : Own w' va' ys') (hv : ∀ k, va'.ownBlock = some k → va.ownBlock = some k ∨ w.heap.size ≤ k) : Kp w0 w' b c r q s va' vb ys' xs :=
  ⟨h.pr.beside hu (fun k hk => let a := h.an k (hS k hk); ⟨a.1, a.2.1, a.2.2.1⟩), ho, h.ob.upd hu (fun k hk hs => (h.an k (hS k hs)).2.2.2 hk), fun k hk => by
    rcases hv k hk with e | e
    · exact h.an k e
    · exact ⟨Nat.le_trans h.pr.below.size e, fun hx => by have := h.pr.p.lt k hx; omega, fun hx => by have := h.pr.d.lt k hx; omega, fun hx => by have := h.ob.lt k hx; omega⟩⟩
theorem Kp.later {va vb : Value} {ys xs : List ByteArray} (h : Kp w0 w b c r q s va vb ys xs) (hb : Below w.heap.size w w') : Kp w0 w' b c r q s va vb ys xs :=
  ⟨h.pr.later hb, h.oa.upd (Upd.below hb No) (fun _ _ h => h), h.ob.upd (Upd.below hb No) (fun _ _ h => h), h.an⟩
theorem entries_p (h : Pair w0 w b c r q s t) : Calls Tryd.prog 12 #[.pointer (some ⟨b, 0, none⟩)] w fun e w' => ∃ l, e = .returned l ∧ Own w' l s.ents ∧ (∀ k, l.ownBlock = some k → w.heap.size ≤ k) ∧ Pair w0 w' b c r q s t ∧ Below w.heap.size w w' := by
  refine (entries w b r s h.p (by have := h.pi.l1; omega)).mono ?_
  rintro e w' ⟨l, rfl, ho, hk, hb⟩
  exact ⟨l, rfl, ho, hk, h.later hb, hb⟩
theorem entries_d (h : Pair w0 w b c r q s t) : Calls Tryd.prog 26 #[.pointer (some ⟨c, 0, none⟩)] w fun e w' => ∃ l, e = .returned l ∧ Own w' l t.ents ∧ Below w.heap.size w w' := by
  refine (RefH.entries h.d (by have := h.di.l1; omega)).mono ?_
  rintro e w' ⟨l, rfl, ho, hk, hb⟩
  exact ⟨l, rfl, ho, hb⟩
theorem Kp.start {va vb : Value} {w1 w2 : World} {ys xs : List ByteArray} (hp : Pair w0 w1 b c r q s s) (oa : Own w1 va ys) (ka : ∀ k, va.ownBlock = some k → w.heap.size ≤ k) (hw : Pair w0 w b c r q s s) (hp2 : Pair w0 w2 b c r q s s) (hb : Below w1.heap.size w1 w2) (ob : Own w2 vb xs) (kb : ∀ k, vb.ownBlock = some k → w1.heap.size ≤ k) : Kp w0 w2 b c r q s va vb ys xs :=
  ⟨hp2, oa.upd (Upd.below hb No) (fun _ _ h => h), ob, fun k hk => by
    have h1 := ka k hk
    have h2 := oa.lt k hk
    exact ⟨Nat.le_trans hw.below.size h1, fun hx => by have := hw.p.lt k hx; omega, fun hx => by have := hw.d.lt k hx; omega, fun hx => by have := kb k hx; omega⟩⟩
end
set_option maxHeartbeats 6400000 in
set_option maxRecDepth 100000 in
theorem keeps (W : World) (n : Int) (A : Option Addr) (l c : Nat) (xs : List ByteArray) (hr : Reads W W.heap.size 1 A l (xs.map Value.string)) (hlc : l ≤ c) (hl : l ≤ 10000000000000) :
    Calls Tryd.prog 5 #[.int .i64 n, .slice A l c] W fun e W' => e = .returned (.bool true) ∧ Below W.heap.size W W' := by
  obtain ⟨i0, hi0, hz0, hz1, hz2⟩ := info_parts info9
  have HR := Lib.hid hr
  clear hr
  go_enter Tryd.func5, Tryd.ntmps5
  go_wp2_with (first
    | (go_at_call 10; refine (awake W).mono ?_; rintro e w1 ⟨rfl, hb⟩; have HW := Lib.hid hb; clear hb)
    | (go_at_call 22; refine (new_h (w0 := W) n HW.out).mono ?_; rintro e w2 ⟨b, rfl, hp, hb2, hk2⟩; have HP0 := Lib.hid hp; have HW2 := Lib.hid (HW.out.trans (hb2.mono HW.out.size)); clear hp hb2 hk2)
    | (go_at_call 23; refine (new_pair n HW2.out HP0.out).mono ?_; rintro e w3 ⟨cc, rfl, hp⟩; have HP1 := Lib.hid hp; clear hp))
  generalize start n = s00 at *
  go_loopg [7] l (fun k v7 w' => ∃ i : Nat, v7 = .int .i64 i ∧ i + k = l ∧ ∃ s r q, Hid (Pair W w' b cc r q s s))
  case atStart => exact ⟨0, rfl, by omega, _, _, _, HP1⟩
  case round =>
    clear HP0 HP1
    obtain ⟨i, rfl, hik, s, r, q, HP⟩ := hrel
    rename World => wz
    cases gk with
    | zero =>
      have e1 : decide ((i : Int) < (l : Int)) = false := by simp; omega
      go_wp2
      go_ret
      exact ⟨rfl, HP.out.below⟩
    | succ k1 =>
      have hi : i < l := by omega
      have e1 : decide ((i : Int) < (l : Int)) = true := by simp [hi]
      obtain ⟨ad, rfl, hcell, hi2⟩ := reads_at HR.out HP.out.below hi
      have HCL : Hid (∀ w', Below W.heap.size W w' → w'.cell? (ad.add i) = some (.string (xs.getD i E))) := Lib.hid (fun w' hb => by
        obtain ⟨ad', e, h, _⟩ := reads_at HR.out hb hi
        injection e with e
        subst e
        exact h)
      generalize xs.getD i E = x at *
      have HD := Lib.hid HP.out.drew
      go_wp2
      go_region_held3 (fun w' => w'.cell? (ad.add i) = some (.string x))
        (first | go_keep | exact f4 | exact f5)
        (first
          | (go_at_call 24; refine (padd x HD.out _ rfl).mono ?_; rintro e w4 ⟨rfl, r5, hp, hu⟩; have f4 := HCL.out _ hp.below; have HP4 := Lib.hid hp; clear hp hu)
          | (go_at_call 25; refine (dadd x HP4.out _ rfl).mono ?_; rintro e w5 ⟨rfl, q5, hp, hu⟩; have f5 := HCL.out _ hp.below; have HP5 := Lib.hid hp; clear hp hu))
      generalize add s x = s2 at *
      have hN : s2.ents.length ≤ 1000 := HP5.out.pi.l1
      clear f4 f5 hcell
      go_wp2_with (first
        | (go_at_call 12; refine (entries_p HP5.out).mono ?_; rintro e w6 ⟨la, rfl, oa, ka, hp, hb⟩; obtain ⟨Aa, ca, rfl, hla⟩ := oa.form; have HOa := Lib.hid oa; have HKa := Lib.hid ka; have HPw := Lib.hid HP5.out; have HPa := Lib.hid hp; clear oa ka hp hb HP5)
        | (go_at_call 12; refine (entries_p HPa.out).mono ?_; rintro e w7 ⟨lb, rfl, ob, kb, hp, hb⟩; obtain ⟨Ab, cb, rfl, hlb⟩ := ob.form; have HK0 := Lib.hid (Kp.start HPa.out HOa.out HKa.out HPw.out hp hb ob kb); clear ob kb hp hb)
        | (go_at_call 26; refine (entries_d HK0.out.pr).mono ?_; rintro e w8 ⟨lr, rfl, or, hb⟩; obtain ⟨Ar, cr, rfl, hlr⟩ := or.form; have HOr := Lib.hid or; have HK1 := Lib.hid (HK0.out.later hb); clear or hb)
        | (go_at_call 16; refine (same_r _ _ _ _ _ _ _ _ _ s2.ents s2.ents (own_reads HK1.out.oa) (own_reads HOr.out) hla hlr (by omega)).mono ?_; rintro e w9 ⟨rfl, hd6⟩; have HK2 := Lib.hid (HK1.out.later hd6.below); clear hd6))
      go_loopg [10] s2.ents.length (fun k v10 w' => ∃ (j : Nat) (ys : List ByteArray), v10 = .int .i64 j ∧ j + k = s2.ents.length ∧ ys.length = s2.ents.length ∧ Hid (Kp W w' b cc r5 q5 s2 (.slice Aa s2.ents.length ca) (.slice Ab s2.ents.length cb) ys s2.ents))
      case atStart => exact ⟨0, s2.ents, rfl, by omega, rfl, HK2⟩
      case round =>
        clear HK2 HK1 HK0 HPa HPw HOa HKa HOr
        obtain ⟨j, ys, rfl, hjk, hys, HK⟩ := hrel
        rename World => wy
        cases gk with
        | succ k2 =>
          have hj : j < s2.ents.length := by omega
          have g1 : decide ((j : Int) < (s2.ents.length : Int)) = true := by simp [hj]
          obtain ⟨g, rfl, hc2, hq2, hf2⟩ := Own.at_ HK.out.oa (k := j) (by omega)
          clear hq2
          have HYS := Lib.hid hys
          clear hys
          go_wp2
          go_roundg k2
          case measure => omega
          case rel => exact ⟨j + 1, _, by simp, by omega, by rw [List.length_set]; exact HYS.out, Lib.hid (HK.out.upd ((Upd.refl (fun k => (Value.slice (some ⟨g, 0, none⟩) s2.ents.length ca).ownBlock = some k) _).setCell (p := ⟨g, j, none⟩) (.inl rfl) _) (fun k hk => hk) (HK.out.oa.set_ rfl j (by have := HYS.out; omega) _) (fun k hk => .inl hk))⟩
        | zero =>
          have g1 : ¬ j < s2.ents.length := by omega
          have HYS := Lib.hid hys
          clear hys
          go_wp2
          go_loopg [11, 8] 9 (fun k v11 v8 w' => ∃ (j : Nat) (zs : List ByteArray) (Az : Option Addr) (cz : Nat), v11 = .int .i64 j ∧ j + k = 9 ∧ v8 = .slice Az zs.length cz ∧ Hid (zs.length = s2.ents.length + j) ∧ Hid (Kp W w' b cc r5 q5 s2 (.slice Az zs.length cz) (.slice Ab s2.ents.length cb) zs s2.ents))
          case atStart => exact ⟨0, ys, Aa, ca, rfl, by omega, by rw [HYS.out], HYS, by rw [HYS.out]; exact HK⟩
          case round =>
            clear HK
            obtain ⟨j2, zs, Az, cz, rfl, hj2, rfl, HZS, HK⟩ := hrel
            have hzl : zs.length ≤ 1009 := by have := HZS.out; omega
            rename World => wx
            cases gk with
            | succ k3 =>
              have g2 : decide ((j2 : Int) < 9) = true := by simp; omega
              have HOa := Lib.hid (HK.out.oa.upd ((Upd.refl No _).alloc (.cells #[.string ⟨#[103, 114, 111, 119, 110]⟩] 9)) (fun _ _ h => h))
              have HRa := fun w => Lib.hid (reads_new w ⟨#[103, 114, 111, 119, 110]⟩)
              go_wp2_with (at_builtin; refine wpList_append_any _ rfl (.tmp 59) (.tmp 60) _ rfl 0 9 i0 _ 1 16 Tryd.underlying22 hi0 hz0 hz1 hz2 rfl (by omega) (.slice Az zs.length cz) zs.length (zs.map Value.string) rfl HOa.out _ _ 1 1 [.string ⟨#[103, 114, 111, 119, 110]⟩] rfl (HRa _).out (by simp [Value.oneCell']) (by simp only [maxLen]; omega) (by omega) (Nat.zero_le _) ?_; intro v5 w5' hown1 hg1 hat1; have ho5 := Own.ofAppend hown1 rfl; have HK5 := Lib.hid (HK.out.upd (((Upd.refl (fun k => (Value.slice Az zs.length cz).ownBlock = some k) _).alloc _).then_ (Upd.grown (S := fun k => (Value.slice Az zs.length cz).ownBlock = some k) hg1 (fun k e => e)) (fun k hk => .inl hk)) (fun k hk => hk) ho5 (fun k hk => hat1.elim (fun e => .inl (by rw [← e]; exact hk)) (fun e => .inr (by rw [e] at hk; injection hk with hk; simp at hk; omega)))); obtain ⟨B5, d5, rfl, hd5⟩ := ho5.form; clear hown1 hg1 hat1 ho5)
              go_roundg k3
              case measure => omega
              case rel => exact ⟨j2 + 1, zs ++ [⟨#[103, 114, 111, 119, 110]⟩], B5, d5, by simp, by omega, (by rw [List.length_append]; rfl), Lib.hid (by have := HZS.out; simp; omega), HK5⟩
            | zero =>
              have g2 : decide ((j2 : Int) < 9) = false := by simp; omega
              go_wp2_with (first
                | (go_at_call 26; refine (entries_d HK.out.pr).mono ?_; rintro e w8 ⟨lr, rfl, or, hb⟩; obtain ⟨Ar, cr, rfl, hlr⟩ := or.form; have HOr := Lib.hid or; have HK1 := Lib.hid (HK.out.later hb); clear or hb)
                | (go_at_call 16; refine (same_r _ _ _ _ _ _ _ _ _ s2.ents s2.ents (own_reads HK1.out.ob) (own_reads HOr.out) hlb hlr (by omega)).mono ?_; rintro e w9 ⟨rfl, hd6⟩; have HK2 := Lib.hid (HK1.out.later hd6.below); clear hd6)
                | (go_at_call 27; refine (seen HK2.out.pr).mono ?_; rintro e w10 ⟨rfl, hb⟩; have HP9 := Lib.hid (HK2.out.pr.later hb); clear hb))
              go_roundg k1
              case measure => omega
              case rel => exact ⟨i + 1, by simp, by omega, _, _, _, HP9⟩
theorem keeps_row (W : World) (n : Int) (wn : (Lit.int .i64 n).wf = true) (A : Option Addr) (l c : Nat) (xs : List ByteArray) (hr : Reads W W.heap.size 1 A l (xs.map Value.string)) (hlc : l ≤ c) (hm : ∀ u ∈ xs, u.size ≤ maxLen) (y : l * 16 ≤ reachBytes) :
    Calls Tryd.prog 5 #[.int .i64 n, .slice A l c] W fun e W' => e = .returned (.bool true) ∧ Below W.heap.size W W' := by
  have e : reachBytes = 140737488351232 := by rfl
  exact keeps W n A l c xs hr hlc (by omega)
end Hist
end Go.Proofs.YtjghfdhahkokhaaDoor
