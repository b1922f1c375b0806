/- A history that lies in new memory; lists answered; SameTexts; awake; filled. -/
import Derived.Test.YtjghfdhahkokhaaDoorHist3
import Derived.Test.YtjghfdhahkokhaaDoorOpen
set_option linter.unusedVariables false
namespace Go.Proofs.YtjghfdhahkokhaaDoor
open Go.RowKit Go.Proofs.YtjghfdhahkokhaaDoorW.PrintWords Go.Proofs.YtjghfdhahkokhaaDoor.Sep Go.Proofs.YtjghfdhahkokhaaDoor.Libs
namespace Hist
theorem first_a (w : World) : Calls Tryd.prog 58 #[.string ⟨#[97]⟩] w fun e w' => e = .returned (.agg #[.int .i32 97, .int .i64 1]) ∧ Below w.heap.size w w' := by
  have HD := fun o : Obj => Lib.hid (Any.utf8_DecodeRuneInString_ascii decLays ⟨#[97]⟩ 97 (w.alloc o) rfl (by decide))
  go_enter Tryd.func58, Tryd.ntmps58
  go_wp2_with (go_at_call 61; refine (show Calls Tryd.prog 61 _ _ _ from (HD _).out).mono ?_; rintro e w' ⟨rfl, hq⟩; subst hq)
  go_returns
  exact ⟨rfl, (Below.refl _ _).alloc (Nat.le_refl _) _⟩
theorem field70 (w : World) : (Instr.field 70 (.agg #[.int .i32 97, .int .i64 1]) 1).run Tryd.prog w = .ok (.int .i64 1) w := by kernel_rfl
theorem around_a (w : World) : Calls Tryd.prog 52 #[.string ⟨#[97]⟩, .int .i64 0] w fun e w' => e = .returned (.tuple #[.int .i64 0, .int .i64 1]) ∧ Below w.heap.size w w' := by
  go_enter Tryd.func52, Tryd.ntmps52
  go_wp2
  go_loopg [6] 0 (fun k v w' => v = .int .i64 0 ∧ w' = w)
  case atStart => exact ⟨rfl, rfl⟩
  case round =>
   obtain ⟨rfl, rfl⟩ := hrel
   have hfl := field70
   go_wp2_with (go_at_call 58; refine (first_a _).mono ?_; rintro e w' ⟨rfl, hb⟩; have HW := Lib.hid hb; clear hb)
   go_ret2
   exact ⟨rfl, HW.out⟩
theorem next_a1 (w : World) : Calls Tryd.prog 46 #[.string ⟨#[97]⟩, .int .i64 0] w fun e w' => e = .returned (.int .i64 1) ∧ Below w.heap.size w w' := by
  go_enter Tryd.func46, Tryd.ntmps46
  go_wp2_with (go_at_call 52; refine (around_a _).mono ?_; rintro e w' ⟨rfl, hb⟩; have HW := Lib.hid hb; clear hb)
  go_ret
  exact ⟨rfl, HW.out⟩
theorem bound_a (w : World) : Calls Tryd.prog 47 #[.string ⟨#[97]⟩, .int .i64 1] w fun e w' => e = .returned (.bool true) ∧ w = w' := by
  go_enter Tryd.func47, Tryd.ntmps47
  go_wp2
  go_ret
  exact ⟨rfl, rfl⟩
theorem next_a (w : World) : Calls Tryd.prog 32 #[.string ⟨#[97]⟩, .int .i64 0] w fun e w' => e = .returned (.int .i64 1) ∧ Below w.heap.size w w' := by
  go_enter Tryd.func32, Tryd.ntmps32
  go_wp2
  go_loopg [1] 0 (fun k v w' => v = .int .i64 0 ∧ w' = w)
  case atStart => exact ⟨rfl, rfl⟩
  case round =>
   obtain ⟨rfl, rfl⟩ := hrel
   go_wp2_with (first | (go_at_call 46; refine (next_a1 _).mono ?_; rintro e w' ⟨rfl, hb⟩; have HW := Lib.hid hb; clear hb) | (go_at_call 47; refine (bound_a _).mono ?_; rintro e w' ⟨rfl, rfl⟩))
   go_ret
   exact ⟨rfl, HW.out⟩
/-! SameTexts, for lists that are parts of rows. -/
theorem ext_getD (a b : List ByteArray) (hl : a.length = b.length) (h : ∀ j, j < a.length → a.getD j ByteArray.empty = b.getD j ByteArray.empty) : a = b := by
  apply List.ext_getElem hl
  intro n h1 h2
  have := h n h1
  simpa [List.getD, h1, h2] using this
theorem toList_inj (a b : ByteArray) : a.toList = b.toList ↔ a = b := by
  rw [ByteArray.toList_eq, ByteArray.toList_eq]
  constructor
  · intro h
    cases a; cases b
    simpa using h
  · rintro rfl; rfl
theorem reads_str {w : World} {B : Nat} {A : Option Addr} {n : Nat} {xs : List ByteArray} (h : Reads w B 1 A n (xs.map Value.string)) : xs.length = n ∧ ∀ i, i < n → ∃ ad, A = some ad ∧ w.cell? (ad.add i) = some (.string (xs.getD i E)) := by
  have hl : xs.length = n := by simpa using h.1
  refine ⟨hl, fun i hi => ?_⟩
  obtain ⟨ad, u, rfl, _, hu, hc⟩ := h.at_ hi
  refine ⟨ad, rfl, ?_⟩
  rw [hc]
  have hi' : i < xs.length := by omega
  simp [hi'] at hu
  subst hu
  simp [List.getD, hi']
set_option maxHeartbeats 800000 in
theorem same_r (w : World) (B B' : Nat) (A A' : Option Addr) (n n' c c' : Nat) (xs ys : List ByteArray) (h : Reads w B 1 A n (xs.map Value.string)) (h' : Reads w B' 1 A' n' (ys.map Value.string)) (hc : n ≤ c) (hc' : n' ≤ c') (hn : n ≤ 100000) :
    Calls Tryd.prog 16 #[.slice A n c, .slice A' n' c'] w fun e w' => e = .returned (.bool (decide (xs = ys))) ∧ Drawn0 w w' := by
  obtain ⟨hx, hR⟩ := reads_str h
  obtain ⟨hy, hR'⟩ := reads_str h'
  have HC := Lib.hid hR
  have HC' := Lib.hid hR'
  have HX := Lib.hid hx
  have HY := Lib.hid hy
  clear h h' hR hR' hx hy
  by_cases hl : n = n'
  · subst hl
    go_enter Tryd.func16, Tryd.ntmps16
    go_wp2
    go_loopg [5] n (fun k v5 w' => ∃ i : Nat, v5 = .int .i64 i ∧ i + k = n ∧ Hid (∀ j, j < i → xs.getD j ByteArray.empty = ys.getD j ByteArray.empty) ∧ Drawn0 w w')
    case atStart => exact ⟨0, rfl, by omega, Lib.hid (fun j hj => by omega), Drawn0.refl _⟩
    case round =>
      obtain ⟨i, rfl, hik, HI, ⟨m, rfl⟩⟩ := hrel
      cases gk with
      | zero =>
        have e1 : xs = ys := ext_getD xs ys (HX.out.trans HY.out.symm) (fun j hj => HI.out j (by have := HX.out; omega))
        have HE1 := Lib.hid e1
        have e2 : decide ((i : Int) < (n : Int)) = false := by simp; omega
        clear e1
        go_wp2
        go_ret
        exact ⟨(by rw [decide_eq_true HE1.out]; rfl), by repeat (first | exact Drawn0.refl _ | apply Drawn0.step)⟩
      | succ k1 =>
        have hi : i < n := by omega
        have e2 : decide ((i : Int) < (n : Int)) = true := by simp [hi]
        obtain ⟨ad, rfl, d0⟩ := HC.out i hi
        obtain ⟨ad', rfl, d1⟩ := HC'.out i hi
        by_cases hx : (xs.getD i ByteArray.empty).toList = (ys.getD i ByteArray.empty).toList
        · have HX2 := Lib.hid hx
          have x1 : ((xs.getD i ByteArray.empty).toList == (ys.getD i ByteArray.empty).toList) = true := beq_iff_eq.mpr hx
          have x2 : ((xs.getD i ByteArray.empty).toList != (ys.getD i ByteArray.empty).toList) = false := bne_eq_false_iff_eq.mpr hx
          clear hx
          generalize hx0 : xs.getD i ByteArray.empty = x at *
          generalize hy0 : ys.getD i ByteArray.empty = y at *
          have HX0 := Lib.hid hx0
          have HY0 := Lib.hid hy0
          clear hx0 hy0
          go_wp2
          repeat (go_quiet (fail); try go_wp2)
          go_roundg k1
          case measure => omega
          case rel =>
            refine ⟨i + 1, by simp, by omega, Lib.hid (fun j hj => ?_), by repeat (first | exact Drawn0.refl _ | apply Drawn0.step)⟩
            rcases Nat.lt_or_ge j i with hj' | hj'
            · exact HI.out j hj'
            · obtain rfl : j = i := by omega
              rw [HX0.out, HY0.out]
              exact (toList_inj _ _).1 HX2.out
        · have HX2 : Hid (xs ≠ ys) := Lib.hid (fun e => hx (by rw [e]))
          have x1 : ((xs.getD i ByteArray.empty).toList == (ys.getD i ByteArray.empty).toList) = false := beq_eq_false_iff_ne.mpr hx
          have x2 : ((xs.getD i ByteArray.empty).toList != (ys.getD i ByteArray.empty).toList) = true := bne_iff_ne.mpr hx
          clear hx
          generalize xs.getD i ByteArray.empty = x at *
          generalize ys.getD i ByteArray.empty = y at *
          go_wp2
          repeat (go_quiet (fail); try go_wp2)
          go_ret
          exact ⟨(by rw [decide_eq_false HX2.out]; rfl), by repeat (first | exact Drawn0.refl _ | apply Drawn0.step)⟩
  · have hl1 : ((n : Int) != (n' : Int)) = true := by simp; omega
    have hl2 : (n == n') = false := by simp [hl]
    have HX2 : Hid (xs ≠ ys) := Lib.hid (fun e => hl (by rw [← HX.out, ← HY.out, e]))
    clear hl
    go_enter Tryd.func16, Tryd.ntmps16
    go_wp2
    go_ret
    exact ⟨(by rw [decide_eq_false HX2.out]; rfl), Drawn0.refl _⟩
/-- A history that lies in memory newer than w0. -/
structure HB (w0 w : World) (b : Nat) (r : Pr) (s : HS) : Prop where
  at_ : At w b r s
  new : ∀ k, foot b r k → w0.heap.size ≤ k
  below : Below w0.heap.size w0 w
  inv : Inv s
section
variable {w0 w w' : World} {b : Nat} {r r' : Pr} {s s' : HS}
theorem HB.step (h : HB w0 w b r s) (ha : At w' b r' s') (hu : Upd (foot b r) w w') (hf : Fr w b r r') (hi : Inv s') : HB w0 w' b r' s' :=
  ⟨ha, fun k hk => (hf k hk).elim (h.new k) (fun e => Nat.le_trans h.below.size e), h.below.trans (hu.toBelow h.below.size h.new), hi⟩
theorem HB.later (h : HB w0 w b r s) (hb : Below w.heap.size w w') : HB w0 w' b r s :=
  ⟨h.at_.upd (Upd.below hb No) (fun _ _ h => h), h.new, h.below.trans (hb.mono h.below.size), h.inv⟩
theorem HB.beside {S : Nat → Prop} (h : HB w0 w b r s) (hu : Upd S w w') (hd : ∀ k, S k → w0.heap.size ≤ k ∧ ¬ foot b r k) : HB w0 w' b r s :=
  ⟨h.at_.upd hu (fun k hk hs => (hd k hs).2 hk), h.new, h.below.trans (hu.toBelow h.below.size (fun k hk => (hd k hk).1)), h.inv⟩
theorem new_h (n : Int) (hb : Below w0.heap.size w0 w) : Calls Tryd.prog 22 #[.int .i64 n] w fun e w' => ∃ b, e = .returned (.pointer (some ⟨b, 0, none⟩)) ∧ HB w0 w' b r0 (start n) ∧ Below w.heap.size w w' ∧ w.heap.size ≤ b := by
  refine (new w n).mono ?_
  rintro e w' ⟨b, rfl, ha, hk, hw⟩
  refine ⟨b, rfl, ⟨ha, ?_, hb.trans (hw.mono hb.size), Inv.start n⟩, hw, hk⟩
  rintro k (rfl | hk' | hk' | hk')
  · exact Nat.le_trans hb.size hk
  · simp [r0, Value.ownBlock] at hk'
  · cases hk'
  · cases hk'
theorem add_h (t : ByteArray) (h : HB w0 w b r s) (T : Bool) (hT : takes s t = T) (s' : HS) (hs : add s t = s') : Calls Tryd.prog 24 #[.pointer (some ⟨b, 0, none⟩), .string t] w fun e w' => e = .returned (.bool T) ∧ ∃ r', HB w0 w' b r' s' ∧ Upd (foot b r) w w' ∧ Fr w b r r' := by
  subst hT; subst hs
  refine (add_ h.at_ h.inv t).mono ?_
  rintro e w' ⟨rfl, r', ha, hu, hf⟩
  exact ⟨rfl, r', h.step ha hu hf (h.inv.add t), hu, hf⟩
theorem home_h (h : HB w0 w b r s) : Calls Tryd.prog 17 #[.pointer (some ⟨b, 0, none⟩)] w fun e w' => e = .returned (.tuple #[]) ∧ ∃ r', HB w0 w' b r' (homed s) ∧ Upd (foot b r) w w' ∧ Fr w b r r' := by
  refine (home_u h.at_).mono ?_
  rintro e w' ⟨rfl, ha, hu, hf⟩
  exact ⟨rfl, _, h.step ha hu hf h.inv.home, hu, hf⟩
theorem back_h (t : ByteArray) (h : HB w0 w b r s) (T : ByteArray) (hT : backT s t = T) (c : Int) (hc : backE s = c) (s' : HS) (hs : back s t = s') : Calls Tryd.prog 13 #[.pointer (some ⟨b, 0, none⟩), .string t] w fun e w' => e = .returned (.tuple #[.string T, .int .i64 c]) ∧ ∃ r', HB w0 w' b r' s' ∧ Upd (foot b r) w w' ∧ Fr w b r r' := by
  subst hT; subst hc; subst hs
  refine (back_ h.at_ h.inv t).mono ?_
  rintro e w' ⟨rfl, r', ha, hu, hf⟩
  exact ⟨rfl, r', h.step ha hu hf (h.inv.back t), hu, hf⟩
theorem forth_h (t : ByteArray) (h : HB w0 w b r s) (T : ByteArray) (hT : forthT s t = T) (c : Int) (hc : forthE s = c) (s' : HS) (hs : forth s t = s') : Calls Tryd.prog 15 #[.pointer (some ⟨b, 0, none⟩), .string t] w fun e w' => e = .returned (.tuple #[.string T, .int .i64 c]) ∧ ∃ r', HB w0 w' b r' s' ∧ Upd (foot b r) w w' ∧ Fr w b r r' := by
  subst hT; subst hc; subst hs
  refine (forth_ h.at_ h.inv t).mono ?_
  rintro e w' ⟨rfl, r', ha, hu, hf⟩
  exact ⟨rfl, r', h.step ha hu hf (h.inv.forth t), hu, hf⟩
/-- Go, at any place. -/
def go (s : HS) (p : Int) (t : ByteArray) : HS := if 0 ≤ p ∧ p ≤ (s.ents.length : Int) then gone s p t else s
def goT (s : HS) (p : Int) (t : ByteArray) : ByteArray := if 0 ≤ p ∧ p ≤ (s.ents.length : Int) then textAt (gone s p t) p else ⟨#[]⟩
def goE (s : HS) (p : Int) : Int := if 0 ≤ p ∧ p ≤ (s.ents.length : Int) then 0 else 1
theorem Inv.go (h : Inv s) (p : Int) (t : ByteArray) : Inv (go s p t) := by
  unfold Hist.go
  split
  · next hp => exact h.gone hp.1 hp.2 t
  · exact h
theorem go_h (p : Int) (t : ByteArray) (h : HB w0 w b r s) (T : ByteArray) (hT : goT s p t = T) (c : Int) (hc : goE s p = c) (s' : HS) (hs : go s p t = s') : Calls Tryd.prog 19 #[.pointer (some ⟨b, 0, none⟩), .int .i64 p, .string t] w fun e w' => e = .returned (.tuple #[.string T, .int .i64 c]) ∧ ∃ r', HB w0 w' b r' s' ∧ Upd (foot b r) w w' ∧ Fr w b r r' := by
  subst hT; subst hc; subst hs
  unfold go goT goE
  by_cases hp : 0 ≤ p ∧ p ≤ (s.ents.length : Int)
  · simp only [if_pos hp]
    refine (go_ h.at_ h.inv p t hp.1 hp.2).mono ?_
    rintro e w' ⟨rfl, r', ha, hu, hf⟩
    exact ⟨rfl, r', h.step ha hu hf (h.inv.gone hp.1 hp.2 t), hu, hf⟩
  · simp only [if_neg hp]
    refine (go_range h.at_ p t (by omega)).mono ?_
    rintro e w' ⟨rfl, rfl⟩
    exact ⟨rfl, r, h.later ((Below.refl _ _).alloc (Nat.le_refl _) _), (Upd.refl _ _).alloc _, Fr.same _ _ _⟩
/-- A list that was answered: new, and no part of the history. -/
structure Out (w0 w : World) (b : Nat) (r : Pr) (l : Value) (xs : List ByteArray) : Prop where
  own : Own w l xs
  new : ∀ k, l.ownBlock = some k → w0.heap.size ≤ k
  far : ∀ k, l.ownBlock = some k → ¬ foot b r k
theorem Out.step {l : Value} {xs : List ByteArray} (h : Out w0 w b r l xs) (hu : Upd (foot b r) w w') (hf : Fr w b r r') : Out w0 w' b r' l xs :=
  ⟨h.own.upd hu h.far, h.new, fun k hk hx => (hf k hx).elim (h.far k hk) (fun e => by have := h.own.lt k hk; omega)⟩
theorem Out.later {l : Value} {xs : List ByteArray} (h : Out w0 w b r l xs) (hb : Below w.heap.size w w') : Out w0 w' b r l xs := ⟨h.own.upd (Upd.below hb No) (fun _ _ h => h), h.new, h.far⟩
theorem entries_h (h : HB w0 w b r s) : Calls Tryd.prog 12 #[.pointer (some ⟨b, 0, none⟩)] w fun e w' => ∃ l, e = .returned l ∧ Out w0 w' b r l s.ents ∧ HB w0 w' b r s ∧ Below w.heap.size w w' ∧ ∀ k, l.ownBlock = some k → w.heap.size ≤ k := by
  refine (entries w b r s h.at_ (by have := h.inv.l1; omega)).mono ?_
  rintro e w' ⟨l, rfl, ho, hk, hb⟩
  exact ⟨l, rfl, ⟨ho, fun k e => Nat.le_trans h.below.size (hk k e), fun k e hf => by have := hk k e; have := h.at_.lt k hf; omega⟩, h.later hb, hb, hk⟩
theorem own_reads {A : Option Addr} {n c : Nat} {xs : List ByteArray} (h : Own w (.slice A n c) xs) : Reads w w.heap.size 1 A n (xs.map Value.string) := by
  obtain ⟨A', c', he, _⟩ := h.form
  injection he with h1 h2 h3
  subst h2
  exact Reads.of_own h
theorem Own.at_ {A : Option Addr} {n c : Nat} {xs : List ByteArray} (h : Own w (.slice A n c) xs) {k : Nat} (hk : k < xs.length) : ∃ g, A = some ⟨g, 0, none⟩ ∧ w.cell? ⟨g, k, none⟩ = some (.string (xs.getD k E)) ∧ n = xs.length ∧ w.frozen? ⟨g, k, none⟩ = false := by
  obtain ⟨g, c', he, _, hc, hf⟩ := h.some_ (by omega)
  injection he with h1 h2 h3
  exact ⟨g, h1, hc k hk, h2, hf k⟩
end
theorem reads_at {W w : World} {A : Option Addr} {l : Nat} {xs : List ByteArray} (hr : Reads W W.heap.size 1 A l (xs.map Value.string)) (hb : Below W.heap.size W w) {i : Nat} (hi : i < l) : ∃ ad, A = some ad ∧ w.cell? (ad.add i) = some (.string (xs.getD i E)) ∧ i < xs.length := by
  obtain ⟨ad, u, rfl, hlt, hu, hc⟩ := hr.at_ hi
  have hl : i < xs.length := by simpa using (List.getElem?_eq_some_iff.1 hu).1
  refine ⟨ad, rfl, ?_, hl⟩
  rw [World.cell?_of_block (hb.block _ (by rw [block_of_add]; exact hlt)), hc]
  simp [hl] at hu
  subst hu
  simp [List.getD, hl]
theorem take_foldl {α β : Type} (f : β → α → β) (z : β) (xs : List α) (i : Nat) (d : α) (hi : i < xs.length) : (xs.take (i + 1)).foldl f z = f ((xs.take i).foldl f z) (xs.getD i d) := by
  rw [List.take_succ_eq_append_getElem hi, List.foldl_append]
  simp [List.getD, hi]
/-- The state of a filled history. -/
def fill (n : Int) (xs : List ByteArray) : HS := xs.foldl add (start n)
theorem filled (W w : World) (n : Int) (A : Option Addr) (l c : Nat) (xs : List ByteArray) (hb : Below W.heap.size W w) (hr : Reads W W.heap.size 1 A l (xs.map Value.string)) (hlc : l ≤ c) (hl : l ≤ 10000000000000) :
    Calls Tryd.prog 11 #[.int .i64 n, .slice A l c] w fun e w' => ∃ b r, e = .returned (.pointer (some ⟨b, 0, none⟩)) ∧ HB W w' b r (fill n xs) := by
  have HR := Lib.hid hr
  have HB0 := Lib.hid hb
  have hx : xs.length = l := by simpa using hr.1
  clear hr hb
  go_enter Tryd.func11, Tryd.ntmps11
  go_wp2_with (go_at_call 22; refine (new_h (w0 := W) n HB0.out).mono ?_; rintro e w2 ⟨b, rfl, hp0, _, _⟩; have HP0 := Lib.hid hp0; clear hp0)
  go_loopg [6] l (fun k v6 w' => ∃ i : Nat, v6 = .int .i64 i ∧ i + k = l ∧ ∃ r, Hid (HB W w' b r ((xs.take i).foldl add (start n))))
  case atStart => exact ⟨0, rfl, by omega, _, HP0⟩
  case round =>
    clear HP0
    obtain ⟨i, rfl, hik, r, HP⟩ := hrel
    cases gk with
    | succ k1 =>
      have hi : i < l := by omega
      have e1 : decide ((i : Int) < (l : Int)) = true := by simp [hi]
      obtain ⟨ad, rfl, hcell, hi2⟩ := reads_at HR.out HP.out.below hi
      have HS : Hid ((xs.take (i + 1)).foldl add (start n) = add ((xs.take i).foldl add (start n)) (xs.getD i E)) := Lib.hid (take_foldl _ _ _ _ _ hi2)
      generalize (xs.take i).foldl add (start n) = s0 at *
      generalize xs.getD i E = t0 at *
      go_wp2_with (go_at_call 24; refine (add_h t0 HP.out _ rfl _ rfl).mono ?_; rintro e w3 ⟨rfl, r1, hp1, _, _⟩; have HP1 := Lib.hid hp1; clear hp1)
      go_roundg k1
      case measure => omega
      case rel => exact ⟨i + 1, by simp, by omega, r1, by rw [HS.out]; exact HP1⟩
    | zero =>
      have e1 : decide ((i : Int) < (l : Int)) = false := by simp; omega
      have e0 : xs.take i = xs := List.take_of_length_le (by omega)
      rw [e0] at HP
      clear e0
      go_wp2
      go_ret
      exact ⟨b, r, rfl, HP.out⟩
end Hist
end Go.Proofs.YtjghfdhahkokhaaDoor
