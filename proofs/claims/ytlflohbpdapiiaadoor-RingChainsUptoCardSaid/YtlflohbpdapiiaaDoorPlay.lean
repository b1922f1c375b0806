/- The law's helpers: kills, agree, play. -/
import Derived.Test.YtlflohbpdapiiaaDoorBoth
set_option linter.unusedVariables false
namespace Go.Proofs.YtlflohbpdapiiaaDoor
open Go.RowKit Go.Proofs.YtlflohbpdapiiaaDoorW.PrintWords Go.Proofs.YtlflohbpdapiiaaDoor.Sep Go.Proofs.YtlflohbpdapiiaaDoor.Libs
open Go.Proofs.YtlflohbpdapiiaaDoor.Ring (RS foot joined)
namespace Both

/-- A ring of the program that lies in new memory only. -/
structure PB (w0 w : World) (b : Nat) (v : Value) (s : RS) : Prop where
  at_ : PAt w b v s
  new : ∀ k, foot b v k → w0.heap.size ≤ k
  below : Below w0.heap.size w0 w
  inv : Inv s
theorem foot_fr {w : World} {b : Nat} {v v' : Value} (hf : Fr w v v') : ∀ k, foot b v' k → foot b v k ∨ w.heap.size ≤ k := Ring.sub_foot hf
theorem PB.step {w0 w w' : World} {b : Nat} {v v' : Value} {s s' : RS} (h : PB w0 w b v s) (ha : PAt w' b v' s') (hu : Upd (foot b v) w w') (hf : Fr w v v') (hi : Inv s') : PB w0 w' b v' s' :=
  ⟨ha, fun k hk => (foot_fr hf k hk).elim (h.new k) (fun e => Nat.le_trans h.below.size e), h.below.trans (hu.toBelow h.below.size h.new), hi⟩
theorem PB.later {w0 w w' : World} {b : Nat} {v : Value} {s : RS} (h : PB w0 w b v s) (hb : Below w.heap.size w w') : PB w0 w' b v s :=
  ⟨h.at_.upd (Upd.below hb No) (fun _ _ h => h), h.new, h.below.trans (hb.mono h.below.size), h.inv⟩

theorem new_b (w0 w : World) (n : Int) (hb : Below w0.heap.size w0 w) : Calls Tryd.prog 10 #[.int .i64 n] w fun e w' => ∃ b, e = .returned (.pointer (some ⟨b, 0, none⟩)) ∧ PB w0 w' b (.slice none 0 0) (start n) := by
  refine (new_p w n).mono ?_
  rintro e w' ⟨b, rfl, ha, hk, hw⟩
  exact ⟨b, rfl, ha, by rintro k (rfl | hk'); · exact Nat.le_trans hb.size hk
                        · simp [Value.ownBlock] at hk', hb.trans (hw.mono hb.size), Inv.start n⟩
theorem kill_b {w0 w : World} {b : Nat} {v : Value} {s : RS} (t : ByteArray) (ah : Bool) (h : PB w0 w b v s) (hz : (s.state = 1 ∧ 0 < s.ents.length) → t.size + (s.ents.getD 0 E).size ≤ 9223372036854775807) (r : Bool) (hr : kept s t = r) (s' : RS) (hs : kill s t ah = s') :
    Calls Tryd.prog 13 #[.pointer (some ⟨b, 0, none⟩), .string t, .bool ah] w fun e w' => e = .returned (.bool r) ∧ ∃ v', PB w0 w' b v' s' := by
  subst hr; subst hs
  refine (kill_p w b v s t ah h.at_ h.inv hz).mono ?_
  rintro e w' ⟨rfl, v', ha, hu, hf⟩
  exact ⟨rfl, v', h.step ha hu hf (h.inv.kill t ah)⟩
theorem copy_b {w0 w : World} {b : Nat} {v : Value} {s : RS} (t : ByteArray) (h : PB w0 w b v s) :
    Calls Tryd.prog 11 #[.pointer (some ⟨b, 0, none⟩), .string t] w fun e w' => e = .returned (.bool (kept s t)) ∧ ∃ v', PB w0 w' b v' (copy s t) := by
  refine (copy_p w b v s t h.at_ h.inv).mono ?_
  rintro e w' ⟨rfl, v', ha, hu, hf⟩
  exact ⟨rfl, v', h.step ha hu hf (h.inv.copy t)⟩
theorem killing_b {w0 w : World} {b : Nat} {v : Value} {s : RS} (h : PB w0 w b v s) (r : Bool) (hr : (s.state == 1) = r) : Calls Tryd.prog 15 #[.pointer (some ⟨b, 0, none⟩)] w fun e w' => e = .returned (.bool r) ∧ w = w' := by
  subst hr
  exact killing_p w b v s h.at_
theorem yanking_b {w0 w : World} {b : Nat} {v : Value} {s : RS} (h : PB w0 w b v s) (r : Bool) (hr : (s.state == 2) = r) : Calls Tryd.prog 26 #[.pointer (some ⟨b, 0, none⟩)] w fun e w' => e = .returned (.bool r) ∧ w = w' := by
  subst hr
  exact yanking_p w b v s h.at_
theorem stop_b {w0 w : World} {b : Nat} {v : Value} {s : RS} (h : PB w0 w b v s) : Calls Tryd.prog 16 #[.pointer (some ⟨b, 0, none⟩)] w fun e w' => e = .returned (.tuple #[]) ∧ PB w0 w' b v (stop s) := by
  refine (stop_p w b v s h.at_).mono ?_
  rintro e w' ⟨rfl, ha, hu⟩
  exact ⟨rfl, h.step ha hu (Fr.same _ _) h.inv.stop⟩
/-- A list that was answered: new, and no part of the ring. -/
structure Out (w0 w : World) (b : Nat) (v : Value) (l : Value) (xs : List ByteArray) : Prop where
  own : Own w l xs
  new : ∀ k, l.ownBlock = some k → w0.heap.size ≤ k
  far : ∀ k, l.ownBlock = some k → ¬ foot b v k
theorem all_b {w0 w : World} {b : Nat} {v : Value} {s : RS} (h : PB w0 w b v s) : Calls Tryd.prog 12 #[.pointer (some ⟨b, 0, none⟩)] w fun e w' => ∃ l, e = .returned l ∧ Out w0 w' b v l s.ents ∧ PB w0 w' b v s ∧ Below w.heap.size w w' := by
  refine (all_p w b v s h.at_ h.inv).mono ?_
  rintro e w' ⟨l, rfl, ho, hk, hb⟩
  exact ⟨l, rfl, ⟨ho, fun k e => Nat.le_trans h.below.size (hk k e), fun k e hf => by have := hk k e; have := h.at_.lt k hf; omega⟩, h.later hb, hb⟩
theorem yank_b {w0 w : World} {b : Nat} {v : Value} {s : RS} (h : PB w0 w b v s) : Calls Tryd.prog 17 #[.pointer (some ⟨b, 0, none⟩)] w fun e w' => e = .returned (.tuple #[.string (yankT s), .int .i64 (yankE s)]) ∧ PB w0 w' b v (yank s) ∧ Upd (foot b v) w w' := by
  refine (yank_p w b v s h.at_).mono ?_
  rintro e w' ⟨rfl, ha, hu⟩
  exact ⟨rfl, h.step ha hu (Fr.same _ _) h.inv.yank, hu⟩
theorem pop_b {w0 w : World} {b : Nat} {v : Value} {s : RS} (h : PB w0 w b v s) : Calls Tryd.prog 18 #[.pointer (some ⟨b, 0, none⟩)] w fun e w' => e = .returned (.tuple #[.string (popT s), .string (popU s), .int .i64 (popE s)]) ∧ PB w0 w' b v (pop s) ∧ Upd (foot b v) w w' := by
  refine (pop_p w b v s h.at_ h.inv).mono ?_
  rintro e w' ⟨rfl, ha, hu⟩
  exact ⟨rfl, h.step ha hu (Fr.same _ _) h.inv.pop, hu⟩

def tA : ByteArray := ⟨#[97]⟩
def sA : RS := ⟨2, [⟨#[97]⟩], 1, 0⟩
def sB : RS := ⟨2, [⟨#[97, 98]⟩], 1, 0⟩
def sC : RS := ⟨2, [⟨#[99, 97, 98]⟩], 1, 0⟩
def sE : RS := ⟨2, [⟨#[99, 97, 98]⟩], 0, 0⟩
def sD : RS := ⟨2, [⟨#[100]⟩, ⟨#[99, 97, 98]⟩], 1, 0⟩
theorem one_ne (x : UInt8) : ¬ (⟨#[x]⟩ : ByteArray).toList.isEmpty = true := by simp [ByteArray.toList_eq]
theorem kill_1 (s : RS) (x : UInt8) (ah : Bool) (s' : RS) (h : (if s.state = 1 ∧ 0 < s.ents.length then { s with ents := s.ents.set 0 (joined ah ⟨#[x]⟩ (s.ents.getD 0 E)), state := 1 }
  else { s with ents := ((⟨#[x]⟩ : ByteArray) :: s.ents).take s.bound.toNat, state := 1 }) = s') : kill s ⟨#[x]⟩ ah = s' := by
  unfold kill
  rw [if_neg (one_ne x)]
  exact h
theorem kept_1 (s : RS) (x : UInt8) (h : 0 < s.bound) : kept s ⟨#[x]⟩ = true := by
  simp [kept, h]
theorem k1 : kill (start 2) ⟨#[97]⟩ false = sA := kill_1 _ _ _ _ (by kernel_rfl)
theorem k2 : kill sA ⟨#[98]⟩ false = sB := kill_1 _ _ _ _ (by kernel_rfl)
theorem k3 : kill sB ⟨#[99]⟩ true = sC := kill_1 _ _ _ _ (by kernel_rfl)
theorem k4 : kill sE ⟨#[100]⟩ false = sD := kill_1 _ _ _ _ (by kernel_rfl)
theorem q1 : kept (start 2) ⟨#[97]⟩ = true := kept_1 _ _ (by decide)
theorem q2 : kept sA ⟨#[98]⟩ = true := kept_1 _ _ (by decide)
theorem q3 : kept sB ⟨#[99]⟩ = true := kept_1 _ _ (by decide)
theorem q4 : kept sE ⟨#[100]⟩ = true := kept_1 _ _ (by decide)
theorem z1 : ((start 2).state = 1 ∧ 0 < (start 2).ents.length) → (⟨#[97]⟩ : ByteArray).size + ((start 2).ents.getD 0 E).size ≤ 9223372036854775807 := by decide
theorem z2 : (sA.state = 1 ∧ 0 < sA.ents.length) → (⟨#[98]⟩ : ByteArray).size + (sA.ents.getD 0 E).size ≤ 9223372036854775807 := by decide
theorem z3 : (sB.state = 1 ∧ 0 < sB.ents.length) → (⟨#[99]⟩ : ByteArray).size + (sB.ents.getD 0 E).size ≤ 9223372036854775807 := by decide
theorem z4 : (sE.state = 1 ∧ 0 < sE.ents.length) → (⟨#[100]⟩ : ByteArray).size + (sE.ents.getD 0 E).size ≤ 9223372036854775807 := by decide
/-- The list that All answers in the example: its two cells, and what Yank leaves of them. -/
theorem all_k {w0 w : World} {b : Nat} {v : Value} (h : PB w0 w b v sD) : Calls Tryd.prog 12 #[.pointer (some ⟨b, 0, none⟩)] w fun e w' => ∃ g c, e = .returned (.slice (some ⟨g, 0, none⟩) 2 c) ∧ 2 ≤ c ∧ PB w0 w' b v sD ∧ ¬ foot b v g ∧ w'.cell? ⟨g, 0, none⟩ = some (.string ⟨#[100]⟩) ∧ w'.cell? ⟨g, 1, none⟩ = some (.string ⟨#[99, 97, 98]⟩) := by
  refine (all_b h).mono ?_
  rintro e w' ⟨l, rfl, ho, hp, _⟩
  obtain ⟨g, c, rfl, hc, hcell, _⟩ := ho.own.some_ (by decide)
  exact ⟨g, c, rfl, hc, hp, ho.far g rfl, hcell 0 (by decide), hcell 1 (by decide)⟩
theorem yank_k {w0 w : World} {b g : Nat} {v x y : Value} (h : PB w0 w b v sD) (hg : ¬ foot b v g) (h0 : w.cell? ⟨g, 0, none⟩ = some x) (h1 : w.cell? ⟨g, 1, none⟩ = some y) :
    Calls Tryd.prog 17 #[.pointer (some ⟨b, 0, none⟩)] w fun e w' => e = .returned (.tuple #[.string ⟨#[100]⟩, .int .i64 0]) ∧ PB w0 w' b v (yank sD) ∧ w'.cell? ⟨g, 0, none⟩ = some x ∧ w'.cell? ⟨g, 1, none⟩ = some y := by
  refine (yank_b h).mono ?_
  rintro e w' ⟨rfl, hp, hu⟩
  exact ⟨rfl, hp, hu.cell h0 hg, hu.cell h1 hg⟩

set_option maxHeartbeats 1600000 in
theorem kills (w : World) : Calls Tryd.prog 9 #[] w fun e w' => e = .returned (.bool true) ∧ Below w.heap.size w w' := by
  go_enter Tryd.func9, Tryd.ntmps9
  go_wp2_with (first
    | (go_at_call 27; refine (Ring.next_a _).mono ?_; rintro e w1 ⟨rfl, hb⟩; have HW := Lib.hid hb; clear hb)
    | (go_at_call 10; refine (new_b w _ 2 HW.out).mono ?_; rintro e w2 ⟨b, rfl, hp⟩; have HP0 := Lib.hid hp; clear hp)
    | (go_at_call 13; refine (kill_b ⟨#[97]⟩ false HP0.out z1 true q1 sA k1).mono ?_; rintro e w3 ⟨rfl, v1, hp⟩; have HP1 := Lib.hid hp; clear hp HP0)
    | (go_at_call 13; refine (kill_b ⟨#[98]⟩ false HP1.out z2 true q2 sB k2).mono ?_; rintro e w4 ⟨rfl, v2, hp⟩; have HP2 := Lib.hid hp; clear hp HP1)
    | (go_at_call 13; refine (kill_b ⟨#[99]⟩ true HP2.out z3 true q3 sC k3).mono ?_; rintro e w5 ⟨rfl, v3, hp⟩; have HP3 := Lib.hid hp; clear hp HP2)
    | (go_at_call 15; refine (killing_b HP3.out true (by decide)).mono ?_; rintro e w6 ⟨rfl, rfl⟩)
    | (go_at_call 16; refine (stop_b HP3.out).mono ?_; rintro e w7 ⟨rfl, hp⟩; have HP4 : Hid (PB w w7 b v3 sE) := Lib.hid hp; clear hp HP3)
    | (go_at_call 13; refine (kill_b ⟨#[100]⟩ false HP4.out z4 true q4 sD k4).mono ?_; rintro e w8 ⟨rfl, v4, hp⟩; have HP5 := Lib.hid hp; clear hp HP4)
    | (go_at_call 12; refine (all_k HP5.out).mono ?_; rintro e w9 ⟨g, c, rfl, hc, hp, hg, g0, g1⟩; have HP6 := Lib.hid hp; have HG := Lib.hid hg; clear hp HP5 hg)
    | (go_at_call 17; refine (yank_k HP6.out HG.out g0 g1).mono ?_; rintro e w10 ⟨rfl, hp, e0, e1⟩; have HP7 := Lib.hid hp; clear hp HP6)
    | (go_at_call 26; refine (yanking_b HP7.out true (by decide)).mono ?_; rintro e w11 ⟨rfl, rfl⟩))
  go_ret
  exact ⟨rfl, HP7.out.below⟩
end Both
end Go.Proofs.YtlflohbpdapiiaaDoor
