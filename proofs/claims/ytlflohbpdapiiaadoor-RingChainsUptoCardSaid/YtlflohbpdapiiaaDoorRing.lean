/- The program's ring: what each method answers and leaves, told of a ring in memory. -/
import Derived.Test.YtlflohbpdapiiaaDoorLib
import Derived.Handy
import Derived.WalkSpells
import Derived.WalkLawsBesides
set_option linter.unusedVariables false
namespace Go.Proofs.YtlflohbpdapiiaaDoor.Ring
open Go.RowKit Go.Proofs.YtlflohbpdapiiaaDoorW.PrintWords Go.Proofs.YtlflohbpdapiiaaDoor.Sep Go.Proofs.YtlflohbpdapiiaaDoor.Libs

structure RS where
  bound : Int
  ents : List ByteArray
  state : Int
  place : Int

def At (w : World) (b : Nat) (v : Value) (s : RS) : Prop := Blk w b 53 #[.int .i64 s.bound, v, .int .i64 s.state, .int .i64 s.place] ∧ Own w v s.ents
theorem At.cells {w : World} {b : Nat} {v : Value} {s : RS} (h : At w b v s) : w.cell? ⟨b, 0, none⟩ = some (.int .i64 s.bound) ∧ w.cell? ⟨b, 1, none⟩ = some v ∧ w.cell? ⟨b, 2, none⟩ = some (.int .i64 s.state) ∧ w.cell? ⟨b, 3, none⟩ = some (.int .i64 s.place) ∧ ∀ j, w.frozen? ⟨b, j, none⟩ = false :=
  ⟨(h.1.cell 0).trans rfl, (h.1.cell 1).trans rfl, (h.1.cell 2).trans rfl, (h.1.cell 3).trans rfl, h.1.frozen⟩

theorem len (w : World) (b : Nat) (v : Value) (s : RS) (h : At w b v s) : Calls Tryd.prog 25 #[.pointer (some ⟨b, 0, none⟩)] w fun e w' => e = .returned (.int .i64 s.ents.length) ∧ w = w' := by
  obtain ⟨h0, h1, h2, h3, hf⟩ := h.cells
  obtain ⟨A, c, rfl, hl⟩ := h.2.form
  go_enter Tryd.func25, Tryd.ntmps25
  go_wp2
  go_ret
  exact ⟨rfl, rfl⟩
theorem bound (w : World) (b : Nat) (v : Value) (s : RS) (h : At w b v s) : Calls Tryd.prog 19 #[.pointer (some ⟨b, 0, none⟩)] w fun e w' => e = .returned (.int .i64 s.bound) ∧ w = w' := by
  obtain ⟨h0, h1, h2, h3, hf⟩ := h.cells
  go_enter Tryd.func19, Tryd.ntmps19
  go_wp2
  go_ret
  exact ⟨rfl, rfl⟩
theorem killing (w : World) (b : Nat) (v : Value) (s : RS) (h : At w b v s) : Calls Tryd.prog 15 #[.pointer (some ⟨b, 0, none⟩)] w fun e w' => e = .returned (.bool (s.state == 1)) ∧ w = w' := by
  obtain ⟨h0, h1, h2, h3, hf⟩ := h.cells
  go_enter Tryd.func15, Tryd.ntmps15
  go_wp2
  go_ret
  exact ⟨rfl, rfl⟩
theorem yanking (w : World) (b : Nat) (v : Value) (s : RS) (h : At w b v s) : Calls Tryd.prog 26 #[.pointer (some ⟨b, 0, none⟩)] w fun e w' => e = .returned (.bool (s.state == 2)) ∧ w = w' := by
  obtain ⟨h0, h1, h2, h3, hf⟩ := h.cells
  go_enter Tryd.func26, Tryd.ntmps26
  go_wp2
  go_ret
  exact ⟨rfl, rfl⟩
theorem stop (w : World) (b : Nat) (v : Value) (s : RS) (h : At w b v s) : Calls Tryd.prog 16 #[.pointer (some ⟨b, 0, none⟩)] w fun e w' => e = .returned (.tuple #[]) ∧ w.setCell ⟨b, 2, none⟩ (.int .i64 0) = w' := by
  obtain ⟨h0, h1, h2, h3, hf⟩ := h.cells
  go_enter Tryd.func16, Tryd.ntmps16
  go_wp2
  go_returns
  exact ⟨rfl, rfl⟩
theorem all (w : World) (b : Nat) (v : Value) (s : RS) (h : At w b v s) (hn : s.ents.length ≤ 100000) : Calls Tryd.prog 12 #[.pointer (some ⟨b, 0, none⟩)] w fun e w' => ∃ v', e = .returned v' ∧ Own w' v' s.ents ∧ (∀ k, v'.ownBlock = some k → w.heap.size ≤ k) ∧ Below w.heap.size w w' := by
  obtain ⟨h0, h1, h2, h3, hf⟩ := h.cells
  have HO := Lib.hid h.2
  clear h
  go_enter Tryd.func12, Tryd.ntmps12
  go_wp2_with (go_at_call 29; refine (clone v s.ents w HO.out hn).mono ?_; rintro e w' ⟨v', rfl, ho, hk, hb⟩)
  go_ret
  exact ⟨_, rfl, ho, hk, hb⟩

def foot (b : Nat) (v : Value) : Nat → Prop := fun k => k = b ∨ v.ownBlock = some k
section
variable {w w' : World} {b : Nat} {v : Value} {s : RS}
theorem At.ne (h : At w b v s) : v.ownBlock ≠ some b := own_blk_ne h.2 h.1 (by decide)
theorem At.upd {S : Nat → Prop} (h : At w b v s) (u : Upd S w w') (hb : ¬ S b) (hv : ∀ k, v.ownBlock = some k → ¬ S k) : At w' b v s := ⟨h.1.upd u hb, h.2.upd u hv⟩
theorem At.ownStay (h : At w b v s) (i : Nat) (x : Value) : Own (w.setCell ⟨b, i, none⟩ x) v s.ents :=
  h.2.keep fun k hk => Below.heap_setCell w ⟨b, i, none⟩ x k (fun e => h.ne (by rw [hk, e]))
theorem At.setState (h : At w b v s) (x : Int) : At (w.setCell ⟨b, 2, none⟩ (.int .i64 x)) b v { s with state := x } := ⟨h.1.set_ 2 _, h.ownStay 2 _⟩
theorem At.setPlace (h : At w b v s) (x : Int) : At (w.setCell ⟨b, 3, none⟩ (.int .i64 x)) b v { s with place := x } := ⟨h.1.set_ 3 _, h.ownStay 3 _⟩
/-- The entries are another row now. -/
theorem At.setEnts (hb : Blk w b 53 #[.int .i64 s.bound, v, .int .i64 s.state, .int .i64 s.place]) {v' : Value} {xs : List ByteArray} (ho : Own w v' xs) : At (w.setCell ⟨b, 1, none⟩ v') b v' { s with ents := xs } :=
  ⟨hb.set_ 1 _, ho.keep fun k hk => Below.heap_setCell w ⟨b, 1, none⟩ v' k (fun e => own_blk_ne ho hb (by decide) (by rw [hk, e]))⟩
end

set_option maxHeartbeats 400000 in
theorem new (w : World) (n : Int) : Calls Tryd.prog 10 #[.int .i64 n] w fun e w' => ∃ b, e = .returned (.pointer (some ⟨b, 0, none⟩)) ∧ At w' b (.slice none 0 0) ⟨min (max n 0) 1000, [], 0, 0⟩ ∧ w.heap.size ≤ b ∧ Below w.heap.size w w' := by
  go_enter Tryd.func10, Tryd.ntmps10
  go_wp2
  go_ret
  exact ⟨_, rfl, ⟨Blk.new _ _ _, Own.nil _⟩, Nat.le_refl _, (Below.refl _ _).alloc (Nat.le_refl _) _⟩

set_option maxHeartbeats 800000 in
theorem add (w : World) (b : Nat) (v : Value) (s : RS) (t : ByteArray) (h : At w b v s) (hn : s.ents.length ≤ 100000) (h0 : 0 ≤ s.bound) (h1 : s.bound ≤ 1000) :
    Calls Tryd.prog 28 #[.pointer (some ⟨b, 0, none⟩), .string t] w fun e w' => ∃ v', e = .returned (.bool (decide (0 < s.bound))) ∧ At w' b v' { s with ents := (t :: s.ents).take s.bound.toNat } ∧ Upd (foot b v) w w' ∧ ∀ k, v'.ownBlock = some k → v.ownBlock = some k ∨ w.heap.size ≤ k := by
  obtain ⟨c0, c1, c2, c3, hf⟩ := h.cells
  have HI := Lib.hid (insert0 v s.ents t w h.2 hn)
  have HN := Lib.hid h.ne
  have HB := Lib.hid h.1
  clear h
  go_enter Tryd.func28, Tryd.ntmps28
  have hbw : b < w.heap.size := HB.out.lt
  by_cases hlt : s.bound < (s.ents.length : Int) + 1
  · go_wp2_with (go_at_call 42; refine HI.out.mono ?_; rintro e w1 ⟨v', rfl, ho, hu, hk⟩; obtain ⟨g, c', rfl, hl, _, _⟩ := ho.some_ (by simp); have HO := Lib.hid ho; have HU := Lib.hid hu; have HK := Lib.hid hk; clear ho hu hk; have d0 := HU.out.cell c0 HN.out; have d1 := HU.out.cell c1 HN.out; have HB1 := Lib.hid (HB.out.upd HU.out HN.out); have df := fun j => HB1.out.frozen j; have hbw1 := HB1.out.lt)
    go_quiet (fail)
    simp only [List.length_cons] at hl
    have e0 : (s.bound ≤ (c' : Int)) := by omega
    go_wp2
    go_region
    all_goals
      go_wp2
      go_ret
      refine ⟨.slice (some ⟨g, 0, none⟩) s.bound.toNat c', rfl, ?_, ?_, HK.out⟩
      · have hB2 := (HB1.out.set_ 1 (.slice (some ⟨g, 0, none⟩) (s.ents.length + 1) c')).drewN (nq + 1)
        refine At.setEnts (s := s) hB2 ((HO.out.keep (fun k hk => ?_)).take rfl s.bound.toNat (by simp; omega))
        exact Below.heap_setCell w1 ⟨b, 1, none⟩ _ k (fun e => own_blk_ne HO.out HB1.out (by decide) (by rw [hk, e]))
      · exact ((((HU.out.mono (fun k hk => .inr hk)).setCell (p := ⟨b, 1, none⟩) (.inl (.inl rfl)) _).drewN _).setCell (p := ⟨b, 1, none⟩) (.inl (.inl rfl)) _)
  · go_wp2_with (go_at_call 42; refine HI.out.mono ?_; rintro e w1 ⟨v', rfl, ho, hu, hk⟩; obtain ⟨g, c', rfl, hl, _, _⟩ := ho.some_ (by simp); have HO := Lib.hid ho; have HU := Lib.hid hu; have HK := Lib.hid hk; clear ho hu hk; have d0 := HU.out.cell c0 HN.out; have d1 := HU.out.cell c1 HN.out; have HB1 := Lib.hid (HB.out.upd HU.out HN.out); have df := fun j => HB1.out.frozen j; have hbw1 := HB1.out.lt)
    go_quiet (fail)
    go_wp2
    go_ret
    refine ⟨_, rfl, ?_, ?_, HK.out⟩
    · have hk : (t :: s.ents).take s.bound.toNat = t :: s.ents := List.take_of_length_le (by simp; omega)
      rw [hk]
      exact At.setEnts HB1.out HO.out
    · exact ((HU.out.mono (fun k hk => .inr hk)).setCell (p := ⟨b, 1, none⟩) (.inl (.inl rfl)) _).drewN _

theorem sub_foot {w : World} {b : Nat} {v v' : Value} (hk : ∀ k, v'.ownBlock = some k → v.ownBlock = some k ∨ w.heap.size ≤ k) : ∀ k, foot b v' k → foot b v k ∨ w.heap.size ≤ k := fun k h => h.elim (fun e => .inl (.inl e)) (fun e => (hk k e).imp .inr id)

set_option maxHeartbeats 800000 in
theorem copy (w : World) (b : Nat) (v : Value) (s : RS) (t : ByteArray) (h : At w b v s) (hn : s.ents.length ≤ 100000) (h0 : 0 ≤ s.bound) (h1 : s.bound ≤ 1000) (ht : t.toList.isEmpty = false) :
    Calls Tryd.prog 11 #[.pointer (some ⟨b, 0, none⟩), .string t] w fun e w' => ∃ v', e = .returned (.bool (decide (0 < s.bound))) ∧ At w' b v' { s with ents := (t :: s.ents).take s.bound.toNat, state := 0 } ∧ Upd (foot b v) w w' ∧ ∀ k, v'.ownBlock = some k → v.ownBlock = some k ∨ w.heap.size ≤ k := by
  obtain ⟨c0, c1, c2, c3, hf⟩ := h.cells
  have HI := Lib.hid (add (w.setCell ⟨b, 2, none⟩ (.int .i64 0)) b v { s with state := 0 } t (h.setState 0) hn h0 h1)
  clear h
  go_enter Tryd.func11, Tryd.ntmps11
  go_wp2_with (go_at_call 28; refine HI.out.mono ?_; rintro e w1 ⟨v', rfl, ha, hu, hk⟩)
  go_ret
  exact ⟨_, rfl, ha, ((Upd.refl _ w).setCell (p := ⟨b, 2, none⟩) (.inl (.inl rfl)) _).trans ⟨hu.os, hu.tape, hu.output, by simpa [World.setCell] using hu.size, fun k hk hn => hu.block k hk hn⟩, fun k h => by simpa [World.setCell] using hk k h⟩
theorem copy_empty (w : World) (b : Nat) (t : ByteArray) (ht : t.toList.isEmpty = true) : Calls Tryd.prog 11 #[.pointer (some ⟨b, 0, none⟩), .string t] w fun e w' => e = .returned (.bool false) ∧ w = w' := by
  go_enter Tryd.func11, Tryd.ntmps11
  go_wp2
  go_ret
  exact ⟨rfl, rfl⟩
end Go.Proofs.YtlflohbpdapiiaaDoor.Ring
