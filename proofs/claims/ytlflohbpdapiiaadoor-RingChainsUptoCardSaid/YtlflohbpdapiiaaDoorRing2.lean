/- The program's ring: Kill, Yank, Pop, Clone, and the methods of a nil ring. -/
import Derived.Test.YtlflohbpdapiiaaDoorRing
import Derived.RegionTactic
import Derived.BigRegion
set_option linter.unusedVariables false
namespace Go.Proofs.YtlflohbpdapiiaaDoor.Ring
open Go.RowKit Go.Proofs.YtlflohbpdapiiaaDoorW.PrintWords Go.Proofs.YtlflohbpdapiiaaDoor.Sep Go.Proofs.YtlflohbpdapiiaaDoor.Libs

theorem kill_empty (w : World) (b : Nat) (t : ByteArray) (ah : Bool) (ht : t.toList.isEmpty = true) : Calls Tryd.prog 13 #[.pointer (some ⟨b, 0, none⟩), .string t, .bool ah] w fun e w' => e = .returned (.bool false) ∧ w = w' := by
  go_enter Tryd.func13, Tryd.ntmps13
  go_wp2
  go_ret
  exact ⟨rfl, rfl⟩

set_option maxHeartbeats 800000 in
theorem kill_new (w : World) (b : Nat) (v : Value) (s : RS) (t : ByteArray) (ah : Bool) (h : At w b v s) (hn : s.ents.length ≤ 100000) (h0 : 0 ≤ s.bound) (h1 : s.bound ≤ 1000) (ht : t.toList.isEmpty = false) (hj : ¬ (s.state = 1 ∧ 0 < s.ents.length)) :
    Calls Tryd.prog 13 #[.pointer (some ⟨b, 0, none⟩), .string t, .bool ah] w fun e w' => ∃ v', e = .returned (.bool (decide (0 < s.bound))) ∧ At w' b v' { s with ents := (t :: s.ents).take s.bound.toNat, state := 1 } ∧ Upd (foot b v) w w' ∧ ∀ k, v'.ownBlock = some k → v.ownBlock = some k ∨ w.heap.size ≤ k := by
  obtain ⟨c0, c1, c2, c3, hf⟩ := h.cells
  have HI := Lib.hid (add (w.setCell ⟨b, 2, none⟩ (.int .i64 1)) b v { s with state := 1 } t (h.setState 1) hn h0 h1)
  obtain ⟨A, c, hv, hl⟩ := h.2.form
  clear h
  by_cases hs : s.state = 1
  · have hs1 : (s.state == 1) = true := by simp [hs]
    have hl0 : s.ents.length = 0 := by omega
    rw [hl0] at hv
    subst hv
    have HS := Lib.hid hs
    clear hs hj hl0 hl
    go_enter Tryd.func13, Tryd.ntmps13
    go_wp2_with (go_at_call 28; refine HI.out.mono ?_; rintro e w1 ⟨v', rfl, ha, hu, hk⟩)
    go_ret
    exact ⟨_, rfl, ha, ((Upd.refl _ w).setCell (p := ⟨b, 2, none⟩) (.inl (.inl rfl)) _).trans ⟨hu.os, hu.tape, hu.output, by simpa [World.setCell] using hu.size, fun k hk hn => hu.block k hk hn⟩, fun k h => by simpa [World.setCell] using hk k h⟩
  · have hs1 : (s.state == 1) = false := by simp [hs]
    clear hj
    go_enter Tryd.func13, Tryd.ntmps13
    go_wp2_with (go_at_call 28; refine HI.out.mono ?_; rintro e w1 ⟨v', rfl, ha, hu, hk⟩)
    go_ret
    exact ⟨_, rfl, ha, ((Upd.refl _ w).setCell (p := ⟨b, 2, none⟩) (.inl (.inl rfl)) _).trans ⟨hu.os, hu.tape, hu.output, by simpa [World.setCell] using hu.size, fun k hk hn => hu.block k hk hn⟩, fun k h => by simpa [World.setCell] using hk k h⟩

def joined (ah : Bool) (t x : ByteArray) : ByteArray := match ah with | true => t ++ x | false => x ++ t
theorem At.setText {w : World} {b : Nat} {g c n : Nat} {s : RS} (h : At w b (.slice (some ⟨g, 0, none⟩) n c) s) (j : Nat) (hj : j < s.ents.length) (x : ByteArray) : At (w.setCell ⟨g, j, none⟩ (.string x)) b (.slice (some ⟨g, 0, none⟩) n c) { s with ents := s.ents.set j x } :=
  ⟨h.1.far (p := ⟨g, j, none⟩) (fun e => h.ne (by rw [e]; rfl)) _, h.2.set_ rfl j hj x⟩
set_option maxHeartbeats 800000 in
theorem kill_join (w : World) (b : Nat) (v : Value) (s : RS) (t : ByteArray) (ah : Bool) (h : At w b v s) (ht : t.toList.isEmpty = false) (hs : s.state = 1) (hl : 0 < s.ents.length) (hz : t.size + (s.ents.getD 0 ByteArray.empty).size ≤ 9223372036854775807) :
    Calls Tryd.prog 13 #[.pointer (some ⟨b, 0, none⟩), .string t, .bool ah] w fun e w' => e = .returned (.bool true) ∧ At w' b v { s with ents := s.ents.set 0 (joined ah t (s.ents.getD 0 ByteArray.empty)), state := 1 } ∧ Upd (foot b v) w w' := by
  obtain ⟨c0, c1, c2, c3, hf⟩ := h.cells
  obtain ⟨g, c, rfl, hlc, hcells, hfr⟩ := h.2.some_ hl
  have hg0 := hcells 0 hl
  have hg1 := hfr 0
  have hne : g ≠ b := fun e => h.ne (by rw [e]; rfl)
  have hs1 : (s.state == 1) = true := by simp [hs]
  generalize hx : s.ents.getD 0 ByteArray.empty = x at *
  have HA := Lib.hid h
  have HX := Lib.hid hx
  have HS := Lib.hid hs
  have hz' : x.size + t.size ≤ 9223372036854775807 := by omega
  clear h hcells hfr hx hs
  cases ah with
  | true =>
    go_enter Tryd.func13, Tryd.ntmps13
    go_wp2
    go_region
    all_goals
      go_wp2
      go_ret
      exact ⟨rfl, (HA.out.setState 1).setText 0 hl _, (((Upd.refl _ w).setCell (p := ⟨b, 2, none⟩) (.inl (.inl rfl)) _).setCell (p := ⟨g, 0, none⟩) (.inl (.inr rfl)) _).drew⟩
  | false =>
    go_enter Tryd.func13, Tryd.ntmps13
    go_wp2
    go_ret
    exact ⟨rfl, (HA.out.setState 1).setText 0 hl _, ((Upd.refl _ w).setCell (p := ⟨b, 2, none⟩) (.inl (.inl rfl)) _).setCell (p := ⟨g, 0, none⟩) (.inl (.inr rfl)) _⟩

theorem yank_none (w : World) (b : Nat) (v : Value) (s : RS) (h : At w b v s) (hl : s.ents.length = 0) :
    Calls Tryd.prog 17 #[.pointer (some ⟨b, 0, none⟩)] w fun e w' => e = .returned (.tuple #[.string ⟨#[]⟩, .int .i64 5]) ∧ w.setCell ⟨b, 2, none⟩ (.int .i64 0) = w' := by
  have HL := Lib.hid (len w b v s h)
  have HS := Lib.hid (stop w b v s h)
  have h0 : ((s.ents.length : Int) == 0) = true := by simp [hl]
  clear h hl
  go_enter Tryd.func17, Tryd.ntmps17
  go_wp2_with (first | (go_at_call 25; refine HL.out.mono ?_; rintro e w' ⟨rfl, rfl⟩) | (go_at_call 16; refine HS.out.mono ?_; rintro e w' ⟨rfl, rfl⟩))
  go_ret2
  exact ⟨rfl, rfl⟩
set_option maxHeartbeats 800000 in
theorem yank_some (w : World) (b : Nat) (v : Value) (s : RS) (h : At w b v s) (hl : 0 < s.ents.length) :
    Calls Tryd.prog 17 #[.pointer (some ⟨b, 0, none⟩)] w fun e w' => e = .returned (.tuple #[.string (s.ents.getD 0 ByteArray.empty), .int .i64 0]) ∧ (w.setCell ⟨b, 2, none⟩ (.int .i64 2)).setCell ⟨b, 3, none⟩ (.int .i64 0) = w' := by
  have HL := Lib.hid (len w b v s h)
  have h0 : ((s.ents.length : Int) == 0) = false := by rw [beq_eq_false_iff_ne]; omega
  obtain ⟨c0, c1, c2, c3, hf⟩ := h.cells
  obtain ⟨g, c, rfl, hlc, hcells, hfr⟩ := h.2.some_ hl
  have hg0 := hcells 0 hl
  have hne : g ≠ b := fun e => h.ne (by rw [e]; rfl)
  generalize s.ents.getD 0 ByteArray.empty = x at *
  clear h hcells hfr
  go_enter Tryd.func17, Tryd.ntmps17
  go_wp2_with (go_at_call 25; refine HL.out.mono ?_; rintro e w' ⟨rfl, rfl⟩)
  go_ret2
  exact ⟨rfl, rfl⟩
theorem pop_none (w : World) (b : Nat) (v : Value) (s : RS) (h : At w b v s) (hs : (s.state == 2) = false) :
    Calls Tryd.prog 18 #[.pointer (some ⟨b, 0, none⟩)] w fun e w' => e = .returned (.tuple #[.string ⟨#[]⟩, .string ⟨#[]⟩, .int .i64 6]) ∧ w.setCell ⟨b, 2, none⟩ (.int .i64 0) = w' := by
  have HY := Lib.hid (yanking w b v s h)
  have HS := Lib.hid (stop w b v s h)
  clear h
  go_enter Tryd.func18, Tryd.ntmps18
  go_wp2_with (first | (go_at_call 26; refine HY.out.mono ?_; rintro e w' ⟨rfl, rfl⟩) | (go_at_call 16; refine HS.out.mono ?_; rintro e w' ⟨rfl, rfl⟩))
  go_ret3
  exact ⟨rfl, rfl⟩
set_option maxHeartbeats 800000 in
theorem pop_some (w : World) (b : Nat) (v : Value) (s : RS) (h : At w b v s) (hs : (s.state == 2) = true) (hp0 : 0 ≤ s.place) (hp1 : s.place < (s.ents.length : Int)) (hn : s.ents.length ≤ 100000) :
    Calls Tryd.prog 18 #[.pointer (some ⟨b, 0, none⟩)] w fun e w' => e = .returned (.tuple #[.string (s.ents.getD s.place.toNat ByteArray.empty), .string (s.ents.getD ((s.place + 1) % s.ents.length).toNat ByteArray.empty), .int .i64 0]) ∧ At w' b v { s with place := (s.place + 1) % s.ents.length } ∧ Upd (foot b v) w w' := by
  have HY := Lib.hid (yanking w b v s h)
  have HA := Lib.hid h
  obtain ⟨c0, c1, c2, c3, hf⟩ := h.cells
  obtain ⟨g, c, rfl, hlc, hcells, hfr⟩ := h.2.some_ (by omega)
  have hq0 : 0 ≤ (s.place + 1) % (s.ents.length : Int) := Int.emod_nonneg _ (by omega)
  have hq1 : (s.place + 1) % (s.ents.length : Int) < (s.ents.length : Int) := Int.emod_lt_of_pos _ (by omega)
  generalize hq : (s.place + 1) % (s.ents.length : Int) = q at *
  have hg0 := hcells s.place.toNat (by omega)
  have hg1 := hcells q.toNat (by omega)
  have hne : g ≠ b := fun e => h.ne (by rw [e]; rfl)
  have hm0 : ¬ ((s.ents.length : Int) = 0) := by omega
  generalize s.ents.getD s.place.toNat ByteArray.empty = x at *
  generalize s.ents.getD q.toNat ByteArray.empty = y at *
  clear h hcells hfr
  go_enter Tryd.func18, Tryd.ntmps18
  go_wp2_with (go_at_call 26; refine HY.out.mono ?_; rintro e w' ⟨rfl, rfl⟩)
  go_quiet (fail)
  go_wp2
  go_region
  all_goals
    go_wp2
    go_quiet (fail)
    go_wp2
    go_ret3
    exact ⟨rfl, HA.out.setPlace q, ((((Upd.refl _ w).drewN _).setCell (p := ⟨b, 3, none⟩) (.inl (.inl rfl)) _).drewN _)⟩

set_option maxHeartbeats 800000 in
theorem clone_ring (w : World) (b : Nat) (v : Value) (s : RS) (h : At w b v s) (hn : s.ents.length ≤ 100000) :
    Calls Tryd.prog 20 #[.pointer (some ⟨b, 0, none⟩)] w fun e w' => ∃ b' v', e = .returned (.pointer (some ⟨b', 0, none⟩)) ∧ At w' b' v' s ∧ (∀ k, foot b' v' k → w.heap.size ≤ k) ∧ Below w.heap.size w w' := by
  obtain ⟨c0, c1, c2, c3, hf⟩ := h.cells
  have HB := Lib.hid h.1
  have hbw := h.1.lt
  have HC := fun o : Obj => Lib.hid (clone v s.ents (w.alloc o) (h.2.upd ((Upd.refl No w).alloc o) (fun _ _ h => h)) hn)
  obtain ⟨A, c, rfl, hlc⟩ := h.2.form
  clear h
  go_enter Tryd.func20, Tryd.ntmps20
  go_wp2_with fail
  refine (HC _).out.mono ?_
  rintro e w1 ⟨v', rfl, ho, hk, hbl⟩
  obtain ⟨A', c', rfl, hl'⟩ := ho.form
  have HO := Lib.hid ho
  have HK := Lib.hid hk
  have HW := Lib.hid hbl
  have HN := Lib.hid ((Blk.new w 53 #[.int .i64 s.bound, .slice A s.ents.length c, .int .i64 s.state, .int .i64 s.place]).keep (hbl.block w.heap.size (by simp)))
  have e1 := HN.out.cell 1
  have e2 := HN.out.frozen 1
  have hs1 : w.heap.size < w1.heap.size := HN.out.lt
  clear ho hk hbl
  simp only [List.getElem?_toArray, List.getElem?_cons_succ, List.getElem?_cons_zero] at e1
  go_wp2
  go_ret
  refine ⟨_, _, rfl, At.setEnts HN.out HO.out, fun k hk => ?_, ?_⟩
  · rcases hk with rfl | hk
    · exact Nat.le_refl _
    · have := HK.out k hk
      simp at this
      omega
  · exact ((((Below.refl w.heap.size w).alloc (Nat.le_refl _) _)).trans (HW.out.mono (by simp))).setCell (Nat.le_refl _) _
theorem nil_bound (w : World) : Calls Tryd.prog 19 #[.pointer none] w fun e w' => e = .returned (.int .i64 0) ∧ w = w' := by
  go_enter Tryd.func19, Tryd.ntmps19
  go_wp2
  go_ret
  exact ⟨rfl, rfl⟩
theorem nil_len (w : World) : Calls Tryd.prog 25 #[.pointer none] w fun e w' => e = .returned (.int .i64 0) ∧ w = w' := by
  go_enter Tryd.func25, Tryd.ntmps25
  go_wp2
  go_ret
  exact ⟨rfl, rfl⟩
theorem nil_all (w : World) : Calls Tryd.prog 12 #[.pointer none] w fun e w' => e = .returned (.slice none 0 0) ∧ w = w' := by
  go_enter Tryd.func12, Tryd.ntmps12
  go_wp2
  go_ret
  exact ⟨rfl, rfl⟩
theorem nil_killing (w : World) : Calls Tryd.prog 15 #[.pointer none] w fun e w' => e = .returned (.bool false) ∧ w = w' := by
  go_enter Tryd.func15, Tryd.ntmps15
  go_wp2
  go_ret
  exact ⟨rfl, rfl⟩
theorem nil_yanking (w : World) : Calls Tryd.prog 26 #[.pointer none] w fun e w' => e = .returned (.bool false) ∧ w = w' := by
  go_enter Tryd.func26, Tryd.ntmps26
  go_wp2
  go_ret
  exact ⟨rfl, rfl⟩
theorem nil_stop (w : World) : Calls Tryd.prog 16 #[.pointer none] w fun e w' => e = .returned (.tuple #[]) ∧ w = w' := by
  go_enter Tryd.func16, Tryd.ntmps16
  go_wp2
  go_returns
  exact ⟨rfl, rfl⟩
theorem nil_clone (w : World) : Calls Tryd.prog 20 #[.pointer none] w fun e w' => e = .returned (.pointer none) ∧ w = w' := by
  go_enter Tryd.func20, Tryd.ntmps20
  go_wp2
  go_ret
  exact ⟨rfl, rfl⟩
theorem nil_kill (w : World) (t : ByteArray) (ah : Bool) : Calls Tryd.prog 13 #[.pointer none, .string t, .bool ah] w fun e w' => e = .returned (.bool false) ∧ w = w' := by
  go_enter Tryd.func13, Tryd.ntmps13
  go_wp2
  go_ret
  exact ⟨rfl, rfl⟩
theorem nil_copy (w : World) (t : ByteArray) : Calls Tryd.prog 11 #[.pointer none, .string t] w fun e w' => e = .returned (.bool false) ∧ w = w' := by
  go_enter Tryd.func11, Tryd.ntmps11
  go_wp2
  go_ret
  exact ⟨rfl, rfl⟩
theorem nil_yank (w : World) : Calls Tryd.prog 17 #[.pointer none] w fun e w' => e = .returned (.tuple #[.string ⟨#[]⟩, .int .i64 5]) ∧ w = w' := by
  go_enter Tryd.func17, Tryd.ntmps17
  go_wp2_with (first | (go_at_call 25; refine (nil_len _).mono ?_; rintro e w' ⟨rfl, rfl⟩) | (go_at_call 16; refine (nil_stop _).mono ?_; rintro e w' ⟨rfl, rfl⟩))
  go_ret2
  exact ⟨rfl, rfl⟩
theorem nil_pop (w : World) : Calls Tryd.prog 18 #[.pointer none] w fun e w' => e = .returned (.tuple #[.string ⟨#[]⟩, .string ⟨#[]⟩, .int .i64 6]) ∧ w = w' := by
  go_enter Tryd.func18, Tryd.ntmps18
  go_wp2_with (first | (go_at_call 26; refine (nil_yanking _).mono ?_; rintro e w' ⟨rfl, rfl⟩) | (go_at_call 16; refine (nil_stop _).mono ?_; rintro e w' ⟨rfl, rfl⟩))
  go_ret3
  exact ⟨rfl, rfl⟩
end Go.Proofs.YtlflohbpdapiiaaDoor.Ring
