/- The document's ring: push, Kill, Copy, Yank, Pop, Clone; SameTexts. -/
import Derived.Test.YtlflohbpdapiiaaDoorRef
import Derived.BigRegion
set_option linter.unusedVariables false
namespace Go.Proofs.YtlflohbpdapiiaaDoor.Ref
open Go.RowKit Go.Proofs.YtlflohbpdapiiaaDoorW.PrintWords Go.Proofs.YtlflohbpdapiiaaDoor.Sep Go.Proofs.YtlflohbpdapiiaaDoor.Libs
open Go.Proofs.YtlflohbpdapiiaaDoor.Ring (RS foot joined)

set_option maxHeartbeats 800000 in
theorem push (w : World) (b : Nat) (v : Value) (s : RS) (t : ByteArray) (h : At w b v s) (hn : s.ents.length ≤ 100000) (h0 : 0 ≤ s.bound) (h1 : s.bound ≤ 1000) :
    Calls Tryd.prog 43 #[.pointer (some ⟨b, 0, none⟩), .string t] w fun e w' => e = .returned (.tuple #[]) ∧ ∃ v', At w' b v' { s with ents := (t :: s.ents).take s.bound.toNat } ∧ Upd (foot b v) w w' ∧ ∀ k, v'.ownBlock = some k → v.ownBlock = some k ∨ w.heap.size ≤ k := by
  obtain ⟨i0, hi0, hz0, hz1, hz2⟩ := info_parts info9
  obtain ⟨c0, c1, c2, c3, hf⟩ := h.cells
  have HB := Lib.hid h.1
  have hbw := h.1.lt
  obtain ⟨A, c, rfl, hl⟩ := h.2.form
  have HR := Lib.hid (((Reads.of_own h.2).alloc (Nat.le_refl _) (.cells #[.string t] 9)).more (B' := (w.alloc (.cells #[.string t] 9)).heap.size) (by simp))
  have HT : Hid ((w.alloc (.cells #[.string t] 9)).ownsRow w.heap.size 9 1 (.slice (some ⟨w.heap.size, 0, none⟩) 1 1) 1 [.string t]) := ⟨rfl, .inr ⟨_, 1, #[.string t], rfl, Nat.le_refl _, heap_alloc_new w _, Nat.le_refl _, by unfold maxLen; omega, rfl, rfl⟩⟩
  clear h
  have key : ∀ (v1 : Value) (w1 : World), w1.ownsRow w.heap.size 9 1 v1 (1 + s.ents.length) ([.string t] ++ s.ents.map Value.string) → (w.alloc (.cells #[.string t] 9)).grownBy w1 (Value.slice (some ⟨w.heap.size, 0, none⟩) 1 1).ownBlock →
      ∃ g c', v1 = .slice (some ⟨g, 0, none⟩) (s.ents.length + 1) c' ∧ s.ents.length + 1 ≤ c' ∧ w.heap.size ≤ g ∧ Own w1 v1 (t :: s.ents) ∧ Below w.heap.size w w1 := by
    intro v1 w1 ho hg
    have ho' : Own w1 v1 (t :: s.ents) := Own.of_base (b := w.heap.size) (by rw [List.length_cons, Nat.add_comm]; exact ho)
    obtain ⟨g, c', rfl, hl', _, _⟩ := ho'.some_ (by simp)
    exact ⟨g, c', rfl, by simpa using hl', own_ge ho g rfl, ho', ((Below.refl w.heap.size w).alloc (Nat.le_refl _) _).grown hg (by simp) (by intro k hk; simp [Value.ownBlock] at hk; omega)⟩
  by_cases hlt : s.bound < (s.ents.length : Int) + 1
  all_goals
    go_enter Tryd.func43, Tryd.ntmps43
    go_wp2_with (at_builtin; refine wpList_append_any _ rfl (.tmp 7) (.tmp 11) _ rfl w.heap.size 9 i0 _ 1 16 Tryd.underlying22 hi0 hz0 hz1 hz2 rfl (by omega) (.slice (some ⟨w.heap.size, 0, none⟩) 1 1) 1 [.string t] rfl HT.out _ A s.ents.length c (s.ents.map Value.string) rfl HR.out (one_map _) (by simp only [maxLen]; omega) (by omega) (by simp) ?_; intro v1 w1 hown1 hg1 hat1; obtain ⟨g, c', rfl, hl', hg, ho, hbl⟩ := key v1 w1 hown1 hg1; have HO := Lib.hid ho; have HW := Lib.hid hbl; have hq := hbl.size; have d0 := (hbl.cell (p := ⟨b, 0, none⟩) hbw).trans c0; have d1 := (hbl.cell (p := ⟨b, 1, none⟩) hbw).trans c1; have df := fun j => (hbl.frozen (p := ⟨b, j, none⟩) hbw).trans (hf j); have e0 : s.bound ≤ (c' : Int) ∨ (s.ents.length : Int) + 1 ≤ s.bound := (by omega); clear hown1 hg1 hat1 ho hbl)
  · rcases e0 with e0 | e0
    · go_wp2
      go_returns
      have hB1 := HB.out.keep (w' := w1) (HW.out.block b hbw)
      refine ⟨rfl, .slice (some ⟨g, 0, none⟩) s.bound.toNat c', At.setEnts (s := s) hB1 (HO.out.take rfl s.bound.toNat (by simp; omega)), (Upd.below HW.out _).setCell (p := ⟨b, 1, none⟩) (.inl (.inl rfl)) _, fun k hk => .inr ?_⟩
      simp [Value.ownBlock] at hk; omega
    · omega
  · go_returns
    have hB1 := HB.out.keep (w' := w1) (HW.out.block b hbw)
    refine ⟨rfl, .slice (some ⟨g, 0, none⟩) (s.ents.length + 1) c', ?_, (Upd.below HW.out _).setCell (p := ⟨b, 1, none⟩) (.inl (.inl rfl)) _, fun k hk => .inr ?_⟩
    · have hk : (t :: s.ents).take s.bound.toNat = t :: s.ents := List.take_of_length_le (by simp; omega)
      rw [hk]
      exact At.setEnts (s := s) hB1 HO.out
    · simp [Value.ownBlock] at hk; omega

theorem gt_len (n : Nat) : decide (0 < (n : Int)) = decide (0 < n) := by
  rw [Bool.eq_iff_iff, decide_eq_true_eq, decide_eq_true_eq]; omega
theorem copy_empty (w : World) (b : Nat) (t : ByteArray) (ht : t.toList.isEmpty = true) : Calls Tryd.prog 36 #[.pointer (some ⟨b, 0, none⟩), .string t] w fun e w' => e = .returned (.bool false) ∧ w = w' := by
  go_enter Tryd.func36, Tryd.ntmps36
  go_wp2
  go_ret
  exact ⟨rfl, rfl⟩
theorem kill_empty (w : World) (b : Nat) (t : ByteArray) (ah : Bool) (ht : t.toList.isEmpty = true) : Calls Tryd.prog 35 #[.pointer (some ⟨b, 0, none⟩), .string t, .bool ah] w fun e w' => e = .returned (.bool false) ∧ w = w' := by
  go_enter Tryd.func35, Tryd.ntmps35
  go_wp2
  go_ret
  exact ⟨rfl, rfl⟩
set_option maxHeartbeats 800000 in
theorem copy (w : World) (b : Nat) (v : Value) (s : RS) (t : ByteArray) (h : At w b v s) (hn : s.ents.length ≤ 100000) (h0 : 0 ≤ s.bound) (h1 : s.bound ≤ 1000) (ht : t.toList.isEmpty = false) :
    Calls Tryd.prog 36 #[.pointer (some ⟨b, 0, none⟩), .string t] w fun e w' => e = .returned (.bool (decide (0 < ((t :: s.ents).take s.bound.toNat).length))) ∧ ∃ v', At w' b v' { s with ents := (t :: s.ents).take s.bound.toNat, state := 0, place := 0 } ∧ Upd (foot b v) w w' ∧ ∀ k, v'.ownBlock = some k → v.ownBlock = some k ∨ w.heap.size ≤ k := by
  have HP := Lib.hid (push w b v s t h hn h0 h1)
  clear h
  go_enter Tryd.func36, Tryd.ntmps36
  go_wp2_with (go_at_call 43; refine HP.out.mono ?_; rintro e w1 ⟨rfl, v', ha, hu, hk⟩; obtain ⟨d0, d1, d2, d3, df⟩ := ha.cells; obtain ⟨A', c', rfl, hl'⟩ := ha.2.form; have HA := Lib.hid ha; have HU := Lib.hid hu; have HK := Lib.hid hk; clear ha hu hk)
  go_ret
  exact ⟨(by rw [List.length_take, List.length_cons, ← gt_len]; rfl), _, (HA.out.setState 0).setPlace 0, (HU.out.setCell (p := ⟨b, 2, none⟩) (.inl (.inl rfl)) _).setCell (p := ⟨b, 3, none⟩) (.inl (.inl rfl)) _, HK.out⟩
set_option maxHeartbeats 800000 in
theorem kill_new (w : World) (b : Nat) (v : Value) (s : RS) (t : ByteArray) (ah : Bool) (h : At w b v s) (hn : s.ents.length ≤ 100000) (h0 : 0 ≤ s.bound) (h1 : s.bound ≤ 1000) (ht : t.toList.isEmpty = false) (hj : ¬ (s.state = 1 ∧ 0 < s.ents.length)) :
    Calls Tryd.prog 35 #[.pointer (some ⟨b, 0, none⟩), .string t, .bool ah] w fun e w' => e = .returned (.bool (decide (0 < ((t :: s.ents).take s.bound.toNat).length))) ∧ ∃ v', At w' b v' { s with ents := (t :: s.ents).take s.bound.toNat, state := 1, place := 0 } ∧ Upd (foot b v) w w' ∧ ∀ k, v'.ownBlock = some k → v.ownBlock = some k ∨ w.heap.size ≤ k := by
  have HP := Lib.hid (push w b v s t h hn h0 h1)
  obtain ⟨c0, c1, c2, c3, hf⟩ := h.cells
  obtain ⟨A, c, hv, hl⟩ := h.2.form
  clear h
  by_cases hs : s.state = 1
  · have hs1 : (s.state == 1) = true := by simp [hs]
    have hs2 : (s.state != 1) = false := by simp [hs]
    have hl0 : s.ents.length = 0 := by omega
    rw [hl0] at hv
    subst hv
    clear hs hj hl0 hl
    go_enter Tryd.func35, Tryd.ntmps35
    go_wp2_with (go_at_call 43; refine HP.out.mono ?_; rintro e w1 ⟨rfl, v', ha, hu, hk⟩; obtain ⟨d0, d1, d2, d3, df⟩ := ha.cells; obtain ⟨A', c', rfl, hl'⟩ := ha.2.form; have HA := Lib.hid ha; have HU := Lib.hid hu; have HK := Lib.hid hk; clear ha hu hk)
    go_ret
    exact ⟨(by rw [List.length_take, List.length_cons, ← gt_len]; rfl), _, (HA.out.setState 1).setPlace 0, (HU.out.setCell (p := ⟨b, 2, none⟩) (.inl (.inl rfl)) _).setCell (p := ⟨b, 3, none⟩) (.inl (.inl rfl)) _, HK.out⟩
  · have hs1 : (s.state == 1) = false := by simp [hs]
    have hs2 : (s.state != 1) = true := by simp [hs]
    clear hj
    go_enter Tryd.func35, Tryd.ntmps35
    go_wp2_with (go_at_call 43; refine HP.out.mono ?_; rintro e w1 ⟨rfl, v', ha, hu, hk⟩; obtain ⟨d0, d1, d2, d3, df⟩ := ha.cells; obtain ⟨A', c', rfl, hl'⟩ := ha.2.form; have HA := Lib.hid ha; have HU := Lib.hid hu; have HK := Lib.hid hk; clear ha hu hk)
    go_ret
    exact ⟨(by rw [List.length_take, List.length_cons, ← gt_len]; rfl), _, (HA.out.setState 1).setPlace 0, (HU.out.setCell (p := ⟨b, 2, none⟩) (.inl (.inl rfl)) _).setCell (p := ⟨b, 3, none⟩) (.inl (.inl rfl)) _, HK.out⟩
set_option maxHeartbeats 800000 in
theorem kill_join (w : World) (b : Nat) (v : Value) (s : RS) (t : ByteArray) (ah : Bool) (h : At w b v s) (ht : t.toList.isEmpty = false) (hs : s.state = 1) (hl : 0 < s.ents.length) (hz : t.size + (s.ents.getD 0 ByteArray.empty).size ≤ 9223372036854775807) :
    Calls Tryd.prog 35 #[.pointer (some ⟨b, 0, none⟩), .string t, .bool ah] w fun e w' => e = .returned (.bool true) ∧ At w' b v { s with ents := s.ents.set 0 (joined ah t (s.ents.getD 0 ByteArray.empty)), state := 1, place := 0 } ∧ Upd (foot b v) w w' := by
  obtain ⟨c0, c1, c2, c3, hf⟩ := h.cells
  obtain ⟨g, c, rfl, hlc, hcells, hfr⟩ := h.2.some_ hl
  have hg0 := hcells 0 hl
  have hg1 := hfr 0
  have hne : g ≠ b := fun e => h.ne (by rw [e]; rfl)
  have hs1 : (s.state == 1) = true := by simp [hs]
  have hs2 : (s.state != 1) = false := by simp [hs]
  have hl2 : ((s.ents.length : Int) == 0) = false := by rw [beq_eq_false_iff_ne]; omega
  generalize hx : s.ents.getD 0 ByteArray.empty = x at *
  have HA := Lib.hid h
  have HX := Lib.hid hx
  have HS := Lib.hid hs
  have hz' : x.size + t.size ≤ 9223372036854775807 := by omega
  clear h hcells hfr hx hs
  cases ah with
  | true =>
    go_enter Tryd.func35, Tryd.ntmps35
    go_wp2
    go_region
    all_goals
      go_wp2
      go_ret
      exact ⟨(by simp), ((HA.out.setText 0 hl _).setState 1).setPlace 0, ((((Upd.refl _ w).setCell (p := ⟨g, 0, none⟩) (.inl (.inr rfl)) _).drew).setCell (p := ⟨b, 2, none⟩) (.inl (.inl rfl)) _).setCell (p := ⟨b, 3, none⟩) (.inl (.inl rfl)) _⟩
  | false =>
    go_enter Tryd.func35, Tryd.ntmps35
    go_wp2
    go_region
    all_goals
      go_wp2
      go_ret
      exact ⟨(by simp), ((HA.out.setText 0 hl _).setState 1).setPlace 0, ((((Upd.refl _ w).setCell (p := ⟨g, 0, none⟩) (.inl (.inr rfl)) _).drew).setCell (p := ⟨b, 2, none⟩) (.inl (.inl rfl)) _).setCell (p := ⟨b, 3, none⟩) (.inl (.inl rfl)) _⟩
end Go.Proofs.YtlflohbpdapiiaaDoor.Ref
