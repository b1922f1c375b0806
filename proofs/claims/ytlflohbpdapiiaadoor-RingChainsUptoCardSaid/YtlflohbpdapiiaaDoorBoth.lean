/- One spec for both rings: what a call answers and leaves, the place being told only while yanks go on. -/
import Derived.Test.YtlflohbpdapiiaaDoorKills
set_option linter.unusedVariables false
namespace Go.Proofs.YtlflohbpdapiiaaDoor
open Go.RowKit Go.Proofs.YtlflohbpdapiiaaDoorW.PrintWords Go.Proofs.YtlflohbpdapiiaaDoor.Sep Go.Proofs.YtlflohbpdapiiaaDoor.Libs
open Go.Proofs.YtlflohbpdapiiaaDoor.Ring (RS foot joined)
namespace Both

structure Inv (s : RS) : Prop where
  b0 : 0 ≤ s.bound
  b1 : s.bound ≤ 1000
  len : s.ents.length ≤ s.bound.toNat
  pl : s.state = 2 → 0 ≤ s.place ∧ s.place < (s.ents.length : Int)

abbrev E : ByteArray := ByteArray.empty
def kill (s : RS) (t : ByteArray) (ah : Bool) : RS :=
  if t.toList.isEmpty = true then s
  else if s.state = 1 ∧ 0 < s.ents.length then { s with ents := s.ents.set 0 (joined ah t (s.ents.getD 0 E)), state := 1 }
  else { s with ents := (t :: s.ents).take s.bound.toNat, state := 1 }
def kept (s : RS) (t : ByteArray) : Bool := !t.toList.isEmpty && decide (0 < s.bound)
def copy (s : RS) (t : ByteArray) : RS := if t.toList.isEmpty = true then s else { s with ents := (t :: s.ents).take s.bound.toNat, state := 0 }
def yank (s : RS) : RS := if s.ents.length = 0 then { s with state := 0 } else { s with state := 2, place := 0 }
def yankT (s : RS) : ByteArray := if s.ents.length = 0 then ⟨#[]⟩ else s.ents.getD 0 E
def yankE (s : RS) : Int := if s.ents.length = 0 then 5 else 0
def pop (s : RS) : RS := if s.state = 2 then { s with place := (s.place + 1) % s.ents.length } else { s with state := 0 }
def popT (s : RS) : ByteArray := if s.state = 2 then s.ents.getD s.place.toNat E else ⟨#[]⟩
def popU (s : RS) : ByteArray := if s.state = 2 then s.ents.getD ((s.place + 1) % s.ents.length).toNat E else ⟨#[]⟩
def popE (s : RS) : Int := if s.state = 2 then 0 else 6
def stop (s : RS) : RS := { s with state := 0 }
def step (s : RS) (k : Nat) (t : ByteArray) : RS :=
  match k % 7 with
  | 0 => kill s t false
  | 1 => kill s t true
  | 2 => copy s t
  | 3 => yank s
  | 4 => pop s
  | 5 => stop s
  | _ => s

theorem take_len (s : RS) (h : Inv s) (t : ByteArray) : ((t :: s.ents).take s.bound.toNat).length ≤ s.bound.toNat := by simp; omega
theorem Inv.ents (s : RS) (h : Inv s) (t : ByteArray) (st : Int) (hst : st ≠ 2) : Inv { s with ents := (t :: s.ents).take s.bound.toNat, state := st } :=
  ⟨h.b0, h.b1, take_len s h t, fun e => absurd e hst⟩
theorem Inv.kill {s : RS} (h : Inv s) (t : ByteArray) (ah : Bool) : Inv (kill s t ah) := by
  unfold Both.kill
  split
  · exact h
  · split
    · exact ⟨h.b0, h.b1, by simpa using h.len, fun e => by simp at e⟩
    · exact h.ents s t 1 (by decide)
theorem Inv.copy {s : RS} (h : Inv s) (t : ByteArray) : Inv (copy s t) := by
  unfold Both.copy
  split
  · exact h
  · exact h.ents s t 0 (by decide)
theorem Inv.yank {s : RS} (h : Inv s) : Inv (yank s) := by
  unfold Both.yank
  split
  · exact ⟨h.b0, h.b1, h.len, fun e => by simp at e⟩
  · exact ⟨h.b0, h.b1, h.len, fun e => ⟨by simp, by simp; omega⟩⟩
theorem Inv.pop {s : RS} (h : Inv s) : Inv (pop s) := by
  unfold Both.pop
  split
  · next hs =>
    have := h.pl hs
    exact ⟨h.b0, h.b1, h.len, fun _ => ⟨Int.emod_nonneg _ (by omega), Int.emod_lt_of_pos _ (by omega)⟩⟩
  · exact ⟨h.b0, h.b1, h.len, fun e => by simp at e⟩
theorem Inv.stop {s : RS} (h : Inv s) : Inv (stop s) := ⟨h.b0, h.b1, h.len, fun e => by simp [Both.stop] at e⟩
theorem Inv.step {s : RS} (h : Inv s) (k : Nat) (t : ByteArray) : Inv (step s k t) := by
  unfold Both.step
  split
  · exact h.kill _ _
  · exact h.kill _ _
  · exact h.copy _
  · exact h.yank
  · exact h.pop
  · exact h.stop
  · exact h

def Fr (w : World) (v v' : Value) : Prop := ∀ k, v'.ownBlock = some k → v.ownBlock = some k ∨ w.heap.size ≤ k
theorem Fr.same (w : World) (v : Value) : Fr w v v := fun k h => .inl h
def PAt (w : World) (b : Nat) (v : Value) (s : RS) : Prop := ∃ pl, Ring.At w b v { s with place := pl } ∧ (s.state = 2 → pl = s.place)
def RAt (w : World) (b : Nat) (v : Value) (s : RS) : Prop := ∃ pl, Ref.At w b v { s with place := pl } ∧ (s.state = 2 → pl = s.place)
section
variable {w w' : World} {b : Nat} {v : Value} {s : RS}
theorem PAt.upd {S : Nat → Prop} (h : PAt w b v s) (u : Upd S w w') (hd : ∀ k, foot b v k → ¬ S k) : PAt w' b v s := by
  obtain ⟨pl, h, e⟩ := h
  exact ⟨pl, h.upd u (hd _ (.inl rfl)) (fun k hk => hd k (.inr hk)), e⟩
theorem RAt.upd {S : Nat → Prop} (h : RAt w b v s) (u : Upd S w w') (hd : ∀ k, foot b v k → ¬ S k) : RAt w' b v s := by
  obtain ⟨pl, h, e⟩ := h
  exact ⟨pl, h.upd u (hd _ (.inl rfl)) (fun k hk => hd k (.inr hk)), e⟩
theorem PAt.lt (h : PAt w b v s) : ∀ k, foot b v k → k < w.heap.size := by
  obtain ⟨pl, h, e⟩ := h
  rintro k (rfl | hk)
  · exact h.1.lt
  · exact h.2.lt k hk
theorem RAt.lt (h : RAt w b v s) : ∀ k, foot b v k → k < w.heap.size := by
  obtain ⟨pl, h, e⟩ := h
  rintro k (rfl | hk)
  · exact h.1.lt
  · exact h.2.lt k hk
end

section
variable (w : World) (b : Nat) (v : Value) (s : RS) (t : ByteArray)
theorem kill_p (ah : Bool) (h : PAt w b v s) (hi : Inv s) (hz : (s.state = 1 ∧ 0 < s.ents.length) → t.size + (s.ents.getD 0 E).size ≤ 9223372036854775807) :
    Calls Tryd.prog 13 #[.pointer (some ⟨b, 0, none⟩), .string t, .bool ah] w fun e w' => e = .returned (.bool (kept s t)) ∧ ∃ v', PAt w' b v' (kill s t ah) ∧ Upd (foot b v) w w' ∧ Fr w v v' := by
  obtain ⟨pl, h, he⟩ := h
  by_cases ht : t.toList.isEmpty = true
  · refine (Ring.kill_empty w b t ah ht).mono ?_
    rintro e w' ⟨rfl, rfl⟩
    refine ⟨by simp [kept, ht], v, ?_, Upd.refl _ _, Fr.same _ _⟩
    unfold kill
    rw [if_pos ht]
    exact ⟨pl, h, he⟩
  · by_cases hj : s.state = 1 ∧ 0 < s.ents.length
    · refine (Ring.kill_join w b v _ t ah h (by simpa using ht) hj.1 hj.2 (hz hj)).mono ?_
      rintro e w' ⟨rfl, ha, hu⟩
      have h1 := hi.len
      have h2 := hj.2
      refine ⟨by simp [kept, ht]; omega, v, ?_, hu, Fr.same _ _⟩
      unfold kill
      rw [if_neg ht, if_pos hj]
      exact ⟨pl, ha, fun e => by simp at e⟩
    · have h1 := hi.len
      have h2 := hi.b1
      refine (Ring.kill_new w b v _ t ah h (by simp; omega) hi.b0 hi.b1 (by simpa using ht) hj).mono ?_
      rintro e w' ⟨v', rfl, ha, hu, hk⟩
      refine ⟨by simp [kept, ht], v', ?_, hu, hk⟩
      unfold kill
      rw [if_neg ht, if_neg hj]
      exact ⟨pl, ha, fun e => by simp at e⟩
theorem kept_ref (hi : Inv s) (ht : ¬ t.toList.isEmpty = true) : decide (0 < ((t :: s.ents).take s.bound.toNat).length) = kept s t := by
  have := hi.b0
  rw [kept, Bool.eq_iff_iff]
  simp [ht]
  omega
theorem kill_r (ah : Bool) (h : RAt w b v s) (hi : Inv s) (hz : (s.state = 1 ∧ 0 < s.ents.length) → t.size + (s.ents.getD 0 E).size ≤ 9223372036854775807) :
    Calls Tryd.prog 35 #[.pointer (some ⟨b, 0, none⟩), .string t, .bool ah] w fun e w' => e = .returned (.bool (kept s t)) ∧ ∃ v', RAt w' b v' (kill s t ah) ∧ Upd (foot b v) w w' ∧ Fr w v v' := by
  obtain ⟨pl, h, he⟩ := h
  by_cases ht : t.toList.isEmpty = true
  · refine (Ref.kill_empty w b t ah ht).mono ?_
    rintro e w' ⟨rfl, rfl⟩
    refine ⟨by simp [kept, ht], v, ?_, Upd.refl _ _, Fr.same _ _⟩
    unfold kill
    rw [if_pos ht]
    exact ⟨pl, h, he⟩
  · by_cases hj : s.state = 1 ∧ 0 < s.ents.length
    · refine (Ref.kill_join w b v _ t ah h (by simpa using ht) hj.1 hj.2 (hz hj)).mono ?_
      rintro e w' ⟨rfl, ha, hu⟩
      have h1 := hi.len
      have h2 := hj.2
      refine ⟨by simp [kept, ht]; omega, v, ?_, hu, Fr.same _ _⟩
      unfold kill
      rw [if_neg ht, if_pos hj]
      exact ⟨0, ha, fun e => by simp at e⟩
    · have h1 := hi.len
      have h2 := hi.b1
      refine (Ref.kill_new w b v _ t ah h (by simp; omega) hi.b0 hi.b1 (by simpa using ht) hj).mono ?_
      rintro e w' ⟨rfl, v', ha, hu, hk⟩
      refine ⟨by rw [← kept_ref s t hi ht], v', ?_, hu, hk⟩
      unfold kill
      rw [if_neg ht, if_neg hj]
      exact ⟨0, ha, fun e => by simp at e⟩
theorem copy_p (h : PAt w b v s) (hi : Inv s) :
    Calls Tryd.prog 11 #[.pointer (some ⟨b, 0, none⟩), .string t] w fun e w' => e = .returned (.bool (kept s t)) ∧ ∃ v', PAt w' b v' (copy s t) ∧ Upd (foot b v) w w' ∧ Fr w v v' := by
  obtain ⟨pl, h, he⟩ := h
  by_cases ht : t.toList.isEmpty = true
  · refine (Ring.copy_empty w b t ht).mono ?_
    rintro e w' ⟨rfl, rfl⟩
    refine ⟨by simp [kept, ht], v, ?_, Upd.refl _ _, Fr.same _ _⟩
    unfold copy
    rw [if_pos ht]
    exact ⟨pl, h, he⟩
  · have h1 := hi.len
    have h2 := hi.b1
    refine (Ring.copy w b v _ t h (by simp; omega) hi.b0 hi.b1 (by simpa using ht)).mono ?_
    rintro e w' ⟨v', rfl, ha, hu, hk⟩
    refine ⟨by simp [kept, ht], v', ?_, hu, hk⟩
    unfold copy
    rw [if_neg ht]
    exact ⟨pl, ha, fun e => by simp at e⟩
theorem copy_r (h : RAt w b v s) (hi : Inv s) :
    Calls Tryd.prog 36 #[.pointer (some ⟨b, 0, none⟩), .string t] w fun e w' => e = .returned (.bool (kept s t)) ∧ ∃ v', RAt w' b v' (copy s t) ∧ Upd (foot b v) w w' ∧ Fr w v v' := by
  obtain ⟨pl, h, he⟩ := h
  by_cases ht : t.toList.isEmpty = true
  · refine (Ref.copy_empty w b t ht).mono ?_
    rintro e w' ⟨rfl, rfl⟩
    refine ⟨by simp [kept, ht], v, ?_, Upd.refl _ _, Fr.same _ _⟩
    unfold copy
    rw [if_pos ht]
    exact ⟨pl, h, he⟩
  · have h1 := hi.len
    have h2 := hi.b1
    refine (Ref.copy w b v _ t h (by simp; omega) hi.b0 hi.b1 (by simpa using ht)).mono ?_
    rintro e w' ⟨rfl, v', ha, hu, hk⟩
    refine ⟨by rw [← kept_ref s t hi ht], v', ?_, hu, hk⟩
    unfold copy
    rw [if_neg ht]
    exact ⟨0, ha, fun e => by simp at e⟩
theorem yank_p (h : PAt w b v s) :
    Calls Tryd.prog 17 #[.pointer (some ⟨b, 0, none⟩)] w fun e w' => e = .returned (.tuple #[.string (yankT s), .int .i64 (yankE s)]) ∧ PAt w' b v (yank s) ∧ Upd (foot b v) w w' := by
  obtain ⟨pl, h, he⟩ := h
  by_cases hl : s.ents.length = 0
  · refine (Ring.yank_none w b v _ h hl).mono ?_
    rintro e w' ⟨rfl, rfl⟩
    unfold yankT yankE yank
    rw [if_pos hl, if_pos hl, if_pos hl]
    exact ⟨rfl, ⟨pl, h.setState 0, fun e => by simp at e⟩, (Upd.refl _ w).setCell (p := ⟨b, 2, none⟩) (.inl (.inl rfl)) _⟩
  · refine (Ring.yank_some w b v _ h (by simp only; omega)).mono ?_
    rintro e w' ⟨rfl, rfl⟩
    unfold yankT yankE yank
    rw [if_neg hl, if_neg hl, if_neg hl]
    exact ⟨rfl, ⟨0, (h.setState 2).setPlace 0, fun _ => rfl⟩, ((Upd.refl _ w).setCell (p := ⟨b, 2, none⟩) (.inl (.inl rfl)) _).setCell (p := ⟨b, 3, none⟩) (.inl (.inl rfl)) _⟩
theorem yank_r (h : RAt w b v s) :
    Calls Tryd.prog 37 #[.pointer (some ⟨b, 0, none⟩)] w fun e w' => e = .returned (.tuple #[.string (yankT s), .int .i64 (yankE s)]) ∧ RAt w' b v (yank s) ∧ Upd (foot b v) w w' := by
  obtain ⟨pl, h, he⟩ := h
  by_cases hl : s.ents.length = 0
  · refine (Ref.yank_none w b v _ h hl).mono ?_
    rintro e w' ⟨rfl, rfl⟩
    unfold yankT yankE yank
    rw [if_pos hl, if_pos hl, if_pos hl]
    exact ⟨rfl, ⟨0, (h.setPlace 0).setState 0, fun e => by simp at e⟩, ((Upd.refl _ w).setCell (p := ⟨b, 3, none⟩) (.inl (.inl rfl)) _).setCell (p := ⟨b, 2, none⟩) (.inl (.inl rfl)) _⟩
  · refine (Ref.yank_some w b v _ h (by simp only; omega)).mono ?_
    rintro e w' ⟨rfl, rfl⟩
    unfold yankT yankE yank
    rw [if_neg hl, if_neg hl, if_neg hl]
    exact ⟨rfl, ⟨0, (h.setPlace 0).setState 2, fun _ => rfl⟩, ((Upd.refl _ w).setCell (p := ⟨b, 3, none⟩) (.inl (.inl rfl)) _).setCell (p := ⟨b, 2, none⟩) (.inl (.inl rfl)) _⟩
theorem pop_p (h : PAt w b v s) (hi : Inv s) :
    Calls Tryd.prog 18 #[.pointer (some ⟨b, 0, none⟩)] w fun e w' => e = .returned (.tuple #[.string (popT s), .string (popU s), .int .i64 (popE s)]) ∧ PAt w' b v (pop s) ∧ Upd (foot b v) w w' := by
  obtain ⟨pl, h, he⟩ := h
  by_cases hs : s.state = 2
  · have hp := hi.pl hs
    have h1 := hi.len
    have h2 := hi.b1
    obtain rfl := he hs
    refine (Ring.pop_some w b v _ h (by simp [hs]) hp.1 hp.2 (by simp; omega)).mono ?_
    rintro e w' ⟨rfl, ha, hu⟩
    unfold popT popU popE pop
    rw [if_pos hs, if_pos hs, if_pos hs, if_pos hs]
    exact ⟨rfl, ⟨_, ha, fun _ => rfl⟩, hu⟩
  · refine (Ring.pop_none w b v _ h (by simp [hs])).mono ?_
    rintro e w' ⟨rfl, rfl⟩
    unfold popT popU popE pop
    rw [if_neg hs, if_neg hs, if_neg hs, if_neg hs]
    exact ⟨rfl, ⟨pl, h.setState 0, fun e => by simp at e⟩, (Upd.refl _ w).setCell (p := ⟨b, 2, none⟩) (.inl (.inl rfl)) _⟩
theorem pop_r (h : RAt w b v s) (hi : Inv s) :
    Calls Tryd.prog 38 #[.pointer (some ⟨b, 0, none⟩)] w fun e w' => e = .returned (.tuple #[.string (popT s), .string (popU s), .int .i64 (popE s)]) ∧ RAt w' b v (pop s) ∧ Upd (foot b v) w w' := by
  obtain ⟨pl, h, he⟩ := h
  by_cases hs : s.state = 2
  · have hp := hi.pl hs
    have h1 := hi.len
    have h2 := hi.b1
    obtain rfl := he hs
    refine (Ref.pop_some w b v _ h (by simp [hs]) hp.1 hp.2 (by simp; omega)).mono ?_
    rintro e w' ⟨rfl, ha, hu⟩
    unfold popT popU popE pop
    rw [if_pos hs, if_pos hs, if_pos hs, if_pos hs]
    exact ⟨rfl, ⟨_, ha, fun _ => rfl⟩, hu⟩
  · refine (Ref.pop_none w b v _ h (by simp [hs])).mono ?_
    rintro e w' ⟨rfl, rfl⟩
    unfold popT popU popE pop
    rw [if_neg hs, if_neg hs, if_neg hs, if_neg hs]
    exact ⟨rfl, ⟨0, (h.setState 0).setPlace 0, fun e => by simp at e⟩, ((Upd.refl _ w).setCell (p := ⟨b, 2, none⟩) (.inl (.inl rfl)) _).setCell (p := ⟨b, 3, none⟩) (.inl (.inl rfl)) _⟩
theorem stop_p (h : PAt w b v s) : Calls Tryd.prog 16 #[.pointer (some ⟨b, 0, none⟩)] w fun e w' => e = .returned (.tuple #[]) ∧ PAt w' b v (stop s) ∧ Upd (foot b v) w w' := by
  obtain ⟨pl, h, he⟩ := h
  refine (Ring.stop w b v _ h).mono ?_
  rintro e w' ⟨rfl, rfl⟩
  exact ⟨rfl, ⟨pl, h.setState 0, fun e => by simp [stop] at e⟩, (Upd.refl _ w).setCell (p := ⟨b, 2, none⟩) (.inl (.inl rfl)) _⟩
theorem stop_r (h : RAt w b v s) : Calls Tryd.prog 39 #[.pointer (some ⟨b, 0, none⟩)] w fun e w' => e = .returned (.tuple #[]) ∧ RAt w' b v (stop s) ∧ Upd (foot b v) w w' := by
  obtain ⟨pl, h, he⟩ := h
  refine (Ref.stop w b v _ h).mono ?_
  rintro e w' ⟨rfl, rfl⟩
  exact ⟨rfl, ⟨0, (h.setState 0).setPlace 0, fun e => by simp [stop] at e⟩, ((Upd.refl _ w).setCell (p := ⟨b, 2, none⟩) (.inl (.inl rfl)) _).setCell (p := ⟨b, 3, none⟩) (.inl (.inl rfl)) _⟩
theorem clone_p (h : PAt w b v s) (hi : Inv s) : Calls Tryd.prog 20 #[.pointer (some ⟨b, 0, none⟩)] w fun e w' => ∃ b' v', e = .returned (.pointer (some ⟨b', 0, none⟩)) ∧ PAt w' b' v' s ∧ (∀ k, foot b' v' k → w.heap.size ≤ k) ∧ Below w.heap.size w w' := by
  obtain ⟨pl, h, he⟩ := h
  have h1 := hi.len
  have h2 := hi.b1
  refine (Ring.clone_ring w b v _ h (by simp; omega)).mono ?_
  rintro e w' ⟨b', v', rfl, ha, hk, hb⟩
  exact ⟨b', v', rfl, ⟨pl, ha, he⟩, hk, hb⟩
theorem clone_r (h : RAt w b v s) (hi : Inv s) : Calls Tryd.prog 23 #[.pointer (some ⟨b, 0, none⟩)] w fun e w' => ∃ b' v', e = .returned (.pointer (some ⟨b', 0, none⟩)) ∧ RAt w' b' v' s ∧ (∀ k, foot b' v' k → w.heap.size ≤ k) ∧ Below w.heap.size w w' := by
  obtain ⟨pl, h, he⟩ := h
  have h1 := hi.len
  have h2 := hi.b1
  refine (Ref.clone_ring w b v _ h (by simp; omega)).mono ?_
  rintro e w' ⟨b', v', rfl, ha, hk, hb⟩
  exact ⟨b', v', rfl, ⟨pl, ha, he⟩, hk, hb⟩
theorem all_p (h : PAt w b v s) (hi : Inv s) : Calls Tryd.prog 12 #[.pointer (some ⟨b, 0, none⟩)] w fun e w' => ∃ v', e = .returned v' ∧ Own w' v' s.ents ∧ (∀ k, v'.ownBlock = some k → w.heap.size ≤ k) ∧ Below w.heap.size w w' := by
  obtain ⟨pl, h, he⟩ := h
  have h1 := hi.len
  have h2 := hi.b1
  exact Ring.all w b v { s with place := pl } h (by simp; omega)
theorem all_r (h : RAt w b v s) (hi : Inv s) : Calls Tryd.prog 34 #[.pointer (some ⟨b, 0, none⟩)] w fun e w' => ∃ v', e = .returned v' ∧ Own w' v' s.ents ∧ (∀ k, v'.ownBlock = some k → w.heap.size ≤ k) ∧ Below w.heap.size w w' := by
  obtain ⟨pl, h, he⟩ := h
  have h1 := hi.len
  have h2 := hi.b1
  exact Ref.all w b v { s with place := pl } h (by simp; omega)
theorem len_p (h : PAt w b v s) : Calls Tryd.prog 25 #[.pointer (some ⟨b, 0, none⟩)] w fun e w' => e = .returned (.int .i64 s.ents.length) ∧ w = w' := by
  obtain ⟨pl, h, he⟩ := h
  exact Ring.len w b v { s with place := pl } h
theorem len_r (h : RAt w b v s) : Calls Tryd.prog 31 #[.pointer (some ⟨b, 0, none⟩)] w fun e w' => e = .returned (.int .i64 s.ents.length) ∧ w = w' := by
  obtain ⟨pl, h, he⟩ := h
  exact Ref.len w b v { s with place := pl } h
theorem bound_p (h : PAt w b v s) : Calls Tryd.prog 19 #[.pointer (some ⟨b, 0, none⟩)] w fun e w' => e = .returned (.int .i64 s.bound) ∧ w = w' := by
  obtain ⟨pl, h, he⟩ := h
  exact Ring.bound w b v { s with place := pl } h
theorem bound_r (h : RAt w b v s) : Calls Tryd.prog 30 #[.pointer (some ⟨b, 0, none⟩)] w fun e w' => e = .returned (.int .i64 s.bound) ∧ w = w' := by
  obtain ⟨pl, h, he⟩ := h
  exact Ref.bound w b v { s with place := pl } h
theorem killing_p (h : PAt w b v s) : Calls Tryd.prog 15 #[.pointer (some ⟨b, 0, none⟩)] w fun e w' => e = .returned (.bool (s.state == 1)) ∧ w = w' := by
  obtain ⟨pl, h, he⟩ := h
  exact Ring.killing w b v { s with place := pl } h
theorem killing_r (h : RAt w b v s) : Calls Tryd.prog 32 #[.pointer (some ⟨b, 0, none⟩)] w fun e w' => e = .returned (.bool (s.state == 1)) ∧ w = w' := by
  obtain ⟨pl, h, he⟩ := h
  exact Ref.killing w b v { s with place := pl } h
theorem yanking_p (h : PAt w b v s) : Calls Tryd.prog 26 #[.pointer (some ⟨b, 0, none⟩)] w fun e w' => e = .returned (.bool (s.state == 2)) ∧ w = w' := by
  obtain ⟨pl, h, he⟩ := h
  exact Ring.yanking w b v { s with place := pl } h
theorem yanking_r (h : RAt w b v s) : Calls Tryd.prog 33 #[.pointer (some ⟨b, 0, none⟩)] w fun e w' => e = .returned (.bool (s.state == 2)) ∧ w = w' := by
  obtain ⟨pl, h, he⟩ := h
  exact Ref.yanking w b v { s with place := pl } h
end
/-- The state of a new ring. -/
def start (n : Int) : RS := ⟨min (max n 0) 1000, [], 0, 0⟩
theorem Inv.start (n : Int) : Inv (start n) := ⟨by simp [Both.start]; omega, by simp [Both.start]; omega, by simp [Both.start], fun e => by simp [Both.start] at e⟩
theorem new_p (w : World) (n : Int) : Calls Tryd.prog 10 #[.int .i64 n] w fun e w' => ∃ b, e = .returned (.pointer (some ⟨b, 0, none⟩)) ∧ PAt w' b (.slice none 0 0) (start n) ∧ w.heap.size ≤ b ∧ Below w.heap.size w w' := by
  refine (Ring.new w n).mono ?_
  rintro e w' ⟨b, rfl, ha, hb, hw⟩
  exact ⟨b, rfl, ⟨0, ha, fun _ => rfl⟩, hb, hw⟩
theorem new_r (w : World) (n : Int) : Calls Tryd.prog 21 #[.int .i64 n] w fun e w' => ∃ b, e = .returned (.pointer (some ⟨b, 0, none⟩)) ∧ RAt w' b (.slice none 0 0) (start n) ∧ w.heap.size ≤ b ∧ Below w.heap.size w w' := by
  refine (Ref.new w n).mono ?_
  rintro e w' ⟨b, rfl, ha, hb, hw⟩
  exact ⟨b, rfl, ⟨0, ha, fun _ => rfl⟩, hb, hw⟩
end Both
end Go.Proofs.YtlflohbpdapiiaaDoor
