/- The program's history: what each method answers and leaves, told of a history in memory. -/
import Derived.Test.YtjghfdhahkokhaaDoorLib
import Derived.Handy
import Derived.WalkSpells
import Derived.WalkLawsBesides
import Derived.Maps.OwnSet
import Derived.Deep.RegionHeld3
import Derived.LoopTactic
set_option linter.unusedVariables false
namespace Go.Proofs.YtjghfdhahkokhaaDoor
open Go.RowKit Go.Proofs.YtjghfdhahkokhaaDoorW.PrintWords Go.Proofs.YtjghfdhahkokhaaDoor.Sep Go.Proofs.YtjghfdhahkokhaaDoor.Libs
namespace Hist
abbrev E : ByteArray := ByteArray.empty
abbrev Note := Int × ByteArray
def look : List Note → Int → Option ByteArray
  | [], _ => none
  | x :: l, p => if x.1 = p then some x.2 else look l p
def strike (l : List Note) (p : Int) : List Note := l.filter fun x => decide (x.1 ≠ p)
def put (l : List Note) (p : Int) (t : ByteArray) : List Note := strike l p ++ [(p, t)]
theorem look_append (l m : List Note) (p : Int) : look (l ++ m) p = (look l p).or (look m p) := by
  induction l with
  | nil => simp [look]
  | cons x l ih =>
    by_cases h : x.1 = p
    · simp [look, h]
    · simp [look, h, ih]
theorem look_strike (l : List Note) (p q : Int) : look (strike l p) q = if p = q then none else look l q := by
  induction l with
  | nil => simp [strike, look]
  | cons x l ih =>
    unfold strike at ih ⊢
    by_cases h : x.1 = p
    · rw [List.filter_cons_of_neg (by simp [h]), ih]
      by_cases hq : p = q
      · simp [hq]
      · rw [if_neg hq, if_neg hq, look, if_neg (by rw [h]; exact hq)]
    · rw [List.filter_cons_of_pos (by simp [h]), look, ih]
      by_cases hq : x.1 = q
      · have : ¬ p = q := fun e => h (by rw [hq, e])
        simp [hq, this, look]
      · simp [hq, look]
theorem look_put (l : List Note) (p q : Int) (t : ByteArray) : look (put l p t) q = if p = q then some t else look l q := by
  unfold put
  rw [look_append, look_strike]
  by_cases h : p = q
  · simp [h, look]
  · simp [h, look]
theorem look_none {l : List Note} {p : Int} (h : look l p = none) : ∀ x ∈ l, x.1 ≠ p := by
  induction l with
  | nil => simp
  | cons x l ih =>
    by_cases hx : x.1 = p
    · simp [look, hx] at h
    · rw [look, if_neg hx] at h
      intro y hy
      rcases List.mem_cons.1 hy with rfl | hy
      · exact hx
      · exact ih h y hy
theorem look_mem {l : List Note} {p : Int} {t : ByteArray} (h : look l p = some t) : ∃ y ∈ l, y.1 = p := by
  induction l with
  | nil => simp [look] at h
  | cons y l ih =>
    by_cases hy : y.1 = p
    · exact ⟨y, by simp, hy⟩
    · rw [look, if_neg hy] at h
      obtain ⟨z, hz, he⟩ := ih h
      exact ⟨z, by simp [hz], he⟩
theorem strike_of_none {l : List Note} {p : Int} (h : look l p = none) : strike l p = l := by
  unfold strike
  rw [List.filter_eq_self]
  intro x hx
  simpa using look_none h x hx
theorem strike_len (l : List Note) (p : Int) (hk : l.Pairwise fun a b => a.1 ≠ b.1) : (strike l p).length + (if (look l p).isSome then 1 else 0) = l.length := by
  induction l with
  | nil => simp [strike, look]
  | cons x l ih =>
    obtain ⟨h1, h2⟩ := List.pairwise_cons.1 hk
    have ih := ih h2
    by_cases hx : x.1 = p
    · have hn : look l p = none := by
        cases hl : look l p with
        | none => rfl
        | some t =>
          exfalso
          have := look_mem hl
          obtain ⟨y, hy, he⟩ := this
          exact h1 y hy (by rw [hx, he])
      have e1 : strike (x :: l) p = strike l p := by unfold strike; rw [List.filter_cons_of_neg (by simp [hx])]
      rw [e1, strike_of_none hn]
      simp [look, hx]
    · have e1 : strike (x :: l) p = x :: strike l p := by unfold strike; rw [List.filter_cons_of_pos (by simp [hx])]
      rw [e1, look, if_neg hx]
      simp only [List.length_cons]
      omega
theorem put_len (l : List Note) (p : Int) (t : ByteArray) (hk : l.Pairwise fun a b => a.1 ≠ b.1) : (put l p t).length = if (look l p).isSome then l.length else l.length + 1 := by
  have := strike_len l p hk
  unfold put
  rw [List.length_append]
  split at this <;> rename_i h <;> simp only [h] <;> simp <;> omega
theorem put_pair (l : List Note) (p : Int) (t : ByteArray) (hk : l.Pairwise fun a b => a.1 ≠ b.1) : (put l p t).Pairwise fun a b => a.1 ≠ b.1 := by
  unfold put strike
  rw [List.pairwise_append]
  refine ⟨hk.filter _, by simp, fun a ha b hb => ?_⟩
  simp at ha hb
  subst hb
  exact ha.2
theorem pigeon : ∀ (n : Nat) (l : List Note), (l.Pairwise fun a b => a.1 ≠ b.1) → (∀ x ∈ l, 0 ≤ x.1 ∧ x.1 < (n : Int)) → l.length ≤ n
  | 0, l, _, h => by
    match l, h with
    | [], _ => simp
    | x :: l, h => have := h x (by simp); omega
  | n + 1, l, hk, h => by
    have h1 := strike_len l n hk
    have h2 := pigeon n (strike l n) (hk.filter _) (fun x hx => by
      unfold strike at hx
      rw [List.mem_filter] at hx
      have := h x hx.1
      have h3 := hx.2
      simp at h3
      omega)
    split at h1 <;> omega

/-- A history: bound, entries, place, drafts. -/
structure HS where
  bound : Int
  ents : List ByteArray
  place : Int
  notes : List Note
/-- Where its parts lie: the entries' slice, the drafts' map, the drafts' cells. -/
structure Pr where
  v : Value
  m : Option Nat
  gs : List Nat
def no : DataW Unit := .lit (.bool false)
/-- How a pointer to a draft reads: by the number of its block. -/
def ptrElem : Value → Option (DataW Unit × List MemPlace)
  | .pointer (some ⟨g, 0, none⟩) => some (.lit (.int .i64 g), [])
  | .pointer none => some (no, [])
  | _ => none
theorem ptrElem_inv {v : Value} {z : DataW Unit × List MemPlace} (h : ptrElem v = some z) : (v = .pointer none ∧ z = (no, [])) ∨ ∃ g : Nat, v = .pointer (some ⟨g, 0, none⟩) ∧ z = (.lit (.int .i64 g), []) := by
  unfold ptrElem at h
  split at h
  · next g => injection h with h; exact .inr ⟨g, rfl, h.symm⟩
  · injection h with h; exact .inl ⟨rfl, h.symm⟩
  · cases h
abbrev OwnsM (w : World) (mb : Nat) (n : Nat) (D : DataW Unit) : Prop := w.ownsMap Tryd.prog 3 ptrElem mb n D
theorem law : Maps.Keyed Tryd.prog 3 := Maps.int_keyed Tryd.underlying3
theorem zeroE (w : World) : (zeroValue 57).run Tryd.prog w = .ok (.pointer none) w := by kernel_rfl
/-- The drafts in memory. -/
def NAt (w : World) (m : Option Nat) (gs : List Nat) (l : List Note) : Prop :=
  (m = none ∧ l = []) ∨ ∃ mb D, m = some mb ∧ OwnsM w mb l.length D ∧ Maps.size D = l.length ∧ (∀ p, Maps.has D (.int .i64 p) = (look l p).isSome) ∧
    ∀ p t, look l p = some t → ∃ g : Nat, g ∈ gs ∧ D.atKey (.int .i64 p) no = .lit (.int .i64 g) ∧ Blk w g 9 #[.string t]
def foot (b : Nat) (r : Pr) : Nat → Prop := fun k => k = b ∨ r.v.ownBlock = some k ∨ r.m = some k ∨ k ∈ r.gs
def At (w : World) (b : Nat) (r : Pr) (s : HS) : Prop := Blk w b 53 #[.int .i64 s.bound, r.v, .int .i64 s.place, .map r.m] ∧ Own w r.v s.ents ∧ NAt w r.m r.gs s.notes ∧ ∀ g ∈ r.gs, g < w.heap.size
structure Inv (s : HS) : Prop where
  b0 : 0 ≤ s.bound
  b1 : s.bound ≤ 1000
  len : s.ents.length ≤ s.bound.toNat
  p0 : 0 ≤ s.place
  p1 : s.place ≤ (s.ents.length : Int)
  nk : s.notes.Pairwise fun a b => a.1 ≠ b.1
  nr : ∀ x ∈ s.notes, 0 ≤ x.1 ∧ x.1 ≤ (s.ents.length : Int)
theorem Inv.l1 {s : HS} (h : Inv s) : s.ents.length ≤ 1000 := by have := h.len; have := h.b1; omega
theorem Inv.nl {s : HS} (h : Inv s) : s.notes.length ≤ 1001 := by
  have h1 := pigeon (s.ents.length + 1) s.notes h.nk (fun x hx => by have := h.nr x hx; omega)
  have := h.l1
  omega
section
variable {w w' : World} {b : Nat} {r : Pr} {s : HS}
theorem At.cells (h : At w b r s) : w.cell? ⟨b, 0, none⟩ = some (.int .i64 s.bound) ∧ w.cell? ⟨b, 1, none⟩ = some r.v ∧ w.cell? ⟨b, 2, none⟩ = some (.int .i64 s.place) ∧ w.cell? ⟨b, 3, none⟩ = some (.map r.m) ∧ ∀ j, w.frozen? ⟨b, j, none⟩ = false :=
  ⟨(h.1.cell 0).trans rfl, (h.1.cell 1).trans rfl, (h.1.cell 2).trans rfl, (h.1.cell 3).trans rfl, h.1.frozen⟩
theorem At.ne (h : At w b r s) : r.v.ownBlock ≠ some b := own_blk_ne h.2.1 h.1 (by decide)
theorem NAt.mne {m : Option Nat} {gs : List Nat} {l : List Note} {t : TypeId} {cs : Array Value} (h : NAt w m gs l) (hb : Blk w b t cs) : m ≠ some b := by
  rcases h with ⟨rfl, _⟩ | ⟨mb, D, rfl, ⟨es, cl, hh, _⟩, _⟩
  · simp
  · intro e
    injection e with e
    subst e
    unfold Blk at hb
    rw [hb] at hh
    cases hh
theorem NAt.upd {S : Nat → Prop} {m : Option Nat} {gs : List Nat} {l : List Note} (h : NAt w m gs l) (u : Upd S w w') (hm : ∀ k, m = some k → ¬ S k) (hg : ∀ k ∈ gs, ¬ S k) : NAt w' m gs l := by
  rcases h with h | ⟨mb, D, rfl, ho, h1, h2, h3⟩
  · exact .inl h
  · refine .inr ⟨mb, D, rfl, ?_, h1, h2, fun p t hp => ?_⟩
    · obtain ⟨es, cl, hb, r⟩ := ho
      exact ⟨es, cl, (u.block mb ((Array.getElem?_eq_some_iff.1 hb).1) (hm mb rfl)).trans hb, r⟩
    · obtain ⟨g, hg1, hg2, hg3⟩ := h3 p t hp
      exact ⟨g, hg1, hg2, hg3.upd u (hg g hg1)⟩
theorem At.upd {S : Nat → Prop} (h : At w b r s) (u : Upd S w w') (hd : ∀ k, foot b r k → ¬ S k) : At w' b r s :=
  ⟨h.1.upd u (hd _ (.inl rfl)), h.2.1.upd u (fun k hk => hd k (.inr (.inl hk))), h.2.2.1.upd u (fun k hk => hd k (.inr (.inr (.inl hk)))) (fun k hk => hd k (.inr (.inr (.inr hk)))), fun g hg => Nat.lt_of_lt_of_le (h.2.2.2 g hg) u.size⟩
theorem At.lt (h : At w b r s) : ∀ k, foot b r k → k < w.heap.size := by
  rintro k (rfl | hk | hk | hk)
  · exact h.1.lt
  · exact h.2.1.lt k hk
  · rcases h.2.2.1 with ⟨e, _⟩ | ⟨mb, D, e, ho, _⟩
    · rw [e] at hk; cases hk
    · rw [e] at hk
      injection hk with hk
      subst hk
      exact ho.lt
  · exact h.2.2.2 k hk
/-- The footprint grows by new blocks only. -/
def Fr (w : World) (b : Nat) (r r' : Pr) : Prop := ∀ k, foot b r' k → foot b r k ∨ w.heap.size ≤ k
theorem Fr.same (w : World) (b : Nat) (r : Pr) : Fr w b r r := fun k h => .inl h
end
section
variable (w : World) (b : Nat) (r : Pr) (s : HS)
theorem bound (h : At w b r s) : Calls Tryd.prog 28 #[.pointer (some ⟨b, 0, none⟩)] w fun e w' => e = .returned (.int .i64 s.bound) ∧ w = w' := by
  obtain ⟨h0, h1, h2, h3, hf⟩ := h.cells
  go_enter Tryd.func28, Tryd.ntmps28
  go_wp2
  go_ret
  exact ⟨rfl, rfl⟩
theorem len (h : At w b r s) : Calls Tryd.prog 18 #[.pointer (some ⟨b, 0, none⟩)] w fun e w' => e = .returned (.int .i64 s.ents.length) ∧ w = w' := by
  obtain ⟨h0, h1, h2, h3, hf⟩ := h.cells
  obtain ⟨A, c, hv, hl⟩ := h.2.1.form
  rw [hv] at h1
  clear h
  go_enter Tryd.func18, Tryd.ntmps18
  go_wp2
  go_ret
  exact ⟨rfl, rfl⟩
theorem place (h : At w b r s) : Calls Tryd.prog 14 #[.pointer (some ⟨b, 0, none⟩)] w fun e w' => e = .returned (.int .i64 s.place) ∧ w = w' := by
  obtain ⟨h0, h1, h2, h3, hf⟩ := h.cells
  go_enter Tryd.func14, Tryd.ntmps14
  go_wp2
  go_ret
  exact ⟨rfl, rfl⟩
theorem NAt.len {m : Option Nat} {gs : List Nat} {l : List Note} (h : NAt w m gs l) : (Builtin.len_ #[51] 3 #[.map m]).run Tryd.prog w = .ok (.int .i64 l.length) w := by
  rcases h with ⟨rfl, rfl⟩ | ⟨mb, D, rfl, ho, h1, _⟩
  · exact Maps.len_nil Tryd.underlying51 3
  · rw [ho.len Tryd.underlying51 3, h1]
theorem drafts (h : At w b r s) : Calls Tryd.prog 20 #[.pointer (some ⟨b, 0, none⟩)] w fun e w' => e = .returned (.int .i64 s.notes.length) ∧ w = w' := by
  obtain ⟨h0, h1, h2, h3, hf⟩ := h.cells
  have hL := NAt.len w h.2.2.1
  clear h
  go_enter Tryd.func20, Tryd.ntmps20
  go_wp2
  go_ret
  exact ⟨rfl, rfl⟩
theorem entries (h : At w b r s) (hn : s.ents.length ≤ 100000) : Calls Tryd.prog 12 #[.pointer (some ⟨b, 0, none⟩)] w fun e w' => ∃ v', e = .returned v' ∧ Own w' v' s.ents ∧ (∀ k, v'.ownBlock = some k → w.heap.size ≤ k) ∧ Below w.heap.size w w' := by
  obtain ⟨h0, h1, h2, h3, hf⟩ := h.cells
  have HO := Lib.hid h.2.1
  clear h
  go_enter Tryd.func12, Tryd.ntmps12
  go_wp2_with (go_at_call 33; refine (clone r.v s.ents w HO.out hn).mono ?_; rintro e w' ⟨v', rfl, ho, hk, hb⟩)
  go_ret
  exact ⟨_, rfl, ho, hk, hb⟩
end
end Hist
end Go.Proofs.YtjghfdhahkokhaaDoor
