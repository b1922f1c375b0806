/- The document's history: what each method answers and leaves. -/
import Derived.Test.YtjghfdhahkokhaaDoorBoundsH
set_option linter.unusedVariables false
namespace Go.Proofs.YtjghfdhahkokhaaDoor
open Go.RowKit Go.Proofs.YtjghfdhahkokhaaDoorW.PrintWords Go.Proofs.YtjghfdhahkokhaaDoor.Sep Go.Proofs.YtjghfdhahkokhaaDoor.Libs
namespace RefH
open Hist (HS Inv homed withEnts trim takes add gone textAt look strike put Note E OwnO)
structure Pr where
  v : Value
  nv : Value
def ncells (x : Note) : List Value := [.int .i64 x.1, .string x.2]
def NOwn (w : World) (v : Value) (l : List Note) : Prop := w.ownsRow 0 66 2 v l.length (l.flatMap ncells)
theorem info66 : (Tryd.prog.info? 66).map (fun i => (i.zero, i.size, i.bytes)) = some (some (.agg #[.int .i64 0, .string ⟨#[]⟩]), 2, 24) := by kernel_rfl
def foot (b : Nat) (r : Pr) : Nat → Prop := fun k => k = b ∨ r.v.ownBlock = some k ∨ r.nv.ownBlock = some k
def At (w : World) (b : Nat) (r : Pr) (s : HS) : Prop := Blk w b 61 #[.int .i64 s.bound, r.v, .int .i64 s.place, r.nv] ∧ OwnO w r.v s.ents ∧ NOwn w r.nv s.notes
section
variable {w w' : World} {b : Nat} {r : Pr} {s : HS}
theorem ownO_blk_ne {v : Value} {xs : List ByteArray} {g : Nat} {t : TypeId} {cs : Array Value} (h : OwnO w v xs) (hg : Blk w g t cs) (hne : 9 ≠ t) : v.ownBlock ≠ some g := by
  rcases h with ⟨rfl, _⟩ | ⟨g', off, cap, cur, rfl, hh, _⟩
  · simp [Value.ownBlock]
  · intro he
    have : g' = g := by simpa [Value.ownBlock] using he
    subst this
    exact Blk.ne_ (t := 9) hh hg hne rfl
theorem NOwn.nil (w : World) : NOwn w (.slice none 0 0) [] := ⟨by simp, .inl ⟨rfl, rfl⟩⟩
theorem NOwn.lt {v : Value} {l : List Note} (h : NOwn w v l) : ∀ k, v.ownBlock = some k → k < w.heap.size := fun k hk => (World.ownsRow.lt h k hk).2
theorem NOwn.upd {S : Nat → Prop} {v : Value} {l : List Note} (h : NOwn w v l) (u : Upd S w w') (hn : ∀ k, v.ownBlock = some k → ¬ S k) : NOwn w' v l := own_move h (fun k hk => u.block k (h.lt k hk) (hn k hk))
theorem At.cells (h : At w b r s) : w.cell? ⟨b, 0, none⟩ = some (.int .i64 s.bound) ∧ w.cell? ⟨b, 1, none⟩ = some r.v ∧ w.cell? ⟨b, 2, none⟩ = some (.int .i64 s.place) ∧ w.cell? ⟨b, 3, none⟩ = some r.nv ∧ ∀ j, w.frozen? ⟨b, j, none⟩ = false :=
  ⟨(h.1.cell 0).trans rfl, (h.1.cell 1).trans rfl, (h.1.cell 2).trans rfl, (h.1.cell 3).trans rfl, h.1.frozen⟩
theorem At.ne (h : At w b r s) : r.v.ownBlock ≠ some b := ownO_blk_ne h.2.1 h.1 (by decide)
theorem At.nne (h : At w b r s) : r.nv.ownBlock ≠ some b := own_blk_ne h.2.2 h.1 (by decide)
theorem At.upd {S : Nat → Prop} (h : At w b r s) (u : Upd S w w') (hd : ∀ k, foot b r k → ¬ S k) : At w' b r s :=
  ⟨h.1.upd u (hd _ (.inl rfl)), h.2.1.upd u (fun k hk => hd k (.inr (.inl hk))), h.2.2.upd u (fun k hk => hd k (.inr (.inr hk)))⟩
theorem At.lt (h : At w b r s) : ∀ k, foot b r k → k < w.heap.size := by
  rintro k (rfl | hk | hk)
  · exact h.1.lt
  · exact h.2.1.lt k hk
  · exact h.2.2.lt k hk
def Fr (w : World) (b : Nat) (r r' : Pr) : Prop := ∀ k, foot b r' k → foot b r k ∨ w.heap.size ≤ k
theorem Fr.same (w : World) (b : Nat) (r : Pr) : Fr w b r r := fun k h => .inl h
theorem At.drewN (h : At w b r s) (n : Nat) : At (w.drewN n) b r s := h
theorem At.setPlace (h : At w b r s) (x : Int) : At (w.setCell ⟨b, 2, none⟩ (.int .i64 x)) b r { s with place := x } :=
  ⟨h.1.set_ 2 _, h.2.1.keep fun k hk => Below.heap_setCell w ⟨b, 2, none⟩ _ k (fun e => h.ne (by rw [hk, e])), own_move h.2.2 fun k hk => Below.heap_setCell w ⟨b, 2, none⟩ _ k (fun e => h.nne (by rw [hk, e]))⟩
theorem At.setEnts (h : At w b r s) {v' : Value} {xs : List ByteArray} (ho : OwnO w v' xs) : At (w.setCell ⟨b, 1, none⟩ v') b ⟨v', r.nv⟩ { s with ents := xs } :=
  ⟨h.1.set_ 1 _, ho.keep fun k hk => Below.heap_setCell w ⟨b, 1, none⟩ _ k (fun e => ownO_blk_ne ho h.1 (by decide) (by rw [hk, e])), own_move h.2.2 fun k hk => Below.heap_setCell w ⟨b, 1, none⟩ _ k (fun e => h.nne (by rw [hk, e]))⟩
theorem At.setNotes (h : At w b r s) {v' : Value} {l : List Note} (ho : NOwn w v' l) : At (w.setCell ⟨b, 3, none⟩ v') b ⟨r.v, v'⟩ { s with notes := l } :=
  ⟨h.1.set_ 3 _, h.2.1.keep fun k hk => Below.heap_setCell w ⟨b, 3, none⟩ _ k (fun e => h.ne (by rw [hk, e])), own_move ho fun k hk => Below.heap_setCell w ⟨b, 3, none⟩ _ k (fun e => own_blk_ne ho h.1 (by decide) (by rw [hk, e]))⟩
def r0 : Pr := ⟨.slice none 0 0, .slice none 0 0⟩
theorem new (w : World) (n : Int) : Calls Tryd.prog 23 #[.int .i64 n] w fun e w' => ∃ b, e = .returned (.pointer (some ⟨b, 0, none⟩)) ∧ At w' b r0 (Hist.start n) ∧ w.heap.size ≤ b ∧ Below w.heap.size w w' := by
  go_enter Tryd.func23, Tryd.ntmps23
  go_wp2
  go_ret
  exact ⟨_, rfl, ⟨Blk.new _ _ _, OwnO.nil _, NOwn.nil _⟩, Nat.le_refl _, (Below.refl _ _).alloc (Nat.le_refl _) _⟩
theorem bound (h : At w b r s) : Calls Tryd.prog 39 #[.pointer (some ⟨b, 0, none⟩)] w fun e w' => e = .returned (.int .i64 s.bound) ∧ w = w' := by
  obtain ⟨h0, h1, h2, h3, hf⟩ := h.cells
  go_enter Tryd.func39, Tryd.ntmps39
  go_wp2
  go_ret
  exact ⟨rfl, rfl⟩
theorem len (h : At w b r s) : Calls Tryd.prog 36 #[.pointer (some ⟨b, 0, none⟩)] w fun e w' => e = .returned (.int .i64 s.ents.length) ∧ w = w' := by
  obtain ⟨h0, h1, h2, h3, hf⟩ := h.cells
  obtain ⟨A, c, hv, hl⟩ := h.2.1.form
  rw [hv] at h1
  clear h
  go_enter Tryd.func36, Tryd.ntmps36
  go_wp2
  go_ret
  exact ⟨rfl, rfl⟩
theorem place (h : At w b r s) : Calls Tryd.prog 37 #[.pointer (some ⟨b, 0, none⟩)] w fun e w' => e = .returned (.int .i64 s.place) ∧ w = w' := by
  obtain ⟨h0, h1, h2, h3, hf⟩ := h.cells
  go_enter Tryd.func37, Tryd.ntmps37
  go_wp2
  go_ret
  exact ⟨rfl, rfl⟩
theorem NOwn.form {v : Value} {l : List Note} (h : NOwn w v l) : ∃ A c, v = .slice A l.length c ∧ l.length ≤ c := by
  rcases h.2 with ⟨rfl, h0⟩ | ⟨g, cap, cur, rfl, _, _, hl, _⟩
  · exact ⟨none, 0, by rw [h0], by omega⟩
  · exact ⟨_, _, rfl, hl⟩
theorem drafts (h : At w b r s) : Calls Tryd.prog 38 #[.pointer (some ⟨b, 0, none⟩)] w fun e w' => e = .returned (.int .i64 s.notes.length) ∧ w = w' := by
  obtain ⟨h0, h1, h2, h3, hf⟩ := h.cells
  obtain ⟨A, c, hv, hl⟩ := NOwn.form h.2.2
  rw [hv] at h3
  clear h
  go_enter Tryd.func38, Tryd.ntmps38
  go_wp2
  go_ret
  exact ⟨rfl, rfl⟩
theorem home (h : At w b r s) : Calls Tryd.prog 35 #[.pointer (some ⟨b, 0, none⟩)] w fun e w' => e = .returned (.tuple #[]) ∧ At w' b ⟨r.v, .slice none 0 0⟩ (homed s) ∧ Upd (foot b r) w w' ∧ Fr w b r ⟨r.v, .slice none 0 0⟩ := by
  obtain ⟨h0, h1, h2, h3, hf⟩ := h.cells
  obtain ⟨A, c, hv, hl⟩ := h.2.1.form
  rw [hv] at h1
  have HA := Lib.hid ((h.setPlace s.ents.length).setNotes (NOwn.nil _))
  clear h hv
  go_enter Tryd.func35, Tryd.ntmps35
  go_wp2
  go_returns
  refine ⟨rfl, HA.out, ((Upd.refl _ w).setCell (p := ⟨b, 2, none⟩) (.inl (.inl rfl)) _).setCell (p := ⟨b, 3, none⟩) (.inl (.inl rfl)) _, fun k hk => ?_⟩
  rcases hk with hk | hk | hk
  · exact .inl (.inl hk)
  · exact .inl (.inr (.inl hk))
  · simp [Value.ownBlock] at hk
theorem entries (h : At w b r s) (hn : s.ents.length ≤ 100000) : Calls Tryd.prog 26 #[.pointer (some ⟨b, 0, none⟩)] w fun e w' => ∃ v', e = .returned v' ∧ Own w' v' s.ents ∧ (∀ k, v'.ownBlock = some k → w.heap.size ≤ k) ∧ Below w.heap.size w w' := by
  obtain ⟨i0, hi0, hz0, hz1, hz2⟩ := info_parts Hist.info9
  obtain ⟨h0, h1, h2, h3, hf⟩ := h.cells
  obtain ⟨A, c, hv, hl⟩ := h.2.1.form
  rw [hv] at h1
  have HR := Lib.hid (OwnO.reads (by rw [← hv]; exact h.2.1))
  clear h hv
  go_enter Tryd.func26, Tryd.ntmps26
  go_wp2_with (at_builtin; refine wpList_append_any _ rfl (.tmp 4) (.tmp 8) _ rfl w.heap.size 9 i0 _ 1 16 Tryd.underlying22 hi0 hz0 hz1 hz2 rfl (by omega) (.slice none 0 0) 0 [] rfl ⟨by simp, .inl ⟨rfl, rfl⟩⟩ w.heap.size A s.ents.length c (s.ents.map Value.string) rfl HR.out (one_map _) (by simp only [maxLen]; omega) (by omega) (Nat.le_refl _) ?_; intro v1 w1 hown1 hg1 hat1; have HO := Lib.hid hown1; have HG := Lib.hid hg1; have HA := Lib.hid hat1; clear hown1 hg1 hat1)
  go_ret
  refine ⟨_, rfl, Own.of_base (b := w.heap.size) (by simpa using HO.out), own_ge HO.out, (Below.refl _ _).grown HG.out (Nat.le_refl _) (by simp [Value.ownBlock])⟩
theorem entry (h : At w b r s) (hn : s.ents.length ≤ 1000) (i : Int) :
    Calls Tryd.prog 45 #[.pointer (some ⟨b, 0, none⟩), .int .i64 i] w fun e w' => e = .returned (.tuple #[.string (Hist.entryT s i), .int .i64 (Hist.entryE s i)]) ∧ w = w' := by
  obtain ⟨c0, c1, c2, c3, hf⟩ := h.cells
  unfold Hist.entryT Hist.entryE
  by_cases hp : 0 ≤ i ∧ i < (s.ents.length : Int)
  · simp only [if_pos hp]
    obtain ⟨g, off, c', hv', hlc⟩ := h.2.1.some_ (by omega)
    have hx := OwnO.cell_ (k := i.toNat) (by rw [← hv']; exact h.2.1) (by omega) rfl
    rw [hv'] at c1
    obtain ⟨p0, p1⟩ := hp
    clear h
    generalize hxx : s.ents.getD i.toNat E = x at *
    go_enter Tryd.func45, Tryd.ntmps45
    go_wp2
    go_ret2
    exact ⟨rfl, rfl⟩
  · simp only [if_neg hp]
    obtain ⟨A, c, hv, hl⟩ := h.2.1.form
    rw [hv] at c1
    clear h
    by_cases p0 : i < 0
    · clear hp
      go_enter Tryd.func45, Tryd.ntmps45
      go_wp2
      go_ret2
      exact ⟨rfl, rfl⟩
    · have p1 : (s.ents.length : Int) ≤ i := by omega
      clear hp
      go_enter Tryd.func45, Tryd.ntmps45
      go_wp2
      go_ret2
      exact ⟨rfl, rfl⟩
theorem add_no (h : At w b r s) (t : ByteArray) (hi : Inv s) (ht : takes s t = false) :
    Calls Tryd.prog 25 #[.pointer (some ⟨b, 0, none⟩), .string t] w fun e w' => e = .returned (.bool false) ∧ ∃ r', At w' b r' (homed s) ∧ Upd (foot b r) w w' ∧ Fr w b r r' := by
  have HH := Lib.hid (home h)
  have hn := hi.l1
  obtain ⟨A, c, hv, hl⟩ := h.2.1.form
  have hcase : t.toList.isEmpty = true ∨ (t.toList.isEmpty = false ∧ (s.bound == 0) = true) ∨ (t.toList.isEmpty = false ∧ (s.bound == 0) = false ∧ 0 < s.ents.length ∧ ((s.ents.getD (s.ents.length - 1) E).toList == t.toList) = true) := by
    unfold takes at ht
    cases h1 : t.toList.isEmpty with
    | true => exact .inl rfl
    | false =>
      cases h2 : s.bound == 0 with
      | true => exact .inr (.inl ⟨rfl, rfl⟩)
      | false =>
        rw [beq_eq_false_iff_ne] at h2
        rw [h1] at ht
        simp [h2] at ht
        exact .inr (.inr ⟨rfl, rfl, ht.1, by simpa using ht.2⟩)
  clear ht
  rcases hcase with ht | ⟨ht, hb⟩ | ⟨ht, hb, h0, hs⟩
  · clear h hv
    go_enter Tryd.func25, Tryd.ntmps25
    go_wp2_with (go_at_call 35; refine HH.out.mono ?_; rintro e w1 ⟨rfl, ha, hu, hf⟩; obtain ⟨c0, c1, c2, c3, cf⟩ := ha.cells; have HA := Lib.hid ha; have HU := Lib.hid hu; have HF := Lib.hid hf; clear ha hu hf)
    go_quiet (fail)
    go_wp2
    go_ret
    exact ⟨rfl, _, HA.out, HU.out.drewN _, HF.out⟩
  · clear h hv
    go_enter Tryd.func25, Tryd.ntmps25
    go_wp2_with (go_at_call 35; refine HH.out.mono ?_; rintro e w1 ⟨rfl, ha, hu, hf⟩; obtain ⟨c0, c1, c2, c3, cf⟩ := ha.cells; simp only [homed] at c0 c1 c2 c3; have HA := Lib.hid ha; have HU := Lib.hid hu; have HF := Lib.hid hf; clear ha hu hf)
    go_quiet (fail)
    go_wp2
    go_ret
    exact ⟨rfl, _, HA.out, HU.out.drewN _, HF.out⟩
  · obtain ⟨g, off, c', hv2, _⟩ := h.2.1.some_ h0
    have HC : Hid (∀ w1, At w1 b ⟨r.v, .slice none 0 0⟩ (homed s) → w1.cell? ⟨g, off + (s.ents.length - 1), none⟩ = some (.string (s.ents.getD (s.ents.length - 1) E))) := Lib.hid (fun w1 ha => OwnO.cell_ (by rw [← hv2]; exact ha.2.1) (by show _ < s.ents.length; omega) rfl)
    rw [hv2] at hv
    injection hv with e1 e2 e3
    subst e1; subst e3; clear e2
    generalize s.ents.getD (s.ents.length - 1) E = x at *
    clear h
    have z1 : IntKind.i64.wrap ((s.ents.length : Int) - 1) = (s.ents.length : Int) - 1 := IntWalk.i64_in _ (by omega)
    have z2 : ((s.ents.length : Int) - 1).toNat = s.ents.length - 1 := by omega
    have z3 : 0 ≤ (s.ents.length : Int) - 1 := by omega
    have z4 : (s.ents.length : Int) - 1 < (s.ents.length : Int) := by omega
    go_enter Tryd.func25, Tryd.ntmps25
    go_wp2_with (go_at_call 35; refine HH.out.mono ?_; rintro e w1 ⟨rfl, ha, hu, hf⟩; obtain ⟨c0, c1, c2, c3, cf⟩ := ha.cells; simp only [homed] at c0 c1 c2 c3; rw [hv2] at c1; have hx1 := HC.out w1 ha; have HA := Lib.hid ha; have HU := Lib.hid hu; have HF := Lib.hid hf; clear ha hu hf)
    go_quiet (fail)
    go_wp2
    go_ret
    exact ⟨rfl, _, HA.out, HU.out.drewN _, HF.out⟩
theorem At.entsd {v2 : Value} {w1 w2 : World} {n : Nat} (ha : At w1 b r s) (hb : Below (w1.drewN n).heap.size (w1.drewN n) w2) (hk : ∀ k, v2.ownBlock = some k → (w1.drewN n).heap.size ≤ k) :
    ∀ (w5 : World) (v5 : Value), Upd (fun k => v2.ownBlock = some k) w2 w5 → (v5.ownBlock = v2.ownBlock ∨ ∀ k, v5.ownBlock = some k → w2.heap.size ≤ k) → At w5 b r s ∧ Below w1.heap.size w1 w5 ∧ ∀ k : Nat, v5.ownBlock = some k → w1.heap.size ≤ k := by
  intro w5 v5 hu hn
  have hb1 : Below w1.heap.size w1 w2 := ⟨hb.os, hb.tape, hb.output, hb.size, hb.block⟩
  have hk1 : ∀ k, v2.ownBlock = some k → w1.heap.size ≤ k := hk
  have hb2 : Below w1.heap.size w1 w5 := hb1.trans (hu.toBelow hb1.size hk1)
  refine ⟨ha.upd (Upd.below hb2 No) (fun _ _ h => h), hb2, fun k e => ?_⟩
  rcases hn with h | h
  · exact hk1 k (by rw [← h]; exact e)
  · exact Nat.le_trans hb1.size (h k e)
theorem withEnts_eq (s : HS) (l : List ByteArray) : homed { homed s with ents := l } = withEnts s l := rfl
set_option maxHeartbeats 3200000 in
theorem add_yes (h : At w b r s) (t : ByteArray) (hi : Inv s) (ht : takes s t = true) :
    Calls Tryd.prog 25 #[.pointer (some ⟨b, 0, none⟩), .string t] w fun e w' => e = .returned (.bool true) ∧ ∃ r', At w' b r' (withEnts s (trim s.bound (s.ents ++ [t]))) ∧ Upd (foot b r) w w' ∧ Fr w b r r' := by
  have HH := Lib.hid (home h)
  have hn := hi.l1
  have hn1 : s.ents.length ≤ 100000 := by omega
  have hb0 := hi.b0
  have hb1 := hi.b1
  obtain ⟨A, c, hv, hl⟩ := h.2.1.form
  have hcase : t.toList.isEmpty = false ∧ (s.bound == 0) = false ∧ ((¬ 0 < s.ents.length) ∨ (0 < s.ents.length ∧ ((s.ents.getD (s.ents.length - 1) E).toList == t.toList) = false)) := by
    unfold takes at ht
    cases h1 : t.toList.isEmpty with
    | true => rw [h1] at ht; simp at ht
    | false =>
      cases h2 : s.bound == 0 with
      | true => rw [beq_iff_eq] at h2; rw [h2] at ht; simp at ht
      | false =>
        refine ⟨rfl, rfl, ?_⟩
        rw [beq_eq_false_iff_ne] at h2
        rw [h1] at ht
        by_cases h0 : 0 < s.ents.length
        · simp [h2, h0] at ht
          exact .inr ⟨h0, by rw [beq_eq_false_iff_ne]; simpa using ht⟩
        · exact .inl h0
  obtain ⟨hte, hb, hcase⟩ := hcase
  have hbb : 1 ≤ s.bound := by rw [beq_eq_false_iff_ne] at hb; omega
  have HLn : Hid ((s.ents ++ [t]).length = s.ents.length + 1) := Lib.hid (by simp)
  clear ht
  have hcase2 : (¬ 0 < s.ents.length ∧ ¬ s.bound < (s.ents.length : Int) + 1 ∧ True) ∨ (0 < s.ents.length ∧ ∃ g off x, A = some ⟨g, off, none⟩ ∧ (x.toList == t.toList) = false ∧ Hid (∀ w1, At w1 b ⟨r.v, .slice none 0 0⟩ (homed s) → w1.cell? ⟨g, off + (s.ents.length - 1), none⟩ = some (.string x))) := by
    rcases hcase with h0 | ⟨h0, hs⟩
    · exact .inl ⟨h0, by omega, trivial⟩
    · obtain ⟨g, off, c', hv2, _⟩ := h.2.1.some_ h0
      refine .inr ⟨h0, g, off, _, ?_, hs, Lib.hid (fun w1 ha => OwnO.cell_ (by rw [← hv2]; exact ha.2.1) (by show _ < s.ents.length; omega) rfl)⟩
      rw [hv2] at hv
      injection hv with e1 e2 e3
      exact e1.symm
  clear hcase h
  have z1 : 0 < s.ents.length → IntKind.i64.wrap ((s.ents.length : Int) - 1) = (s.ents.length : Int) - 1 := fun h => IntWalk.i64_in _ (by omega)
  rcases hcase2 with ⟨z5, hbn, _⟩ | ⟨z5, g, off, x, rfl, hx, HC⟩
  · have HT : Hid (trim s.bound (s.ents ++ [t]) = s.ents ++ [t]) := Lib.hid (by unfold trim; rw [if_neg (by rw [HLn.out]; simpa using hbn)])
    have hbd : decide (s.bound < (s.ents.length : Int) + 1) = false := by simp; omega
    clear z1
    go_enter Tryd.func25, Tryd.ntmps25
    go_wp2_with (go_at_call 35; refine HH.out.mono ?_; rintro e w1 ⟨rfl, ha, hu, hf⟩; obtain ⟨c0, c1, c2, c3, cf⟩ := ha.cells; simp only [homed] at c0 c1 c2 c3; rw [hv] at c1; have HA := Lib.hid ha; have HU := Lib.hid hu; have HF := Lib.hid hf; clear ha hu hf)
    go_quiet (fail)
    go_wp2_with (first
      | (go_at_call 26; refine (entries (HA.out.drewN _) hn1).mono ?_; rintro e w2 ⟨v2, rfl, ho, hk, hb⟩; have HO2 : Hid (OwnO w2 v2 s.ents) := Lib.hid (OwnO.ofOwn ho); have HE2 := Lib.hid (At.entsd HA.out hb hk); clear ho hk hb)
      | (at_builtin; refine Hist.wpList_append_o rfl (.tmp 42) (.tmp 44) rfl rfl HO2.out t hn1 rfl rfl ?_; intro v5 w5 h5 hu5 hn5; obtain ⟨ha5, hu15, hn15⟩ := HE2.out w5 v5 hu5 hn5; obtain ⟨g5, off5, d5, rfl, hd5⟩ := h5.some_ (by simp); rw [HLn.out] at hd5; have HOF := Lib.hid h5; rw [HLn.out] at HOF; obtain ⟨e0, e1, e2, e3, ef⟩ := ha5.cells; simp only [homed] at e0 e1 e2 e3; have HA5 := Lib.hid ha5; have HU5 := Lib.hid hu15; have HN5 := Lib.hid hn15; clear h5 hu5 hn5 ha5 hu15 hn15)
      | (go_at_call 35; refine (home (HA5.out.setEnts HOF.out)).mono ?_; rintro e w7 ⟨rfl, ha, hu, hf⟩; have HA7 := Lib.hid ha; have HU7 := Lib.hid hu; have HF7 := Lib.hid hf; clear ha hu hf))
    go_ret
    refine ⟨rfl, _, (by rw [HT.out, ← withEnts_eq]; exact HA7.out), ?_, ?_⟩
    · exact (((HU.out.then_ (Upd.below HU5.out No) (fun k hk => hk.elim)).setCell (p := ⟨b, 1, none⟩) (.inl (.inl rfl)) _)).then_ HU7.out (fun k hk => by
        rcases hk with hk | hk | hk
        · exact .inl (.inl hk)
        · exact .inr (Nat.le_trans HU.out.size (HN5.out k (by simpa [Value.ownBlock] using hk)))
        · simp [Value.ownBlock] at hk)
    · intro k hk
      rcases hk with hk | hk | hk
      · exact .inl (.inl hk)
      · exact .inr (Nat.le_trans HU.out.size (HN5.out k (by simpa [Value.ownBlock] using hk)))
      · simp [Value.ownBlock] at hk
  · have z2 : ((s.ents.length : Int) - 1).toNat = s.ents.length - 1 := by omega
    have z3 : 0 ≤ (s.ents.length : Int) - 1 := by omega
    have z4 : (s.ents.length : Int) - 1 < (s.ents.length : Int) := by omega
    have z1 := z1 z5
    by_cases hbn : s.bound < (s.ents.length : Int) + 1
    · have HT : Hid (trim s.bound (s.ents ++ [t]) = (s.ents ++ [t]).drop 1) := Lib.hid (by unfold trim; rw [if_pos (by rw [HLn.out]; simpa using hbn)])
      have hbd : decide (s.bound < (s.ents.length : Int) + 1) = true := by simp [hbn]
      go_enter Tryd.func25, Tryd.ntmps25
      go_wp2_with (go_at_call 35; refine HH.out.mono ?_; rintro e w1 ⟨rfl, ha, hu, hf⟩; obtain ⟨c0, c1, c2, c3, cf⟩ := ha.cells; simp only [homed] at c0 c1 c2 c3; rw [hv] at c1; have hx1 := HC.out w1 ha; have HA := Lib.hid ha; have HU := Lib.hid hu; have HF := Lib.hid hf; clear ha hu hf)
      go_quiet (fail)
      clear z1 z2 z3 z4
      go_wp2_with (first
        | (go_at_call 26; refine (entries (HA.out.drewN _) hn1).mono ?_; rintro e w2 ⟨v2, rfl, ho, hk, hb⟩; have HO2 : Hid (OwnO w2 v2 s.ents) := Lib.hid (OwnO.ofOwn ho); have HE2 := Lib.hid (At.entsd HA.out hb hk); clear ho hk hb)
        | (at_builtin; refine Hist.wpList_append_o rfl (.tmp 42) (.tmp 44) rfl rfl HO2.out t hn1 rfl rfl ?_; intro v5 w5 h5 hu5 hn5; obtain ⟨ha5, hu15, hn15⟩ := HE2.out w5 v5 hu5 hn5; obtain ⟨g5, off5, d5, rfl, hd5⟩ := h5.some_ (by simp); rw [HLn.out] at hd5; have HOF := Lib.hid (h5.tail (by rw [HLn.out]; omega)); rw [HLn.out, Nat.add_sub_cancel] at HOF; obtain ⟨e0, e1, e2, e3, ef⟩ := ha5.cells; simp only [homed] at e0 e1 e2 e3; have HA5 := Lib.hid ha5; have HU5 := Lib.hid hu15; have HN5 := Lib.hid hn15; clear h5 hu5 hn5 ha5 hu15 hn15)
        | (go_at_call 35; refine (home (HA5.out.setEnts HOF.out)).mono ?_; rintro e w7 ⟨rfl, ha, hu, hf⟩; have HA7 := Lib.hid ha; have HU7 := Lib.hid hu; have HF7 := Lib.hid hf; clear ha hu hf))
      go_ret
      refine ⟨rfl, _, (by rw [HT.out, ← withEnts_eq]; exact HA7.out), ?_, ?_⟩
      · exact (((HU.out.then_ (Upd.below HU5.out No) (fun k hk => hk.elim)).setCell (p := ⟨b, 1, none⟩) (.inl (.inl rfl)) _)).then_ HU7.out (fun k hk => by
          rcases hk with hk | hk | hk
          · exact .inl (.inl hk)
          · exact .inr (Nat.le_trans HU.out.size (HN5.out k (by simpa [Value.ownBlock] using hk)))
          · simp [Value.ownBlock] at hk)
      · intro k hk
        rcases hk with hk | hk | hk
        · exact .inl (.inl hk)
        · exact .inr (Nat.le_trans HU.out.size (HN5.out k (by simpa [Value.ownBlock] using hk)))
        · simp [Value.ownBlock] at hk
    · have HT : Hid (trim s.bound (s.ents ++ [t]) = s.ents ++ [t]) := Lib.hid (by unfold trim; rw [if_neg (by rw [HLn.out]; simpa using hbn)])
      have hbd : decide (s.bound < (s.ents.length : Int) + 1) = false := by simp; omega
      go_enter Tryd.func25, Tryd.ntmps25
      go_wp2_with (go_at_call 35; refine HH.out.mono ?_; rintro e w1 ⟨rfl, ha, hu, hf⟩; obtain ⟨c0, c1, c2, c3, cf⟩ := ha.cells; simp only [homed] at c0 c1 c2 c3; rw [hv] at c1; have hx1 := HC.out w1 ha; have HA := Lib.hid ha; have HU := Lib.hid hu; have HF := Lib.hid hf; clear ha hu hf)
      go_quiet (fail)
      clear z1 z2 z3 z4
      go_wp2_with (first
        | (go_at_call 26; refine (entries (HA.out.drewN _) hn1).mono ?_; rintro e w2 ⟨v2, rfl, ho, hk, hb⟩; have HO2 : Hid (OwnO w2 v2 s.ents) := Lib.hid (OwnO.ofOwn ho); have HE2 := Lib.hid (At.entsd HA.out hb hk); clear ho hk hb)
        | (at_builtin; refine Hist.wpList_append_o rfl (.tmp 42) (.tmp 44) rfl rfl HO2.out t hn1 rfl rfl ?_; intro v5 w5 h5 hu5 hn5; obtain ⟨ha5, hu15, hn15⟩ := HE2.out w5 v5 hu5 hn5; obtain ⟨g5, off5, d5, rfl, hd5⟩ := h5.some_ (by simp); rw [HLn.out] at hd5; have HOF := Lib.hid h5; rw [HLn.out] at HOF; obtain ⟨e0, e1, e2, e3, ef⟩ := ha5.cells; simp only [homed] at e0 e1 e2 e3; have HA5 := Lib.hid ha5; have HU5 := Lib.hid hu15; have HN5 := Lib.hid hn15; clear h5 hu5 hn5 ha5 hu15 hn15)
        | (go_at_call 35; refine (home (HA5.out.setEnts HOF.out)).mono ?_; rintro e w7 ⟨rfl, ha, hu, hf⟩; have HA7 := Lib.hid ha; have HU7 := Lib.hid hu; have HF7 := Lib.hid hf; clear ha hu hf))
      go_ret
      refine ⟨rfl, _, (by rw [HT.out, ← withEnts_eq]; exact HA7.out), ?_, ?_⟩
      · exact (((HU.out.then_ (Upd.below HU5.out No) (fun k hk => hk.elim)).setCell (p := ⟨b, 1, none⟩) (.inl (.inl rfl)) _)).then_ HU7.out (fun k hk => by
          rcases hk with hk | hk | hk
          · exact .inl (.inl hk)
          · exact .inr (Nat.le_trans HU.out.size (HN5.out k (by simpa [Value.ownBlock] using hk)))
          · simp [Value.ownBlock] at hk)
      · intro k hk
        rcases hk with hk | hk | hk
        · exact .inl (.inl hk)
        · exact .inr (Nat.le_trans HU.out.size (HN5.out k (by simpa [Value.ownBlock] using hk)))
        · simp [Value.ownBlock] at hk
theorem add_ (h : At w b r s) (hi : Inv s) (t : ByteArray) :
    Calls Tryd.prog 25 #[.pointer (some ⟨b, 0, none⟩), .string t] w fun e w' => e = .returned (.bool (takes s t)) ∧ ∃ r', At w' b r' (add s t) ∧ Upd (foot b r) w w' ∧ Fr w b r r' := by
  unfold add
  cases ht : takes s t with
  | true => rw [if_pos rfl]; exact add_yes h t hi ht
  | false => rw [if_neg (by simp)]; exact add_no h t hi ht
end
end RefH
end Go.Proofs.YtjghfdhahkokhaaDoor
