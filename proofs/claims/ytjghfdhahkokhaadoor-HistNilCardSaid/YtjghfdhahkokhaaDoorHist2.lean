/- The program's history: New, Home, the text at a place, Go, Back, Forward, Entry. -/
import Derived.Test.YtjghfdhahkokhaaDoorHist
import Derived.StillTailTactics
set_option linter.unusedVariables false
namespace Go.Proofs.YtjghfdhahkokhaaDoor
open Go.RowKit Go.Proofs.YtjghfdhahkokhaaDoorW.PrintWords Go.Proofs.YtjghfdhahkokhaaDoor.Sep Go.Proofs.YtjghfdhahkokhaaDoor.Libs
namespace Hist
def start (n : Int) : HS := ⟨min (max n 0) 1000, [], 0, []⟩
theorem Inv.start (n : Int) : Inv (start n) := ⟨by simp [Hist.start]; omega, by simp [Hist.start]; omega, by simp [Hist.start], by simp [Hist.start], by simp [Hist.start], by simp [Hist.start], by simp [Hist.start]⟩
def r0 : Pr := ⟨.slice none 0 0, none, []⟩
theorem new (w : World) (n : Int) : Calls Tryd.prog 22 #[.int .i64 n] w fun e w' => ∃ b, e = .returned (.pointer (some ⟨b, 0, none⟩)) ∧ At w' b r0 (start n) ∧ w.heap.size ≤ b ∧ Below w.heap.size w w' := by
  go_enter Tryd.func22, Tryd.ntmps22
  go_wp2
  go_ret
  exact ⟨_, rfl, ⟨Blk.new _ _ _, Own.nil _, .inl ⟨rfl, rfl⟩, fun g hg => by cases hg⟩, Nat.le_refl _, (Below.refl _ _).alloc (Nat.le_refl _) _⟩
section
variable {w w' : World} {b : Nat} {r : Pr} {s : HS}
theorem At.ownStay (h : At w b r s) (i : Nat) (x : Value) : Own (w.setCell ⟨b, i, none⟩ x) r.v s.ents :=
  h.2.1.keep fun k hk => Below.heap_setCell w ⟨b, i, none⟩ x k (fun e => h.ne (by rw [hk, e]))
theorem At.gne (h : At w b r s) {p : Int} {t : ByteArray} {g : Nat} (hb : Blk w g 9 #[.string t]) : g ≠ b := hb.ne_ h.1 (by decide)
theorem At.setPlace (h : At w b r s) (x : Int) : At (w.setCell ⟨b, 2, none⟩ (.int .i64 x)) b r { s with place := x } := by
  refine ⟨h.1.set_ 2 _, h.ownStay 2 _, ?_, fun g hg => by simpa [World.setCell] using h.2.2.2 g hg⟩
  rcases h.2.2.1 with e | ⟨mb, D, e, ho, h1, h2, h3⟩
  · exact .inl e
  · refine .inr ⟨mb, D, e, ho.setCell (a := ⟨b, 2, none⟩) (fun hx => h.2.2.1.mne h.1 (by rw [e, hx])) _, h1, h2, fun p t hp => ?_⟩
    obtain ⟨g, hg1, hg2, hg3⟩ := h3 p t hp
    exact ⟨g, hg1, hg2, hg3.far (p := ⟨b, 2, none⟩) (fun hx => h.gne (p := p) hg3 hx) _⟩
theorem At.home (h : At w b r s) : At ((w.setCell ⟨b, 2, none⟩ (.int .i64 s.ents.length)).setCell ⟨b, 3, none⟩ (.map none)) b ⟨r.v, none, []⟩ { s with place := s.ents.length, notes := [] } := by
  have h1 := h.setPlace s.ents.length
  exact ⟨h1.1.set_ 3 _, h1.ownStay 3 _, .inl ⟨rfl, rfl⟩, fun g hg => by cases hg⟩
def homed (s : HS) : HS := { s with place := s.ents.length, notes := [] }
theorem Inv.home (h : Inv s) : Inv (homed s) := ⟨h.b0, h.b1, h.len, by simp [homed], by simp [homed], by simp [homed], by simp [homed]⟩
theorem home (h : At w b r s) : Calls Tryd.prog 17 #[.pointer (some ⟨b, 0, none⟩)] w fun e w' => e = .returned (.tuple #[]) ∧ (w.setCell ⟨b, 2, none⟩ (.int .i64 s.ents.length)).setCell ⟨b, 3, none⟩ (.map none) = w' := by
  obtain ⟨h0, h1, h2, h3, hf⟩ := h.cells
  obtain ⟨A, c, hv, hl⟩ := h.2.1.form
  rw [hv] at h1
  clear h
  go_enter Tryd.func17, Tryd.ntmps17
  go_wp2
  go_returns
  exact ⟨rfl, rfl⟩
theorem home_u (h : At w b r s) : Calls Tryd.prog 17 #[.pointer (some ⟨b, 0, none⟩)] w fun e w' => e = .returned (.tuple #[]) ∧ At w' b ⟨r.v, none, []⟩ (homed s) ∧ Upd (foot b r) w w' ∧ Fr w b r ⟨r.v, none, []⟩ := by
  refine (home h).mono ?_
  rintro e w' ⟨rfl, rfl⟩
  exact ⟨rfl, h.home, ((Upd.refl _ w).setCell (p := ⟨b, 2, none⟩) (.inl (.inl rfl)) _).setCell (p := ⟨b, 3, none⟩) (.inl (.inl rfl)) _, fun k hk => by
    rcases hk with hk | hk | hk | hk
    · exact .inl (.inl hk)
    · exact .inl (.inr (.inl hk))
    · cases hk
    · cases hk⟩
theorem NAt.look {m : Option Nat} {gs : List Nat} {l : List Note} (h : NAt w m gs l) (p : Int) (wf : (Lit.int .i64 p).wf = true) :
    ∃ v, (Instr.lookup 51 (.map m) (.int .i64 p) false).run Tryd.prog w = .ok v w ∧ ((look l p = none ∧ v = .pointer none) ∨ ∃ t g, look l p = some t ∧ v = .pointer (some ⟨g, 0, none⟩) ∧ w.cell? ⟨g, 0, none⟩ = some (.string t)) := by
  have hkey := Maps.keyOf_int_mk (P := Tryd.prog) Tryd.underlying3 wf
  rcases h with ⟨rfl, rfl⟩ | ⟨mb, D, rfl, ho, h1, h2, h3⟩
  · exact ⟨_, Maps.look_nil false law Tryd.underlying51 (zeroE w) hkey, .inl ⟨rfl, rfl⟩⟩
  · obtain ⟨v, ps, hrun, hv⟩ := ho.lookup law Tryd.underlying51 (zeroE w) (zd := no) (zp := []) rfl hkey
    refine ⟨v, hrun, ?_⟩
    cases hl : Hist.look l p with
    | none =>
      have hd := Maps.atKey_of_not_has (D := D) (k := .int .i64 p) (by rw [h2, hl]; rfl) no
      rcases ptrElem_inv hv with ⟨rfl, hz⟩ | ⟨g, rfl, hz⟩
      · exact .inl ⟨rfl, rfl⟩
      · injection hz with hz _
        rw [hd] at hz
        simp [no] at hz
    | some t =>
      obtain ⟨g, hg1, hg2, hg3⟩ := h3 p t hl
      rcases ptrElem_inv hv with ⟨rfl, hz⟩ | ⟨g', rfl, hz⟩
      · injection hz with hz _
        rw [hg2] at hz
        simp [no] at hz
      · injection hz with hz _
        rw [hg2] at hz
        simp at hz
        have : g = g' := by omega
        subst this
        exact .inr ⟨t, g, rfl, rfl, (hg3.cell 0).trans rfl⟩
def textAt (s : HS) (p : Int) : ByteArray := match look s.notes p with | some t => t | none => if p < (s.ents.length : Int) then s.ents.getD p.toNat E else ⟨#[]⟩
theorem wf_small {p : Int} (h0 : 0 ≤ p) (h1 : p ≤ 100000) : (Lit.int .i64 p).wf = true := WalkArith.wf_i64 (by omega)
set_option maxHeartbeats 800000 in
theorem at_ (h : At w b r s) (p : Int) (h0 : 0 ≤ p) (h1 : p ≤ (s.ents.length : Int)) (hn : s.ents.length ≤ 100000) :
    Calls Tryd.prog 34 #[.pointer (some ⟨b, 0, none⟩), .int .i64 p] w fun e w' => e = .returned (.string (textAt s p)) ∧ w = w' := by
  obtain ⟨v, hrun, hv⟩ := NAt.look h.2.2.1 p (wf_small h0 (by omega))
  obtain ⟨c0, c1, c2, c3, hf⟩ := h.cells
  obtain ⟨A, c, he, hl⟩ := h.2.1.form
  rw [he] at c1
  rcases hv with ⟨hlk, rfl⟩ | ⟨t, g, hlk, rfl, hc⟩
  · by_cases hp : p < (s.ents.length : Int)
    · have hT : Hid (textAt s p = s.ents.getD p.toNat E) := Lib.hid (by simp [textAt, hlk, hp])
      obtain ⟨g, c', hv', _, hcell, _⟩ := h.2.1.some_ (by omega)
      rw [hv'] at he
      injection he with e1 e2 e3
      subst e1
      have hx := hcell p.toNat (by omega)
      clear h hlk hcell
      generalize s.ents.getD p.toNat ByteArray.empty = x at *
      go_enter Tryd.func34, Tryd.ntmps34
      go_wp2
      go_ret
      exact ⟨by rw [hT.out]; rfl, rfl⟩
    · have hT : Hid (textAt s p = ⟨#[]⟩) := Lib.hid (by simp [textAt, hlk, hp])
      clear h hlk
      go_enter Tryd.func34, Tryd.ntmps34
      go_wp2
      go_ret
      exact ⟨by rw [hT.out]; rfl, rfl⟩
  · have hT : Hid (textAt s p = t) := Lib.hid (by simp [textAt, hlk])
    clear h hlk
    go_enter Tryd.func34, Tryd.ntmps34
    go_wp2
    go_ret
    exact ⟨by rw [hT.out]; rfl, rfl⟩
theorem OwnsM.tight {mb n : Nat} {D : DataW Unit} (h : OwnsM w mb n D) : OwnsM w mb (Maps.size D) D := by
  obtain ⟨es, clock, hb, F, hs, rfl⟩ := h
  exact ⟨es, clock, hb, F, by simp [Maps.size, length_sorted], rfl⟩
theorem OwnsM.ne_blk {mb n g : Nat} {D : DataW Unit} {t : TypeId} {cs : Array Value} (h : OwnsM w mb n D) (hb : Blk w g t cs) : g ≠ mb := by
  rintro rfl
  obtain ⟨es, cl, hh, _⟩ := h
  unfold Blk at hb
  rw [hb] at hh
  cases hh
theorem OwnsM.ne_own {mb n : Nat} {D : DataW Unit} {v : Value} {xs : List ByteArray} (h : OwnsM w mb n D) (ho : Own w v xs) : v.ownBlock ≠ some mb := by
  intro e
  rcases ho.2 with ⟨rfl, _⟩ | ⟨g, cap, cur, rfl, _, hb, _⟩
  · simp [Value.ownBlock] at e
  · have : g = mb := by simpa [Value.ownBlock] using e
    exact h.ne_blk (show Blk w g 9 cur from hb) this
/-- A draft is laid down: the map's block before, and the history behind the store. -/
theorem At.noted {v : Value} {mb : Nat} {gs : List Nat} (h : At w b ⟨v, some mb, gs⟩ s) (hi : Inv s) {g : Nat} {now : ByteArray} (hg : Blk w g 9 #[.string now]) (p : Int) :
    ∃ D, OwnsM w mb s.notes.length D ∧ ∀ w1, OwnsM w1 mb (s.notes.length + 1) (D.put (.int .i64 p) (.lit (.int .i64 g))) → w.grownBy w1 (some mb) → At w1 b ⟨v, some mb, g :: gs⟩ { s with notes := put s.notes p now } := by
  obtain ⟨hb, ho, hN, hl⟩ := h
  rcases hN with ⟨e, _⟩ | ⟨mb', D, e, hown, h1, h2, h3⟩
  · cases e
  injection e with e
  subst e
  refine ⟨D, hown, fun w1 hown1 hgr => ?_⟩
  have hu : Upd (fun k => some mb = some k) w w1 := Upd.grown hgr (fun k hk => hk)
  have hM := hown.isMap
  have hk : WideAt.IsKeyLit (.int .i64 p) := by trivial
  refine ⟨hb.upd hu (fun e => hown.ne_blk hb (by injection e with e; exact e.symm)), ho.upd hu (fun k hk e => OwnsM.ne_own hown ho (by rw [e]; exact hk)), .inr ⟨mb, D.put (.int .i64 p) (.lit (.int .i64 g)), rfl, ?_, ?_, fun q => ?_, fun q t hq => ?_⟩, fun x hx => ?_⟩
  · have e1 := OwnsM.tight hown1
    have e2 : Maps.size (D.put (.int .i64 p) (.lit (.int .i64 g))) = (put s.notes p now).length := by
      rw [Maps.size_put (hown.tidy law), h2, h1, put_len _ _ _ hi.nk]
    rw [e2] at e1
    exact e1
  · rw [Maps.size_put (hown.tidy law), h2, h1, put_len _ _ _ hi.nk]
  · by_cases hq : p = q
    · subst hq
      rw [Maps.has_put_same hM hk, look_put, if_pos rfl]
      rfl
    · rw [Maps.has_put_other (by simp; exact fun e => hq e.symm), look_put, if_neg hq, h2]
  · rw [look_put] at hq
    by_cases hpq : p = q
    · subst hpq
      rw [if_pos rfl] at hq
      injection hq with hq
      subst hq
      exact ⟨g, by simp, Maps.atKey_put_same hM hk _ _, hg.upd hu (fun e => OwnsM.ne_blk hown hg (by injection e with e; exact e.symm))⟩
    · rw [if_neg hpq] at hq
      obtain ⟨g', hg1, hg2, hg3⟩ := h3 q t hq
      exact ⟨g', by simp [hg1], by rw [Maps.atKey_put_other (by simp; exact fun e => hpq e.symm)]; exact hg2, hg3.upd hu (fun e => OwnsM.ne_blk hown hg3 (by injection e with e; exact e.symm))⟩
  · have := hu.size
    rcases List.mem_cons.1 hx with rfl | hx
    · have := hg.lt; omega
    · have := hl x hx; omega
theorem At.mapMade {v : Value} {gs : List Nat} (h : At w b ⟨v, none, gs⟩ s) : At ((w.alloc (.map #[] 0)).setCell ⟨b, 3, none⟩ (.map (some w.heap.size))) b ⟨v, some w.heap.size, gs⟩ s := by
  have hb := h.1.lt
  have h1 := h.upd ((Upd.refl No w).alloc (.map #[] 0)) (fun _ _ h => h)
  refine ⟨h1.1.set_ 3 _, h1.ownStay 3 _, ?_, fun g hg => by simpa [World.setCell] using h1.2.2.2 g hg⟩
  rcases h.2.2.1 with ⟨_, e⟩ | ⟨mb, D, e, _⟩
  · refine .inr ⟨w.heap.size, .map [], rfl, ?_, ?_, fun q => ?_, fun q t hq => ?_⟩
    · rw [e]
      exact (World.ownsMap_made w Tryd.prog 3 ptrElem).setCell (a := ⟨b, 3, none⟩) (by show w.heap.size ≠ b; omega) _
    · rw [e]; rfl
    · rw [e]; rfl
    · rw [e] at hq; simp [Hist.look] at hq
  · cases e
def gone (s : HS) (p : Int) (now : ByteArray) : HS := { s with notes := put s.notes s.place now, place := p }
theorem Inv.gone (h : Inv s) {p : Int} (h0 : 0 ≤ p) (h1 : p ≤ (s.ents.length : Int)) (now : ByteArray) : Inv (gone s p now) :=
  ⟨h.b0, h.b1, h.len, h0, h1, put_pair _ _ _ h.nk, fun x hx => by
    unfold Hist.gone put strike at hx
    simp at hx
    rcases hx with hx | rfl
    · exact h.nr x hx.1
    · exact ⟨h.p0, h.p1⟩⟩
theorem still_tail {P : Program} {id : Nat} {Q : Exit → Act → World → Prop} {a : Act} {w : World} {l : List Oper} (n : Nat) (hm : P.follows .mixedOrders = true) (hB : Region.lexTailB .any l.toArray n = true)
    (h : ∀ w2, w2 = w.drew → wpStill P l.toArray w2 (fun a' => wpList P l.toArray Q (l.drop n) a' w2) (l.take n) a) : (Code.region id l.toArray true).wp P Q a w := wp_region_still_tail n hm hB (h _ rfl)
theorem grown_drew {w w1 : World} {r : Option Nat} (h : w.drew.grownBy w1 r) : w.grownBy w1 r := ⟨h.os, h.tape, h.output, h.size, h.block⟩
theorem go_range (h : At w b r s) (p : Int) (now : ByteArray) (hp : p < 0 ∨ (s.ents.length : Int) < p) :
    Calls Tryd.prog 19 #[.pointer (some ⟨b, 0, none⟩), .int .i64 p, .string now] w fun e w' => e = .returned (.tuple #[.string ⟨#[]⟩, .int .i64 1]) ∧ w.alloc (.cells #[.string now] 9) = w' := by
  have hL := fun o : Obj => Lib.hid (len _ b r s (h.upd ((Upd.refl No w).alloc o) (fun _ _ h => h)))
  clear h
  by_cases h0 : p < 0
  · clear hp
    go_enter Tryd.func19, Tryd.ntmps19
    go_wp2
    go_ret2
    exact ⟨rfl, rfl⟩
  · have h1 : (s.ents.length : Int) < p := by omega
    clear hp
    go_enter Tryd.func19, Tryd.ntmps19
    go_wp2_with (go_at_call 18; refine (hL _).out.mono ?_; rintro e w' ⟨rfl, rfl⟩)
    go_ret2
    exact ⟨rfl, rfl⟩
set_option maxHeartbeats 1600000 in
theorem go_ (h : At w b r s) (hi : Inv s) (p : Int) (now : ByteArray) (h0 : 0 ≤ p) (h1 : p ≤ (s.ents.length : Int)) :
    Calls Tryd.prog 19 #[.pointer (some ⟨b, 0, none⟩), .int .i64 p, .string now] w fun e w' => e = .returned (.tuple #[.string (textAt (gone s p now) p), .int .i64 0]) ∧ ∃ r', At w' b r' (gone s p now) ∧ Upd (foot b r) w w' ∧ Fr w b r r' := by
  have hl1 := hi.l1
  have hnl := hi.nl
  have hp0 := hi.p0
  have hp1 := hi.p1
  have hkey := Maps.keyOf_int_mk (P := Tryd.prog) Tryd.underlying3 (wf_small hp0 (by omega))
  obtain ⟨c0, c1, c2, c3, hf⟩ := h.cells
  have hbw := h.1.lt
  have HA := fun o : Obj => Lib.hid (h.upd ((Upd.refl No w).alloc o) (fun _ _ h => h))
  have HI := Lib.hid hi
  have HLt := Lib.hid h.lt
  obtain ⟨v, m, gs⟩ := r
  dsimp only at *
  have hTx : Hid (∀ w2 r2, At w2 b r2 (gone s p now) → Calls Tryd.prog 34 #[.pointer (some ⟨b, 0, none⟩), .int .i64 p] w2 fun e w' => e = .returned (.string (textAt (gone s p now) p)) ∧ w2 = w') := Lib.hid (fun w2 r2 h2 => at_ h2 p h0 h1 (by show s.ents.length ≤ _; omega))
  clear hi
  cases m with
  | some mb =>
    clear h
    obtain ⟨D, hown, hafter⟩ := At.noted (HA (.cells #[.string now] 9)).out HI.out (Blk.new w 9 #[.string now]) s.place
    have HN := Lib.hid hafter
    clear hafter
    generalize hT : textAt (gone s p now) p = T at *
    have hq1 : ∀ (w : World) (r : Option Nat), (binOp .eql 51 (.map r) (.map none)).run Tryd.prog w = .ok (.bool r.isNone) w := fun w r => run_eql_map_nil w _ _ _ r Tryd.underlying51
    go_enter Tryd.func19, Tryd.ntmps19
    go_wp2_with (go_at_call 18; refine (len _ b _ s (HA _).out).mono ?_; rintro e w' ⟨rfl, rfl⟩)
    refine still_tail 8 (by kernel_rfl) (by kernel_rfl) (fun w2 hw2 => ?_)
    have HW : Hid (At w2 b _ s) := Lib.hid (by rw [hw2]; exact (HA (.cells #[.string now] 9)).out)
    have hown0 : OwnsM w2 _ _ D := (by rw [hw2]; exact hown)
    have HN0 := Lib.hid (fun w1 ho (hg : w2.grownBy w1 _) => HN.out w1 ho (grown_drew (by rw [hw2] at hg; exact hg)))
    have HW2 := Lib.hid hw2
    simp only [List.take_succ_cons, List.take_zero, List.drop_succ_cons, List.drop_zero]
    clear hw2
    obtain ⟨m0, m1, m2, m3, mf⟩ := HW.out.cells
    repeat still_step
    refine wpStill_nil ?_
    go_wp2_with (first
      | (at_mapUpdate; refine wpList_mapUpdate_own _ rfl _ _ _ 51 rfl 3 57 law Tryd.underlying51 ptrElem mb s.notes.length D rfl hown0 (by unfold maxLen; omega) _ _ _ rfl rfl hkey _ [] rfl ?_; intro w1 hown1 hgrow1; have HA1 := Lib.hid (HN0.out w1 hown1 hgrow1); have HG := Lib.hid (grown_drew (HW2.out ▸ hgrow1)); obtain ⟨d0, d1, d2, d3, df⟩ := HA1.out.cells; clear hown1 hgrow1)
      | (go_at_call 34; refine (hTx.out _ _ (HA1.out.setPlace p)).mono ?_; rintro e w' ⟨rfl, rfl⟩))
    go_ret2
    refine ⟨rfl, _, HA1.out.setPlace p, ?_, ?_⟩
    · exact (((Upd.refl (foot b ⟨v, some mb, gs⟩) w).alloc _).then_ (Upd.grown (S := fun k => some mb = some k) HG.out (fun k e => e)) (fun k hk => .inl (.inr (.inr (.inl hk))))).setCell (p := ⟨b, 2, none⟩) (.inl (.inl rfl)) _
    · rintro k (hk | hk | hk | hk)
      · exact .inl (.inl hk)
      · exact .inl (.inr (.inl hk))
      · exact .inl (.inr (.inr (.inl hk)))
      · rcases List.mem_cons.1 hk with rfl | hk
        · exact .inr (Nat.le_refl _)
        · exact .inl (.inr (.inr (.inr hk)))
  | none =>
    clear h
    have hm := At.mapMade (HA (.cells #[.string now] 9)).out
    have es : (w.alloc (.cells #[.string now] 9)).heap.size = w.heap.size + 1 := by simp
    rw [es] at hm
    obtain ⟨D, hown, hafter⟩ := At.noted hm HI.out (g := w.heap.size) (now := now) (((Blk.new w 9 #[.string now]).alloc _).far (p := ⟨b, 3, none⟩) (by show w.heap.size ≠ b; omega) _) s.place
    have HN := Lib.hid hafter
    obtain ⟨d0, d1, d2, d3, df⟩ := hm.cells
    have HM := Lib.hid hm
    clear hafter hm es
    have ew : ((w.alloc (.cells #[.string now] 9)).alloc (.map #[] 0)).setCell ⟨b, 3, none⟩ (.map (some (w.heap.size + 1))) = ((w.setCell ⟨b, 3, none⟩ (.map (some (w.heap.size + 1)))).alloc (.cells #[.string now] 9)).alloc (.map #[] 0) := by
      rw [World.setCell_alloc_past _ _ _ _ (by simp; omega), World.setCell_alloc_past _ _ _ _ hbw]
    have HEW := Lib.hid ew
    rw [ew] at HM HN hown d0 d1 d2 d3
    clear ew
    have hmm := @run_makeMap Tryd.prog
    generalize hT : textAt (gone s p now) p = T at *
    have hq1 : ∀ (w : World) (r : Option Nat), (binOp .eql 51 (.map r) (.map none)).run Tryd.prog w = .ok (.bool r.isNone) w := fun w r => run_eql_map_nil w _ _ _ r Tryd.underlying51
    go_enter Tryd.func19, Tryd.ntmps19
    go_wp2_with (go_at_call 18; refine (len _ b _ s (HA _).out).mono ?_; rintro e w' ⟨rfl, rfl⟩)
    refine still_tail 8 (by kernel_rfl) (by kernel_rfl) (fun w2 hw2 => ?_)
    have HW : Hid (At w2 b _ s) := Lib.hid (by rw [hw2]; exact HM.out)
    have hown0 : OwnsM w2 _ _ D := (by rw [hw2]; exact hown)
    have HN0 := Lib.hid (fun w1 ho (hg : w2.grownBy w1 _) => HN.out w1 ho (grown_drew (by rw [hw2] at hg; exact hg)))
    have HW2 := Lib.hid hw2
    simp only [List.take_succ_cons, List.take_zero, List.drop_succ_cons, List.drop_zero]
    clear hw2
    obtain ⟨m0, m1, m2, m3, mf⟩ := HW.out.cells
    repeat still_step
    refine wpStill_nil ?_
    go_wp2_with (first
      | (at_mapUpdate; refine wpList_mapUpdate_own _ rfl _ _ _ 51 rfl 3 57 law Tryd.underlying51 ptrElem (w.heap.size + 1) s.notes.length D rfl hown0 (by unfold maxLen; omega) _ _ _ rfl rfl hkey _ [] rfl ?_; intro w1 hown1 hgrow1; have HA1 := Lib.hid (HN0.out w1 hown1 hgrow1); have HG := Lib.hid (grown_drew (HW2.out ▸ hgrow1)); obtain ⟨f0, f1, f2, f3, ff⟩ := HA1.out.cells; clear hown1 hgrow1)
      | (go_at_call 34; refine (hTx.out _ _ (HA1.out.setPlace p)).mono ?_; rintro e w' ⟨rfl, rfl⟩))
    go_ret2
    refine ⟨rfl, _, HA1.out.setPlace p, ?_, ?_⟩
    · exact (((((Upd.refl (foot b ⟨v, none, gs⟩) w).setCell (p := ⟨b, 3, none⟩) (.inl (.inl rfl)) _).alloc _).alloc _).then_ (Upd.grown (S := fun k => some (w.heap.size + 1) = some k) HG.out (fun k e => e)) (fun k hk => .inr (by injection hk with hk; omega))).setCell (p := ⟨b, 2, none⟩) (.inl (.inl rfl)) _
    · rintro k (hk | hk | hk | hk)
      · exact .inl (.inl hk)
      · exact .inl (.inr (.inl hk))
      · injection hk with hk
        exact .inr (by omega)
      · rcases List.mem_cons.1 hk with rfl | hk
        · exact .inr (Nat.le_refl _)
        · exact .inl (.inr (.inr (.inr hk)))
def back (s : HS) (now : ByteArray) : HS := if s.place = 0 then s else gone s (s.place - 1) now
def backT (s : HS) (now : ByteArray) : ByteArray := if s.place = 0 then ⟨#[]⟩ else textAt (gone s (s.place - 1) now) (s.place - 1)
def backE (s : HS) : Int := if s.place = 0 then 9 else 0
def forth (s : HS) (now : ByteArray) : HS := if s.place = (s.ents.length : Int) then s else gone s (s.place + 1) now
def forthT (s : HS) (now : ByteArray) : ByteArray := if s.place = (s.ents.length : Int) then ⟨#[]⟩ else textAt (gone s (s.place + 1) now) (s.place + 1)
def forthE (s : HS) : Int := if s.place = (s.ents.length : Int) then 9 else 0
theorem Inv.back (h : Inv s) (now : ByteArray) : Inv (back s now) := by
  have h0 := h.p0
  have h1 := h.p1
  unfold Hist.back
  split
  · exact h
  · exact h.gone (by omega) (by omega) now
theorem Inv.forth (h : Inv s) (now : ByteArray) : Inv (forth s now) := by
  have h0 := h.p0
  have h1 := h.p1
  unfold Hist.forth
  split
  · exact h
  · exact h.gone (by omega) (by omega) now
theorem back_ (h : At w b r s) (hi : Inv s) (now : ByteArray) :
    Calls Tryd.prog 13 #[.pointer (some ⟨b, 0, none⟩), .string now] w fun e w' => e = .returned (.tuple #[.string (backT s now), .int .i64 (backE s)]) ∧ ∃ r', At w' b r' (back s now) ∧ Upd (foot b r) w w' ∧ Fr w b r r' := by
  have h0 := hi.p0
  have h1 := hi.p1
  obtain ⟨c0, c1, c2, c3, hf⟩ := h.cells
  have HP := Lib.hid (place w b r s h)
  unfold backT backE back
  by_cases hp : s.place = 0
  · simp only [if_pos hp]
    have HA := Lib.hid h
    have hz : (s.place == 0) = true := by simp [hp]
    clear h
    go_enter Tryd.func13, Tryd.ntmps13
    go_wp2_with (go_at_call 14; refine HP.out.mono ?_; rintro e w' ⟨rfl, rfl⟩)
    go_ret2
    exact ⟨rfl, r, HA.out, Upd.refl _ _, Fr.same _ _ _⟩
  · simp only [if_neg hp]
    have hz : (s.place == 0) = false := by simp [hp]
    have HG := Lib.hid (go_ h hi (s.place - 1) now (by omega) (by omega))
    have hl1 := hi.l1
    clear h hp
    generalize textAt (gone s (s.place - 1) now) (s.place - 1) = T at *
    go_enter Tryd.func13, Tryd.ntmps13
    go_wp2_with (first
      | (go_at_call 14; refine HP.out.mono ?_; rintro e w' ⟨rfl, rfl⟩)
      | (go_at_call 19; refine HG.out.mono ?_; rintro e w1 ⟨rfl, h5⟩))
    go_ret2
    exact ⟨rfl, h5⟩
theorem forth_ (h : At w b r s) (hi : Inv s) (now : ByteArray) :
    Calls Tryd.prog 15 #[.pointer (some ⟨b, 0, none⟩), .string now] w fun e w' => e = .returned (.tuple #[.string (forthT s now), .int .i64 (forthE s)]) ∧ ∃ r', At w' b r' (forth s now) ∧ Upd (foot b r) w w' ∧ Fr w b r r' := by
  have h0 := hi.p0
  have h1 := hi.p1
  obtain ⟨c0, c1, c2, c3, hf⟩ := h.cells
  have HP := Lib.hid (place w b r s h)
  have HL := Lib.hid (len w b r s h)
  unfold forthT forthE forth
  by_cases hp : s.place = (s.ents.length : Int)
  · simp only [if_pos hp]
    have HA := Lib.hid h
    have hz : decide ((s.ents.length : Int) ≤ s.place) = true := by simp [hp]
    clear h hp
    go_enter Tryd.func15, Tryd.ntmps15
    go_wp2_with (first
      | (go_at_call 14; refine HP.out.mono ?_; rintro e w' ⟨rfl, rfl⟩)
      | (go_at_call 18; refine HL.out.mono ?_; rintro e w' ⟨rfl, rfl⟩))
    go_ret2
    exact ⟨rfl, r, HA.out, Upd.refl _ _, Fr.same _ _ _⟩
  · simp only [if_neg hp]
    have hz : decide ((s.ents.length : Int) ≤ s.place) = false := by simp; omega
    have HG := Lib.hid (go_ h hi (s.place + 1) now (by omega) (by omega))
    have hl1 := hi.l1
    clear h hp
    generalize textAt (gone s (s.place + 1) now) (s.place + 1) = T at *
    go_enter Tryd.func15, Tryd.ntmps15
    go_wp2_with (first
      | (go_at_call 14; refine HP.out.mono ?_; rintro e w' ⟨rfl, rfl⟩)
      | (go_at_call 18; refine HL.out.mono ?_; rintro e w' ⟨rfl, rfl⟩)
      | (go_at_call 19; refine HG.out.mono ?_; rintro e w1 ⟨rfl, h5⟩))
    go_ret2
    exact ⟨rfl, h5⟩
def entryT (s : HS) (i : Int) : ByteArray := if 0 ≤ i ∧ i < (s.ents.length : Int) then s.ents.getD i.toNat E else ⟨#[]⟩
def entryE (s : HS) (i : Int) : Int := if 0 ≤ i ∧ i < (s.ents.length : Int) then 0 else 1
theorem entry_ (h : At w b r s) (hi : Inv s) (i : Int) :
    Calls Tryd.prog 21 #[.pointer (some ⟨b, 0, none⟩), .int .i64 i] w fun e w' => e = .returned (.tuple #[.string (entryT s i), .int .i64 (entryE s i)]) ∧ w = w' := by
  have hl1 := hi.l1
  obtain ⟨c0, c1, c2, c3, hf⟩ := h.cells
  have HL := Lib.hid (len w b r s h)
  unfold entryT entryE
  by_cases hp : 0 ≤ i ∧ i < (s.ents.length : Int)
  · simp only [if_pos hp]
    obtain ⟨g, c', hv', _, hcell, _⟩ := h.2.1.some_ (by omega)
    rw [hv'] at c1
    have hx := hcell i.toNat (by omega)
    obtain ⟨p0, p1⟩ := hp
    clear h hcell
    generalize hxx : s.ents.getD i.toNat ByteArray.empty = x at *
    go_enter Tryd.func21, Tryd.ntmps21
    go_wp2_with (first
      | (go_at_call 18; refine HL.out.mono ?_; rintro e w' ⟨rfl, rfl⟩))
    go_ret2
    exact ⟨rfl, rfl⟩
  · simp only [if_neg hp]
    clear h
    by_cases p0 : i < 0
    · clear hp
      go_enter Tryd.func21, Tryd.ntmps21
      go_wp2
      go_ret2
      exact ⟨rfl, rfl⟩
    · have p1 : (s.ents.length : Int) ≤ i := by omega
      clear hp
      go_enter Tryd.func21, Tryd.ntmps21
      go_wp2_with (first
        | (go_at_call 18; refine HL.out.mono ?_; rintro e w' ⟨rfl, rfl⟩))
      go_ret2
      exact ⟨rfl, rfl⟩
end
end Hist
end Go.Proofs.YtjghfdhahkokhaaDoor
