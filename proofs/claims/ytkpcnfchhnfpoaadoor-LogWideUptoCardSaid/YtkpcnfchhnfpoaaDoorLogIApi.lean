/- A log's methods, each told once. -/
import Derived.Test.YtkpcnfchhnfpoaaDoorLogICancelw
import Derived.Test.YtkpcnfchhnfpoaaDoorAbs2
import Derived.Handy
import Derived.WalkSpells
import Derived.WalkLawsBesides
import Derived.Deep.RegionHeld3
import Derived.LoopTactic
import Derived.BigQuiet
import Derived.IntWalk
import Derived.StillTailTactics
set_option linter.unusedVariables false
namespace Go.Proofs.YtkpcnfchhnfpoaaDoor
open Go.RowKit Go.Proofs.YtkpcnfchhnfpoaaDoorW.PrintWords Go.Proofs.YtkpcnfchhnfpoaaDoor.Sep Log
namespace LogI
/-- What a call on a log leaves: the log in state a, nothing else turned. -/
def Left (w w' : World) (p : Nat) (s : LS) (a : AS A) : Prop := ∃ s', At w' p s' ∧ s'.abs = a ∧ Upd (foot p s) w w' ∧ Fr w p s s'
/-- A list answered, new, of no log's. -/
def LeftL (w w' : World) (p : Nat) (s : LS) (a : AS A) (v : Value) (ds : List Delta) : Prop := ∃ s', At w' p s' ∧ s'.abs = a ∧ Upd (foot p s) w w' ∧ Fr w p s s' ∧ OwnD w' v ds ∧ ∀ k, v.ownBlock = some k → w.heap.size ≤ k ∧ ¬ foot p s' k
section
variable {w w' w1 w5 W : World} {p : Nat} {s s' : LS} {S : Nat → Prop} {init : List Gr} {g : Gr} {v5 : Value} {N : Nat}
theorem Left.same (h : At w p s) (hw : w = w') (a : AS A) (ha : s.abs = a) : Left w w' p s a := by
  subst hw; subst ha
  exact ⟨s, h, rfl, Upd.refl _ _, Fr.refl _ _ _⟩
theorem LeftL.same (h : At w p s) (hw : w = w') (a : AS A) (ha : s.abs = a) : LeftL w w' p s a (.slice none 0 0) [] := by
  obtain ⟨s', h1, h2, h3, h4⟩ := Left.same h hw a ha
  exact ⟨s', h1, h2, h3, h4, OwnS.nil _ _ _, fun k hk => by cases hk⟩
theorem ls_cases (l : List Gr) : l = [] ∨ ∃ init g, l = init ++ [g] := by
  rcases List.eq_nil_or_concat l with h | ⟨i, g, h⟩
  · exact .inl h
  · exact .inr ⟨i, g, by simpa using h⟩
theorem bounds (hi : AS.Inv N s.abs) (hN : N ≤ 100000000000) : s.bound ≤ 1000 ∧ s.undo.length ≤ 1000 ∧ s.redo.length ≤ 1000 ∧ (∀ g ∈ s.undo ++ s.redo, g.ds.length ≤ N) ∧ (s.op = true → s.now.ds.length ≤ N ∧ s.fst ≤ s.now.ds.length) := by
  have hb := hi.b
  have hn := hi.n
  have hd := hi.d
  have hc := hi.c
  unfold LS.abs at hb hn hd hc
  dsimp only at hb hn hd hc
  rw [List.length_map, List.length_map] at hn
  refine ⟨hb, by omega, by omega, fun g hg => ?_, fun ho => ?_⟩
  · refine hd g.abs ?_
    rw [← List.map_append]
    exact List.mem_map_of_mem hg
  · exact hc s.now.abs s.res s.fst (by rw [if_pos ho])
theorem abs_open : s.abs.isOpen = s.op := by
  unfold LS.abs AS.isOpen
  cases s.op <;> rfl
theorem begin_a (h : At w p s) (x : A) (b : Bool) (hb : (!s.abs.isOpen) = b) (a : AS A) (ha : s.abs.begin_ zA x = a) : Calls Tryd.prog 33 #[.pointer (some ⟨p, 0, none⟩), .int .i64 x] w fun e w' => e = .returned (.bool b) ∧ Left w w' p s a := by
  rw [abs_open] at hb
  subst hb; subst ha
  cases ho : s.op with
  | true =>
    refine (begin_no h ho x).mono ?_
    rintro e w' ⟨rfl, rfl⟩
    exact ⟨rfl, s, h, by unfold LS.abs AS.begin_; rw [ho]; rfl, Upd.refl _ _, Fr.refl _ _ _⟩
  | false => exact begin_yes h ho x
theorem resume_a (h : At w p s) (hi : AS.Inv N s.abs) (hN : N ≤ 100000000000) (b : Bool) (hb : s.abs.resumeG.isSome = b) (a : AS A) (ha : s.abs.resume = a) : Calls Tryd.prog 37 #[.pointer (some ⟨p, 0, none⟩)] w fun e w' => e = .returned (.bool b) ∧ Left w w' p s a := by
  obtain ⟨hb1, hb2, hb3, hb4, hb5⟩ := bounds hi hN
  subst hb; subst ha
  have same : ∀ (e : s.abs.resumeG = none), (Calls Tryd.prog 37 #[.pointer (some ⟨p, 0, none⟩)] w fun e w' => e = .returned (.bool false) ∧ w = w') → Calls Tryd.prog 37 #[.pointer (some ⟨p, 0, none⟩)] w fun e w' => e = .returned (.bool s.abs.resumeG.isSome) ∧ Left w w' p s s.abs.resume := by
    intro e hc
    refine hc.mono ?_
    rintro e1 w' ⟨rfl, rfl⟩
    refine ⟨by rw [e]; rfl, s, h, ?_, Upd.refl _ _, Fr.refl _ _ _⟩
    unfold AS.resume
    rw [e]
  cases ho : s.op with
  | true => exact same (by unfold AS.resumeG LS.abs; simp [ho]) (resume_open h ho)
  | false =>
    rcases ls_cases s.redo with hr | ⟨i, g, hr⟩
    · rcases ls_cases s.undo with hu | ⟨i, g, hu⟩
      · exact same (by unfold AS.resumeG LS.abs; simp [ho, hr, hu]) (resume_none h ho hr hu)
      · refine (resume_yes h ho i g hu hr (by rw [hu] at hb2; simp at hb2; omega)).mono ?_
        rintro e w' ⟨rfl, h2⟩
        refine ⟨?_, h2⟩
        unfold AS.resumeG LS.abs
        simp [ho, hr, hu]
    · exact same (by unfold AS.resumeG LS.abs; simp [ho, hr]) (resume_redo h ho (by rw [hr]; simp))
theorem add_a (h : At w p s) (hi : AS.Inv N s.abs) (A : Option Addr) (n c : Nat) (ds : List Delta) (hr : ReadsD w w.heap.size A n ds) (hN : N + n ≤ 100000000000) (hap : 0 < n → ∀ a, A = some a → ¬ foot p s a.block) (b : Bool) (hb : s.abs.isOpen = b) (a : AS LogI.A) (ha : s.abs.add ds = a) :
    Calls Tryd.prog 40 #[.pointer (some ⟨p, 0, none⟩), .slice A n c] w fun e w' => e = .returned (.bool b) ∧ Left w w' p s a := by
  obtain ⟨hb1, hb2, hb3, hb4, hb5⟩ := bounds hi (by omega)
  rw [abs_open] at hb
  subst hb; subst ha
  cases ho : s.op with
  | false =>
    refine (add_no h ho _).mono ?_
    rintro e w' ⟨rfl, rfl⟩
    exact ⟨rfl, s, h, by unfold LS.abs AS.add; rw [ho]; rfl, Upd.refl _ _, Fr.refl _ _ _⟩
  | true => exact add_yes h ho A n c ds hr (by have := (hb5 ho).1; omega) hap
theorem commit_a (h : At w p s) (hi : AS.Inv N s.abs) (hN : N ≤ 100000000000) (x : A) (b : Bool) (hb : s.abs.commitB = b) (a : AS A) (ha : s.abs.commit x = a) : Calls Tryd.prog 43 #[.pointer (some ⟨p, 0, none⟩), .int .i64 x] w fun e w' => e = .returned (.bool b) ∧ Left w w' p s a := by
  obtain ⟨hb1, hb2, hb3, hb4, hb5⟩ := bounds hi hN
  subst hb; subst ha
  cases ho : s.op with
  | false =>
    refine (commit_no h ho x).mono ?_
    rintro e w' ⟨rfl, rfl⟩
    exact ⟨by unfold LS.abs AS.commitB; rw [ho]; rfl, s, h, by unfold LS.abs AS.commit; rw [ho]; rfl, Upd.refl _ _, Fr.refl _ _ _⟩
  | true =>
    by_cases hd : s.now.ds = []
    · refine (commit_empty h ho hd x).mono ?_
      rintro e w' ⟨rfl, h2⟩
      exact ⟨by unfold LS.abs AS.commitB; simp [ho, Gr.abs, hd], h2⟩
    · refine (commit_yes h ho hd x (by omega)).mono ?_
      rintro e w' ⟨rfl, h2⟩
      exact ⟨by unfold LS.abs AS.commitB; simp [ho, Gr.abs, hd], h2⟩
theorem cancel_a (h : At w p s) (hi : AS.Inv N s.abs) (hN : N ≤ 100000000000) (b : Bool) (hb : s.abs.isOpen = b) (ds : List Delta) (hd : s.abs.cancelL = ds) (a : AS A) (ha : s.abs.cancel = a) : Calls Tryd.prog 46 #[.pointer (some ⟨p, 0, none⟩)] w fun e w' => ∃ v, e = .returned (.tuple #[v, .bool b]) ∧ LeftL w w' p s a v ds := by
  obtain ⟨hb1, hb2, hb3, hb4, hb5⟩ := bounds hi hN
  rw [abs_open] at hb
  subst hb; subst ha; subst hd
  cases ho : s.op with
  | false =>
    refine (cancel_no h ho).mono ?_
    rintro e w' ⟨rfl, rfl⟩
    refine ⟨_, rfl, ?_⟩
    rw [show s.abs.cancelL = [] by unfold LS.abs AS.cancelL; rw [ho]; rfl, show s.abs.cancel = s.abs by unfold LS.abs AS.cancel; rw [ho]; rfl]
    exact ⟨s, h, rfl, Upd.refl _ _, Fr.refl _ _ _, OwnS.nil _ _ _, fun k hk => by cases hk⟩
  | true =>
    obtain ⟨hn, hf⟩ := hb5 ho
    have hnl : s.now.ds.length ≤ 1000000000000 := by omega
    have hul : s.undo.length ≤ 2000 := by omega
    have fin : (Calls Tryd.prog 46 #[.pointer (some ⟨p, 0, none⟩)] w fun e w' => ∃ v s', e = .returned (.tuple #[v, .bool true]) ∧ OwnD w' v s.abs.cancelL ∧ (∀ k, v.ownBlock = some k → w.heap.size ≤ k ∧ ¬ foot p s' k) ∧ At w' p s' ∧ s'.abs = s.abs.cancel ∧ Upd (foot p s) w w' ∧ Fr w p s s') → Calls Tryd.prog 46 #[.pointer (some ⟨p, 0, none⟩)] w fun e w' => ∃ v, e = .returned (.tuple #[v, .bool true]) ∧ LeftL w w' p s s.abs.cancel v s.abs.cancelL := fun hc => by
      refine hc.mono ?_
      rintro e w' ⟨v, s', rfl, h1, h2, h3, h4, h5, h6⟩
      exact ⟨v, rfl, s', h3, h4, h5, h6, h1, h2⟩
    refine fin ?_
    have hm := h.d s.now (by simp [LS.groups])
    rcases Nat.lt_or_ge s.fst s.now.ds.length with hlt | hge
    · obtain ⟨g3, off3, cc, hv, hnc, _⟩ := OwnS.some_ hm (by omega)
      cases hr : s.res with
      | false => exact cancel_more_false h ho hr g3 off3 s.fst s.now.ds.length cc hlt hnc hv rfl rfl hf hnl hul
      | true => exact cancel_more_true h ho hr g3 off3 s.fst s.now.ds.length cc hlt hnc hv rfl rfl hf hnl hul
    · have hN2 : s.now.ds.length = s.fst := by omega
      have hD : s.now.ds.drop s.fst = [] := List.drop_eq_nil_of_le (by omega)
      rcases hm.2 with ⟨hv, h0⟩ | ⟨g3, off3, cap, cur, hv, _, hl, _⟩
      · have hf0 : s.fst = 0 := by omega
        cases hr : s.res with
        | false => exact cancel_nil_false h ho hr hv hf0 hD h0 hf hnl hul
        | true => exact cancel_nil_true h ho hr hv hf0 hD h0 hf hnl hul
      · rcases Nat.lt_or_ge s.fst cap with hc | hc
        · obtain ⟨c2, hc2⟩ : ∃ c2, cap = s.fst + (c2 + 1) := ⟨cap - s.fst - 1, by omega⟩
          rw [hN2, hc2] at hv
          cases hr : s.res with
          | false => exact cancel_end2_false h ho hr g3 off3 s.fst c2 hv rfl hD hN2 hf hnl hul
          | true => exact cancel_end2_true h ho hr g3 off3 s.fst c2 hv rfl hD hN2 hf hnl hul
        · have hc2 : cap = s.fst := by omega
          rw [hN2, hc2] at hv
          cases hr : s.res with
          | false => exact cancel_end1_false h ho hr g3 off3 s.fst hv rfl hD hN2 hf hnl hul
          | true => exact cancel_end1_true h ho hr g3 off3 s.fst hv rfl hD hN2 hf hnl hul
theorem undo_a (h : At w p s) (hi : AS.Inv N s.abs) (hN : N ≤ 100000000000) (ds : List Delta) (hd : s.abs.undoL = ds) (x : A) (hx : s.abs.undoA zA = x) (c : Int) (hc : s.abs.undoE = c) (a : AS A) (ha : s.abs.undo_ = a) : Calls Tryd.prog 25 #[.pointer (some ⟨p, 0, none⟩)] w fun e w' => ∃ v, e = .returned (.tuple #[v, .int .i64 x, .int .i64 c]) ∧ LeftL w w' p s a v ds := by
  obtain ⟨hb1, hb2, hb3, hb4, hb5⟩ := bounds hi hN
  subst hd; subst hx; subst hc; subst ha
  have none_ : s.abs.undoG = none → (Calls Tryd.prog 25 #[.pointer (some ⟨p, 0, none⟩)] w fun e w' => e = .returned (.tuple #[.slice none 0 0, .int .i64 zA, .int .i64 3]) ∧ w = w') → Calls Tryd.prog 25 #[.pointer (some ⟨p, 0, none⟩)] w fun e w' => ∃ v, e = .returned (.tuple #[v, .int .i64 (s.abs.undoA zA), .int .i64 s.abs.undoE]) ∧ LeftL w w' p s s.abs.undo_ v s.abs.undoL := fun e hc => by
    refine hc.mono ?_
    rintro e1 w' ⟨rfl, hw⟩
    unfold AS.undoL AS.undoA AS.undoE AS.undo_
    rw [e]
    exact ⟨_, rfl, LeftL.same h hw _ rfl⟩
  cases ho : s.op with
  | true => exact none_ (by unfold AS.undoG LS.abs; simp [ho]) (undo_open h ho)
  | false =>
    rcases ls_cases s.undo with hu | ⟨i, g, hu⟩
    · exact none_ (by unfold AS.undoG LS.abs; simp [ho, hu]) (undo_none h ho hu)
    · have e : s.abs.undoG = some g.abs := by unfold AS.undoG LS.abs; simp [ho, hu]
      refine (undo_some h ho i g hu (by omega) (by rw [hu] at hb2; simp at hb2; omega) (by have := hb4 g (by rw [hu]; simp); omega)).mono ?_
      rintro e1 w' ⟨v, s', rfl, h1, h2, h3, h4, h5, h6⟩
      refine ⟨v, ?_, s', h3, h4, h5, h6, ?_, h2⟩
      · unfold AS.undoA AS.undoE
        rw [e]
        rfl
      · unfold AS.undoL
        rw [e]
        exact h1
theorem redo_a (h : At w p s) (hi : AS.Inv N s.abs) (hN : N ≤ 100000000000) (ds : List Delta) (hd : s.abs.redoL = ds) (x : A) (hx : s.abs.redoA zA = x) (c : Int) (hc : s.abs.redoE = c) (a : AS A) (ha : s.abs.redo_ = a) : Calls Tryd.prog 26 #[.pointer (some ⟨p, 0, none⟩)] w fun e w' => ∃ v, e = .returned (.tuple #[v, .int .i64 x, .int .i64 c]) ∧ LeftL w w' p s a v ds := by
  obtain ⟨hb1, hb2, hb3, hb4, hb5⟩ := bounds hi hN
  subst hd; subst hx; subst hc; subst ha
  have none_ : s.abs.redoG = none → (Calls Tryd.prog 26 #[.pointer (some ⟨p, 0, none⟩)] w fun e w' => e = .returned (.tuple #[.slice none 0 0, .int .i64 zA, .int .i64 4]) ∧ w = w') → Calls Tryd.prog 26 #[.pointer (some ⟨p, 0, none⟩)] w fun e w' => ∃ v, e = .returned (.tuple #[v, .int .i64 (s.abs.redoA zA), .int .i64 s.abs.redoE]) ∧ LeftL w w' p s s.abs.redo_ v s.abs.redoL := fun e hc => by
    refine hc.mono ?_
    rintro e1 w' ⟨rfl, hw⟩
    unfold AS.redoL AS.redoA AS.redoE AS.redo_
    rw [e]
    exact ⟨_, rfl, LeftL.same h hw _ rfl⟩
  cases ho : s.op with
  | true => exact none_ (by unfold AS.redoG LS.abs; simp [ho]) (redo_open h ho)
  | false =>
    rcases ls_cases s.redo with hu | ⟨i, g, hu⟩
    · exact none_ (by unfold AS.redoG LS.abs; simp [ho, hu]) (redo_none h ho hu)
    · have e : s.abs.redoG = some g.abs := by unfold AS.redoG LS.abs; simp [ho, hu]
      refine (redo_some h ho i g hu (by omega) (by rw [hu] at hb3; simp at hb3; omega) (by have := hb4 g (by rw [hu]; simp); omega)).mono ?_
      rintro e1 w' ⟨v, s', rfl, h1, h2, h3, h4, h5, h6⟩
      refine ⟨v, ?_, s', h3, h4, h5, h6, ?_, h2⟩
      · unfold AS.redoA AS.redoE
        rw [e]
        rfl
      · unfold AS.redoL
        rw [e]
        exact h1
theorem clear_a (h : At w p s) : Calls Tryd.prog 50 #[.pointer (some ⟨p, 0, none⟩)] w fun e w' => e = .returned (.tuple #[]) ∧ Left w w' p s s.abs.clear := clear_ h
end
end LogI
end Go.Proofs.YtkpcnfchhnfpoaaDoor
