/- fixed: the chapter's example holds. -/
import Derived.Test.YtkpcnfchhnfpoaaDoorLogIBox
import Derived.Test.YtkpcnfchhnfpoaaDoorMergeQ
import Derived.Test.YtkpcnfchhnfpoaaDoorApply
import Derived.Handy
import Derived.WalkSpells
import Derived.WalkLawsBesides
import Derived.Deep.RegionHeld3
import Derived.LoopTactic
import Derived.BigQuiet
import Derived.IntWalk
import Derived.StillTailTactics
set_option linter.unusedVariables false
namespace Go.Proofs.YtkpcnfchhnfpoaaDoor
open Go.RowKit Go.Proofs.YtkpcnfchhnfpoaaDoorW.PrintWords Go.Proofs.YtkpcnfchhnfpoaaDoor.Sep Log LogI
namespace Fixed
abbrev d1 : Delta := (0, ⟨#[]⟩, ⟨#[97]⟩)
abbrev d2 : Delta := (0, ⟨#[97]⟩, ⟨#[]⟩)
def g1 : AG Int := ⟨[d1], 1, 2⟩
def s0 : AS Int := ⟨2, [], [], none⟩
def s1 : AS Int := ⟨2, [], [], some (⟨[], 1, 0⟩, false, 0)⟩
def s2 : AS Int := ⟨2, [], [], some (⟨[d1], 1, 0⟩, false, 0)⟩
def s3 : AS Int := ⟨2, [g1], [], none⟩
def s4 : AS Int := ⟨2, [], [g1], none⟩
theorem live1 : live d1 = true := by simp [live, ByteArray.toList_eq]
theorem a0 : AS.new (min (max (2 : Int) 0) 1000).toNat = s0 := rfl
theorem a1 : s0.begin_ LogI.zA 1 = s1 := rfl
theorem a2 : s1.add [d1] = s2 := by
  unfold AS.add s1 s2
  simp [live1]
theorem a3 : s2.commit 2 = s3 := rfl
theorem a4 : s3.undo_ = s4 := rfl
theorem a5 : s4.redo_ = s3 := rfl
theorem e1 : s3.undoL = [d2] := rfl
set_option maxHeartbeats 800000
set_option maxRecDepth 100000
theorem mg : mD (2, ⟨#[111]⟩, ⟨#[97, 98]⟩) (3, ⟨#[98, 121]⟩, ⟨#[]⟩) = (2, ⟨#[111, 121]⟩, ⟨#[97]⟩) ∧ mB (2, ⟨#[111]⟩, ⟨#[97, 98]⟩) (3, ⟨#[98, 121]⟩, ⟨#[]⟩) = true := by
  have h := merge_f 2 1 ⟨#[111]⟩ ⟨#[97, 98]⟩ ⟨#[98, 121]⟩ ⟨#[]⟩
  have hok : mOkF 1 ⟨#[97, 98]⟩ ⟨#[98, 121]⟩ = true := by
    unfold mOkF
    rw [ByteArray.toList_eq, ByteArray.toList_eq]
    decide
  rw [if_pos hok] at h
  exact mD_some h
theorem ap : apply ⟨#[97, 98, 99]⟩ [(1, ⟨#[98]⟩, ⟨#[88, 89]⟩)] = (⟨#[97, 88, 89, 99]⟩, true) := by
  have h : apOk ⟨#[97, 98, 99]⟩ (1, ⟨#[98]⟩, ⟨#[88, 89]⟩) = true := by
    unfold apOk
    rw [ByteArray.toList_eq, ByteArray.toList_eq]
    decide
  rw [apply_cons, if_pos h]
  rfl
end Fixed
open Fixed
theorem Log.ReadsD.one (w : World) (d : Delta) : ReadsD (w.alloc (.cells #[.int .i64 d.1, .string d.2.1, .string d.2.2] 24)) (w.alloc (.cells #[.int .i64 d.1, .string d.2.1, .string d.2.2] 24)).heap.size (some ⟨w.heap.size, 0, none⟩) 1 [d] := by
  refine ⟨rfl, ?_⟩
  have h := reads_one w d
  simpa using h
theorem LogI.LB.nfoot {w0 w : World} {p : Nat} {s : LS} {a : AS LogI.A} {N : Nat} (h : LB w0 w p s a N) : ∀ b : Addr, some (⟨w.heap.size, 0, none⟩ : Addr) = some b → ¬ foot p s b.block := fun b e hf => by
  injection e with e
  subst e
  exact Nat.lt_irrefl _ (h.at_.lt _ hf)
theorem below_one (w : World) (o : Obj) : Below w.heap.size w (w.alloc o) := (Below.refl _ _).alloc (Nat.le_refl _) _
theorem mgc (w : World) : Calls Tryd.prog 14 #[.agg #[.int .i64 2, .string ⟨#[111]⟩, .string ⟨#[97, 98]⟩], .agg #[.int .i64 3, .string ⟨#[98, 121]⟩, .string ⟨#[]⟩]] w fun e w' => e = .returned (.tuple #[.agg #[.int .i64 2, .string ⟨#[111, 121]⟩, .string ⟨#[97]⟩], .bool true]) ∧ Below w.heap.size w w' := by
  have h := merge_p w (2, ⟨#[111]⟩, ⟨#[97, 98]⟩) (3, ⟨#[98, 121]⟩, ⟨#[]⟩) (by decide) (by decide) (by decide) (by decide) (by decide) (by decide)
  rw [mg.1, mg.2] at h
  exact h
theorem apc (w : World) : Calls Tryd.prog 11 #[.string ⟨#[97, 98, 99]⟩, .slice (some ⟨w.heap.size, 0, none⟩) 1 1] (w.alloc (.cells #[.int .i64 1, .string ⟨#[98]⟩, .string ⟨#[88, 89]⟩] 24)) fun e w' => e = .returned (.tuple #[.string ⟨#[97, 88, 89, 99]⟩, .bool true]) ∧ Below w.heap.size w w' := by
  have h := apply_p (w.alloc (.cells #[.int .i64 1, .string ⟨#[98]⟩, .string ⟨#[88, 89]⟩] 24)) ⟨#[97, 98, 99]⟩ (some ⟨w.heap.size, 0, none⟩) 1 1 [(1, ⟨#[98]⟩, ⟨#[88, 89]⟩)] (Log.ReadsD.one w _) (by decide) (by decide) (by decide)
  rw [ap] at h
  refine h.mono ?_
  rintro e w' ⟨rfl, hb⟩
  exact ⟨rfl, (below_one w _).trans (hb.mono (below_one w (.cells #[.int .i64 1, .string ⟨#[98]⟩, .string ⟨#[88, 89]⟩] 24)).size)⟩
theorem apc2 (w : World) (o : Obj) : Calls Tryd.prog 11 #[.string ⟨#[97, 98, 99]⟩, .slice (some ⟨w.heap.size + 1, 0, none⟩) 1 1] ((w.alloc o).alloc (.cells #[.int .i64 1, .string ⟨#[98]⟩, .string ⟨#[88, 89]⟩] 24)) fun e w' => e = .returned (.tuple #[.string ⟨#[97, 88, 89, 99]⟩, .bool true]) ∧ Below (w.alloc o).heap.size (w.alloc o) w' := by
  have h := apc (w.alloc o)
  rw [show (w.alloc o).heap.size = w.heap.size + 1 by simp] at h
  rw [show (w.alloc o).heap.size = w.heap.size + 1 by simp]
  exact h
theorem samec (w : World) (v : Value) (d : Delta) (n c : Nat) (A : Option Addr) (hv : v = .slice A n c) (h : OwnD w v [d]) : Calls Tryd.prog 27 #[.slice A n c, .slice (some ⟨w.heap.size, 0, none⟩) 1 1] (w.alloc (.cells #[.int .i64 d.1, .string d.2.1, .string d.2.2] 24)) fun e w' => e = .returned (.bool true) ∧ Below w.heap.size w w' := by
  subst hv
  have hn : n = 1 := by
    obtain ⟨A', c', e, _⟩ := h.len
    injection e with e1 e2 e3
  subst hn
  have h1 := (OwnD.reads h rfl).upd (below_one w (.cells #[.int .i64 d.1, .string d.2.1, .string d.2.2] 24))
  refine (same _ _ _ 1 1 c 1 [d] [d] h1 (Log.ReadsD.one w d) (by omega)).mono ?_
  rintro e w' ⟨rfl, hb⟩
  exact ⟨by simp, (below_one w _).trans (hb.mono (below_one w (.cells #[.int .i64 d.1, .string d.2.1, .string d.2.2] 24)).size)⟩
set_option maxHeartbeats 800000
set_option maxRecDepth 100000
theorem fixed (w : World) : Calls Tryd.prog 10 #[] w fun e w' => e = .returned (.bool true) ∧ Below w.heap.size w w' := by
  have hq : ∀ w : World, (binOp .eql 24 (.agg #[.int .i64 2, .string ⟨#[111, 121]⟩, .string ⟨#[97]⟩]) (.agg #[.int .i64 2, .string ⟨#[111, 121]⟩, .string ⟨#[97]⟩])).run Tryd.prog w = .ok (.bool true) w := fun w => by
    have h := eql24 w (2, ⟨#[111, 121]⟩, ⟨#[97]⟩) (2, ⟨#[111, 121]⟩, ⟨#[97]⟩)
    rw [deq_eq] at h
    simpa [dagg] using h
  go_enter Tryd.func10, Tryd.ntmps10
  go_wp2_with (first
    | (go_at_call 58; refine (next_a _).mono ?_; rintro e wa ⟨rfl, hb⟩; have HWa := Lib.hid hb; clear hb)
    | (go_at_call 20; refine (new_b (w0 := w) 2 HWa.out s0 a0 1000 (by omega)).mono ?_; rintro e wb ⟨p, t0, rfl, hb, -, -⟩; have HB0 := Lib.hid hb; clear hb)
    | (go_at_call 33; refine (begin_b HB0.out 1 true rfl s1 a1).mono ?_; rintro e wc ⟨rfl, t1, hb, -, -⟩; have HB1 := Lib.hid hb; clear hb)
    | (go_at_call 40; refine (add_b (HB1.out.later (below_one _ _)) (some ⟨wc.heap.size, 0, none⟩) 1 1 [d1] (Log.ReadsD.one wc d1) (by omega) (fun _ => HB1.out.nfoot) true rfl s2 a2).mono ?_; rintro e wd ⟨rfl, t2, hb, -, -⟩; have HB2 := Lib.hid hb; clear hb)
    | (go_at_call 43; refine (commit_b HB2.out 2 true rfl s3 a3).mono ?_; rintro e we ⟨rfl, t3, hb, -, -⟩; have HB3 := Lib.hid hb; clear hb)
    | (go_at_call 23; refine (undos_b HB3.out 1 rfl).mono ?_; rintro e wx ⟨rfl, rfl⟩)
    | (go_at_call 25; refine (undo_b HB3.out [d2] e1 1 rfl 0 rfl s4 a4).mono ?_; rintro e wf ⟨v4, rfl, t4, hb, -, -, ho, -⟩; obtain ⟨A4, c4, hv4, hc4⟩ := ho.len; have hv4 : v4 = .slice A4 1 c4 := hv4; have HB4 := Lib.hid hb; have HO4 := Lib.hid ho; subst hv4; clear hb ho)
    | (go_at_call 27; refine (samec _ _ d2 _ _ _ rfl HO4.out).mono ?_; rintro e wg ⟨rfl, hb⟩; have HB5 := Lib.hid (HB4.out.later hb); clear hb HO4)
    | (go_at_call 24; refine (redos_b HB5.out 1 rfl).mono ?_; rintro e wx ⟨rfl, rfl⟩)
    | (go_at_call 26; refine (redo_b HB5.out [d1] rfl 2 rfl 0 rfl s3 a5).mono ?_; rintro e wh ⟨v6, rfl, t6, hb, -, -, ho, -⟩; obtain ⟨A6, c6, hv6, hc6⟩ := ho.len; have hv6 : v6 = .slice A6 1 c6 := hv6; have HB6 := Lib.hid hb; have HO6 := Lib.hid ho; subst hv6; clear hb ho)
    | (go_at_call 14; refine (mgc _).mono ?_; rintro e wi ⟨rfl, hb⟩; have HB7 := Lib.hid (HB6.out.later hb); have HO7 := Lib.hid (OwnS.upd HO6.out (Upd.below hb No) (fun _ _ h => h)); clear hb HO6)
    | (go_at_call 11; refine (apc2 wi _).mono ?_; rintro e wj ⟨rfl, hb⟩; have HO8 := Lib.hid (OwnS.upd HO7.out (Upd.below ((below_one _ _).trans (hb.mono (below_one _ _).size)) No) (fun _ _ h => h)); have hmb := (Blk.new wi 24 #[.int .i64 2, .string ⟨#[111, 121]⟩, .string ⟨#[97]⟩]).upd (Upd.below hb No) (fun h => h); have hm0 := hmb.cell 0; have hm1 := hmb.cell 1; have hm2 := hmb.cell 2; simp only [List.getElem?_toArray, List.getElem?_cons_succ, List.getElem?_cons_zero] at hm0 hm1 hm2; have HWj := Lib.hid hb; have HMB := Lib.hid hmb; clear hb HO7 hmb)
    | (go_at_call 27; refine (samec _ _ d1 _ _ _ rfl HO8.out).mono ?_; rintro e wk ⟨rfl, hb⟩; have hmb := HMB.out.upd (Upd.below hb No) (fun h => h); have hn0 := hmb.cell 0; have hn1 := hmb.cell 1; have hn2 := hmb.cell 2; simp only [List.getElem?_toArray, List.getElem?_cons_succ, List.getElem?_cons_zero] at hn0 hn1 hn2; have HWk := Lib.hid hb; clear hb hmb))
  go_ret
  have h1 : Below wi.heap.size wi wj := (below_one wi _).trans (HWj.out.mono (below_one wi (.cells #[.int .i64 2, .string ⟨#[111, 121]⟩, .string ⟨#[97]⟩] 24)).size)
  have h2 : Below wi.heap.size wi wk := h1.trans (HWk.out.mono h1.size)
  exact ⟨rfl, HB7.out.below.trans (h2.mono HB7.out.below.size)⟩
end Go.Proofs.YtkpcnfchhnfpoaaDoor
