-- Written by a program of this claim: the card of WholeRepaints, tied; the walk is U.repaints_row.
import Derived.Test.YtceomobdolkfgaaDoorRows
import Derived.Test.YtceomobdolkfgaaDoorCards
import Derived.Test.YtceomobdolkfgaaDoorTie
import Derived.Test.YtceomobdolkfgaaDoorEF
import Derived.Test.YtceomobdolkfgaaDoorOpen
import Derived.WalkKit
import Derived.ProofKit
import Derived.OpenShut
import Derived.ShutString
import Derived.ChangeOld
import Derived.Below
import Derived.Lay
import Derived.SizedLaws
import Derived.SevenTiedAt
import Derived.Deep.DeepHandedRow
import Derived.Test.YtceomobdolkfgaaDoorBulk
import Derived.Lib.LaidU8
import Derived.Lib.LaidTab
import Derived.Stop.LaidErr
import Derived.Lib.SmallJoins
namespace Go.Proofs.YtceomobdolkfgaaDoor.wholeRepaints
open Go.ChangeShapes Go.WideShapes Go.ChangeAt Go.RowKit
open Go.ChangeMaps (open_string shut_string)
set_option linter.unusedVariables false
theorem own : ownKnob Tryd.prog.godebug = none := by kernel_rfl
theorem laidOut : laidOutB Tryd.prog = true := by kernel_rfl
open Go.Proofs.YtceomobdolkfgaaDoor Go.Deep
set_option maxRecDepth 1000000

structure P5 where
  pr : ByteArray
  tx : ByteArray
  cur : Int
  wd : Int
  bf : ByteArray
def pcells (u : P5) : List Value := [.string u.pr, .string u.tx, .int .i64 u.cur, .int .i64 u.wd, .string u.bf]
def pDat {H : Type} (u : P5) : DataW H := .agg [Opens.strLit u.pr, Opens.strLit u.tx, .lit (.int .i64 u.cur), .lit (.int .i64 u.wd), Opens.strLit u.bf]
section
variable {H : Type} {enc : TypeId × Value → H} {w : World} {base : Nat} {spare : Nat → Bool} {held : Bool}
theorem painted_dec (n : Nat) (cs : List Value) (y : DataW H × List MemPlace) (hy : DataW.trod enc Tryd.prog w base spare held n 23 cs = some y) : ∃ u : P5, cs = pcells u ∧ y.1 = pDat u := by
  obtain ⟨xs, m, rfl, rfl, hl, hx, hf⟩ := DataW.trod_struct Tryd.underlying23 hy
  have hl2 : cs.length = 5 := hl.trans (by kernel_rfl)
  have h0 := hf 0 _ rfl
  have h1 := hf 1 _ rfl
  have h2 := hf 2 _ rfl
  have h3 := hf 3 _ rfl
  have h4 := hf 4 _ rfl
  have c3 : Tryd.prog.cellsOf 3 = 1 := by kernel_rfl
  have c9 : Tryd.prog.cellsOf 9 = 1 := by kernel_rfl
  change DataW.trod enc Tryd.prog w base spare held m 9 ((cs.drop 0).take (Tryd.prog.cellsOf 9)) = xs[0]? at h0
  change DataW.trod enc Tryd.prog w base spare held m 9 ((cs.drop 1).take (Tryd.prog.cellsOf 9)) = xs[1]? at h1
  change DataW.trod enc Tryd.prog w base spare held m 3 ((cs.drop 2).take (Tryd.prog.cellsOf 3)) = xs[2]? at h2
  change DataW.trod enc Tryd.prog w base spare held m 3 ((cs.drop 3).take (Tryd.prog.cellsOf 3)) = xs[3]? at h3
  change DataW.trod enc Tryd.prog w base spare held m 9 ((cs.drop 4).take (Tryd.prog.cellsOf 9)) = xs[4]? at h4
  rw [c9] at h0 h1 h4
  rw [c3] at h2 h3
  match cs, hl2 with
  | [u0, u1, u2, u3, u4], _ =>
    match xs, hx with
    | [x0, x1, x2, x3, x4], _ =>
      obtain ⟨k0, e0, rfl, hk0⟩ := DataW.trod_string Tryd.underlying9 h0
      obtain ⟨k1, e1, rfl, hk1⟩ := DataW.trod_string Tryd.underlying9 h1
      obtain ⟨k2, e2, rfl, hk2⟩ := DataW.trod_int Tryd.underlying3 h2
      obtain ⟨k3, e3, rfl, hk3⟩ := DataW.trod_int Tryd.underlying3 h3
      obtain ⟨k4, e4, rfl, hk4⟩ := DataW.trod_string Tryd.underlying9 h4
      simp at e0 e1 e2 e3 e4
      subst e0; subst e1; subst e2; subst e3; subst e4
      exact ⟨⟨k0, k1, k2, k3, k4⟩, rfl, rfl⟩
/-- A struct that came in by value. -/
theorem open_val {α : Type} (cells : α → List Value) (dat : α → DataW H) (ok : α → Prop) {t : TypeId} {fs : Array Field} (hs : Tryd.prog.underlying t = some (.struct fs)) (dec : ∀ n cs y, DataW.trod enc Tryd.prog w base spare held n t cs = some y → ∃ u, cs = cells u ∧ y.1 = dat u ∧ ok u)
    {r : Reach} {b0 : Nat} {v : Value} {d : DataW H} {p : List MemPlace} (hv : Value.okWide Tryd.prog w r b0 t v) (h : DataW.Trod enc Tryd.prog w base spare held t v d p) : ∃ u, v = .agg (cells u).toArray ∧ d = dat u ∧ ok u := by
  obtain ⟨cs, rfl, hsz⟩ := okWide_struct hs hv
  obtain ⟨fuel, hf⟩ := h
  obtain ⟨u, h1, h2, h3⟩ := dec fuel _ _ hf
  refine ⟨u, ?_, h2, h3⟩
  rw [← h1]
  simp [Value.cells]
end
/-- The tables, off what was laid. -/
theorem env_of {W : World} (h : laidMet Tryd.prog Rows.wholeRepaintsUptoRow.laid W) : U.Env W := by
  have d3 : (Rows.laid_unicode_utf8_first : DataW Unit) = Lib.firstData := by kernel_rfl
  have d4 : (Rows.laid_unicode_utf8_acceptRanges : DataW Unit) = Lib.acceptData := by kernel_rfl
  have d5 : (Rows.laid_internal_strconv_uint64pow10 : DataW Unit) = Lib.tabData .u64 Lib.pow10Tab := by kernel_rfl
  refine ⟨?_, ?_⟩
  · exact Go.Proofs.utf8Tabs_of_reads (ρ := Tryd.lays197_ren) { Tryd.lays197 with } ⟨by kernel_rfl, by kernel_rfl, by kernel_rfl, by kernel_rfl, by kernel_rfl, by kernel_rfl, by kernel_rfl⟩
      (d3 ▸ Lib.laidMet.reads h (.tail _ (.tail _ (.tail _ (.tail _ (.head _)))))) (d4 ▸ Lib.laidMet.reads h (.tail _ (.tail _ (.tail _ (.head _)))))
  · have h2 : laidMet Tryd.prog ((("internal/strconv.uint64pow10", Rows.laid_internal_strconv_uint64pow10) : String × DataW Unit) :: [("unicode/utf8.acceptRanges", Rows.laid_unicode_utf8_acceptRanges), ("unicode/utf8.first", Rows.laid_unicode_utf8_first)]) W := h.tail.tail
    rw [d5] at h2
    exact Lib.tabIs_of_head (t := 133) (e := 127) (n := 20) U.pow_global (by kernel_rfl) (by kernel_rfl) (by kernel_rfl) (by kernel_rfl) (by kernel_rfl) h2
theorem reads (os : Os) {H : Type} (enc : TypeId × Value → H) : ∃ places, DataW.whole enc Tryd.prog ((World.laidAll Tryd.prog os Rows.wholeRepaintsUptoRow.laid).forCall (fun _ _ => 0) ⟨#[], #[.agg #[.string ⟨#[]⟩, .string ⟨#[]⟩, .int .i64 0, .int .i64 0, .string ⟨#[]⟩]], []⟩).memory Tryd.f3.params.toList Rows.wholeRepaintsSpec.vars false (#[.agg #[.string ⟨#[]⟩, .string ⟨#[]⟩, .int .i64 0, .int .i64 0, .string ⟨#[]⟩]] : Array Value).toList 8 = some ([.agg [.lit (.string []), .lit (.string []), .lit (.int .i64 0), .lit (.int .i64 0), .lit (.string [])]], [], places) :=
  ⟨[], by kernel_rfl⟩
theorem laid_met (os : Os) : laidMet Tryd.prog Rows.wholeRepaintsUptoRow.laid ((World.laidAll Tryd.prog os Rows.wholeRepaintsUptoRow.laid).forCall (fun _ _ => 0) ⟨#[], #[.agg #[.string ⟨#[]⟩, .string ⟨#[]⟩, .int .i64 0, .int .i64 0, .string ⟨#[]⟩]], []⟩).memory := laidMet_laidAll _ (by kernel_rfl) (by kernel_rfl)
set_option maxRecDepth 100000 in
theorem lifted (os : Os) (started : os.Started) (H : Type) (enc : TypeId × Value → H) (F : Stop.Interp) :
    ReturnsInHanded {} Tryd.checked os 3 .any ((Rows.OpenSpec.upto Rows.wholeRepaintsSpec).preRow enc Tryd.prog Tryd.f3 Rows.wholeRepaintsUptoRow.domain false Rows.wholeRepaintsUptoRow.laid) (((Rows.OpenSpec.upto Rows.wholeRepaintsSpec).at F).post enc Tryd.prog Tryd.f3 false true false false) := by
  obtain ⟨places, hx⟩ := reads os enc
  refine returnsInHanded_of_row (C := Tryd.checked) (s := Rows.OpenSpec.upto Rows.wholeRepaintsSpec) own started (by kernel_rfl) Tryd.func3
    (witness_row_at (enc := enc) (C := Tryd.checked) false (World.laidAll Tryd.prog os Rows.wholeRepaintsUptoRow.laid) #[.agg #[.string ⟨#[]⟩, .string ⟨#[]⟩, .int .i64 0, .int .i64 0, .string ⟨#[]⟩]] (World.laidAll_os _ _ _) (by kernel_rfl) (by kernel_rfl) (by kernel_rfl)
      (OpenSpec.preRow_of_cond 8 hx (by kernel_rfl) (fun k hk => by cases hk; kernel_rfl) (by kernel_rfl) (laid_met os))) ?_
  intro W base args ds gs before hval0 hW hcnd hcond hsz0 hlaid _ _
  have hk : Rows.uptoSmall H (ds ++ gs) = true := hcond _ rfl
  have hsz : (DataW.weightsEach Tryd.prog (Tryd.f3.params.toList ++ Rows.wholeRepaintsSpec.plain.varTypes Tryd.prog) (ds ++ gs)).all (· ≤ reachBytes) = true := hsz0
  have hval : ∀ (j : Nat) t v, Tryd.f3.params[j]? = some t → args[j]? = some v → Value.okWide Tryd.prog W .any base t v := hval0
  have hW' := hW
  obtain ⟨p, q, hA0, hV, rfl, hfz, hnd⟩ := hW
  have hA : DataW.TrodAll enc Tryd.prog W 0 (fun _ => true) true Tryd.f3.params.toList args.toList ds p := hA0
  rw [Tryd.params3] at hA hval hsz
  obtain ⟨v0, vs0, d0, ds0, p0, q0, hargs, rfl, rfl, h0, r0⟩ := trodAll_cons hA
  obtain ⟨rfl, rfl, rfl⟩ := trodAll_nil r0
  obtain rfl : args = #[v0] := by cases args; simp_all
  obtain ⟨rfl, rfl⟩ := trodVars_none hV
  have k0 := h0
  have lt0 : ∀ x ∈ p0, x.block < W.heap.size := by obtain ⟨m, hm⟩ := k0; exact DataW.trod_lt m _ _ _ hm
  obtain ⟨a0, rfl, rfl, -⟩ := open_val pcells pDat (fun _ => True) Tryd.underlying23 (fun n cs y hy => by obtain ⟨u, h1, h2⟩ := painted_dec n cs y hy; exact ⟨u, h1, h2, trivial⟩) (hval 0 23 v0 rfl rfl) h0
  have hb : a0.pr.size + a0.tx.size + a0.bf.size ≤ 1048576 := by
    have h1 := Bulk.arg hk (d := pDat a0) (by simp)
    have h2 := Bulk.str_le (H := H) a0.pr
    have h3 := Bulk.str_le (H := H) a0.tx
    have h4 := Bulk.str_le (H := H) a0.bf
    unfold pDat at h1
    simp only [Rows.uptoBulk, Rows.uptoBulkAll] at h1
    omega
  have hE : U.Env W := env_of hlaid
  clear hA0 hval0 hsz0 hsz
  refine (U.repaints_w a0.pr a0.tx a0.bf a0.cur a0.wd W hE hb).mono fun e W' ⟨he, bel⟩ => ?_
  subst he
  exact ⟨_, rfl, _, _, _, [], _, [], hW', trodAll_mk1 (shut_bool Tryd.underlying4 _), (trodAll_cons_mk (Below.trod laidOut (by kernel_rfl) (of_decide_eq_true (by kernel_rfl)) k0 bel lt0) trodAll_mk0), rfl, bel.frame _, fun h => by cases h⟩

theorem over : Rows.wholeRepaintsUptoRow.holds Tryd.pinned (Rows.OpenSpec.upto Rows.wholeRepaintsSpec) :=
  OpenClaim.holds_of_cond 3 Tryd.f3 rfl rfl rfl rfl rfl rfl rfl ⟨rfl, rfl, rfl, rfl, rfl⟩ rfl rfl rfl rfl rfl (by kernel_rfl) Tryd.func3 (by kernel_rfl)
    (of_decide_eq_true (by kernel_rfl)) (by unfold Func.isWrapper; first | (rw [if_pos (by decide +kernel)]; kernel_rfl) | (rw [if_neg (by decide +kernel)]; exact ⟨rfl, rfl⟩))
    (fun os started H enc _ F => by rw [OpenClaim.pre_eq_preRow]; exact lifted os started H enc F)
theorem card : Rows.WholeRepaintsUptoCardSaid :=
  Claim7.holds_tied_plain_at .later [] _ _ _ _ over (fun _ h => by cases h) (by kernel_rfl) (fun _ h => by cases h) wholeRepaintsUpto_row_tie rfl ⟨rfl, rfl⟩ (by kernel_rfl) rfl
    (fun f fn hf hfn => by
      obtain rfl : f = 3 := Option.some.inj ((show Tryd.prog.funcNamed Rows.wholeRepaintsUptoRow.func = some 3 by kernel_rfl).symm.trans hf) |>.symm
      obtain rfl : fn = Tryd.f3 := (Option.some.inj (Tryd.func3.symm.trans hfn)).symm
      exact ⟨by kernel_rfl, fun j t ht => by
        rw [Tryd.params3] at ht
        rcases j with _ | j <;> first | (simp at ht; done) | (simp at ht; subst ht; kernel_rfl)⟩)
    (by kernel_rfl)
end Go.Proofs.YtceomobdolkfgaaDoor.wholeRepaints
namespace Go.Proofs.YtceomobdolkfgaaDoor
theorem wholeRepaints_holds : Rows.WholeRepaintsUptoCardSaid := wholeRepaints.card
#print axioms wholeRepaints_holds
end Go.Proofs.YtceomobdolkfgaaDoor
