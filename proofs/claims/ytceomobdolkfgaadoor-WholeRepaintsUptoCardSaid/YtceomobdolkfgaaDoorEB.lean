/- cluster.Walk: the iterator hands the clusters of a text, one behind the other. -/
import Derived.RangeFuncNested
import Derived.RangeFuncBound
import Derived.RangeFuncCalls
import Derived.RangeFuncLeaves
import Derived.RangeFuncBox
import Derived.Shelf.Abstract
import Derived.Shelf.RegionOpen
import Derived.WalkKit
import Derived.OwnWalkIn
import Derived.TacticsInMore
import Derived.LoopNIn
import Derived.LoopIn
import Derived.Test.YtceomobdolkfgaaDoorEA
import Derived.Maps.OwnIn
import Derived.Maps.AppendAt
import Derived.Test.YtceomobdolkfgaaDoorWEqStruct
import Derived.StillTailTactics
import Derived.ArgAppend
import Derived.Lib.AppendIntMem
import Derived.Deep.CutRange
import Derived.Deep.Quiet
set_option linter.unusedVariables false
namespace Go.Proofs.YtceomobdolkfgaaDoor
open Go.RowKit Go.Shelf Go.Proofs.YtceomobdolkfgaaDoorW.PrintWords Go.Proofs.YtceomobdolkfgaaDoor.Sep
attribute [local go_sem] Oper.semAt_some
namespace U
/-- The cluster that begins at p. -/
def clAt (t : Bs) (p : Nat) : Cl := ⟨p, p + clen (t.drop p), mcls (t.drop p), mcells (t.drop p)⟩
theorem clus_at (t : Bs) (p : Nat) (hp : p < t.length) : clus p (t.drop p) = clAt t p :: clus (p + clen (t.drop p)) (t.drop (p + clen (t.drop p))) := by
  rw [clus_step p _ (drop_ne t p hp), List.drop_drop]
  rfl
theorem clus_end (t : Bs) (p : Nat) (hp : t.length ≤ p) : clus p (t.drop p) = [] := by
  rw [List.drop_eq_nil_of_le hp]; rfl
theorem clen_in (t : Bs) (p : Nat) (hp : p < t.length) : 1 ≤ clen (t.drop p) ∧ p + clen (t.drop p) ≤ t.length := by
  have h1 := clen_pos _ (drop_ne t p hp)
  have h2 := clen_le (t.drop p)
  rw [List.length_drop] at h2
  omega
abbrev Pos (s : ByteArray) := {p : Nat // Bd (L s) p ∧ p < s.size}
def posV (s : ByteArray) (x : Pos s) : Array Value := #[.agg (clv x.1 (x.1 + clen ((L s).drop x.1) : Nat) (mcls ((L s).drop x.1)) (mcells ((L s).drop x.1)))]
def posC (s : ByteArray) (xs : List (Pos s)) : List Cl := xs.map fun x => clAt (L s) x.1
/-- What a round that goes on keeps: the captured text, and the tables. -/
def KpS (b : Nat) (W W' : World) : Prop := W.heap.size ≤ W'.heap.size ∧ ∀ k, (k = b ∨ k = 0 ∨ k = 1) → k < W.heap.size → W'.heap[k]? = W.heap[k]?
theorem KpS.t {b : Nat} {A B C : World} (h : KpS b A B) (k : KpS b B C) : KpS b A C :=
  ⟨Nat.le_trans h.1 k.1, fun i hi hl => (k.2 i hi (Nat.lt_of_lt_of_le hl h.1)).trans (h.2 i hi hl)⟩
theorem KpS.b_ {b : Nat} {w : World} (h2 : b < w.heap.size ∧ 0 < w.heap.size ∧ 1 < w.heap.size) (W : World) (l : Nat) (o o' : Obj) (hl : w.heap.size ≤ l) (h : W.heap[l]? = some o) : KpS b W (W.putObj l o') := by
  have hg := grownBy_putObj' W l o'
  refine ⟨hg.size, fun k hk hlt => hg.block k hlt (fun e => ?_)⟩
  injection e with e
  omega
theorem KpS.tabs {b : Nat} {W W' : World} (h : KpS b W W') (hT : Tabs W) : Tabs W' := hT.keep (h.2 _ (.inr (.inl rfl)) hT.two.1) (h.2 _ (.inr (.inr rfl)) hT.two.2)
theorem KpS.cell {b : Nat} {W W' : World} (h : KpS b W W') {v : Value} (hc : W.cell? ⟨b, 0, none⟩ = some v) : W'.cell? ⟨b, 0, none⟩ = some v :=
  (World.cell?_of_block (a := ⟨b, 0, none⟩) (h.2 b (.inl rfl) (World.block_lt_of_cell? W ⟨b, 0, none⟩ hc))).trans hc
theorem KpS.of_below {b : Nat} {W W' : World} (h : Below W.heap.size W W') : KpS b W W' := ⟨h.size, fun k _ hl => h.block k hl⟩
theorem KpS.of_upd {b : Nat} {S : Nat → Prop} {W W' : World} (h : Upd S W W') (hb : ¬ S b) (h0 : ¬ S 0) (h1 : ¬ S 1) : KpS b W W' :=
  ⟨h.size, fun k hk hl => h.block k hl (by rcases hk with rfl | rfl | rfl <;> assumption)⟩
theorem below_grown {w w' : World} (h : Below w.heap.size w w') (row : Option Nat) : w.grownBy w' row := by
  refine ⟨h.os, h.tape, h.output, h.size, fun k hk _ => h.block k hk⟩
theorem abides {β : Type} {B : Nat} {J : β → World → Prop} (hJ : AbidesFrom B J) {s : β} {W W' : World} (h : J s W) (hb : Below W.heap.size W W') : J s W' := hJ s W W' none h (below_grown hb none) (fun r e => by cases e)
set_option maxHeartbeats 1600000
set_option maxRecDepth 100000
theorem walk_ (s : ByteArray) (w : World) : Calls Tryd.prog 10 #[.string s] w fun e w' => e = .returned (.func (.func 25) #[] #[.pointer (some ⟨w.heap.size, 0, none⟩)]) ∧ w' = w.alloc (.cells #[.string s] 9) := by
  go_enter Tryd.func10, Tryd.ntmps10
  go_wp2
  go_ret
  exact ⟨rfl, rfl⟩
theorem walk1 (n : Nat) (hn : 1 ≤ n) (s : ByteArray) (hs : s.size ≤ 1099511627776) (l b : Nat) (J Jx : List (Pos s) → World → Prop) (N : Nat) (hN : (clus 0 (L s)).length ≤ N) (B : Nat) (hJ : AbidesFrom B J)
    (hY : ∀ pre x W1, J pre W1 → pre.length < N → YieldAt Fence.wide (n - 1) Tryd.prog l (posV s x) W1 fun e W' =>
      (e = .returned (.bool true) ∧ J (pre ++ [x]) W' ∧ KpS b W1 W') ∨ (e = .returned (.bool false) ∧ Jx (pre ++ [x]) W'))
    (W : World) (hc : W.cell? ⟨b, 0, none⟩ = some (.string s)) (hT : Tabs W) (h0 : J [] W) :
    CallsIn Fence.wide n Tryd.prog 25 #[.func (.yield l) #[] #[], .pointer (some ⟨b, 0, none⟩)] W fun e W' => (∃ v, e = .returned v) ∧
      ((∃ xs, posC s xs = clus 0 (L s) ∧ J xs W') ∨ (∃ pre, True ∧ Jx pre W')) := by
  have hl := L_len s
  refine callsIn_of_wp Tryd.func25 rfl trivial ?_ rfl
  simp only [Tryd.ntmps25, List.size_toArray, List.length_cons, List.length_nil, Nat.reduceAdd, Nat.reduceSub, Array.replicate_succ, Array.replicate_zero, List.push_toArray, List.append_toArray, List.nil_append, List.cons_append]
  gi_wp2
  gi_loopw [3] (fun v wr => ∃ (pre : List (Pos s)) (p : Nat), v = .int .i64 p ∧ p ≤ s.size ∧ Hid (Bd (L s) p) ∧ Hid (posC s pre ++ clus p ((L s).drop p) = clus 0 (L s)) ∧ Hid (J pre wr) ∧ wr.cell? ⟨b, 0, none⟩ = some (.string s) ∧ Hid (Tabs wr))
    (fun v _ => s.size - (intOf v).toNat)
  case atStart => exact ⟨[], 0, rfl, Nat.zero_le _, Lib.hid (bd_zero _), Lib.hid rfl, Lib.hid h0, hc, Lib.hid hT⟩
  case round =>
    obtain ⟨pre, p, rfl, hp, HD, HC, HJ, hcw, HT⟩ := hrel
    have HY := Lib.hid hY
    have HAB := Lib.hid hJ
    clear hY hJ hT hc h0
    by_cases he : p = s.size
    · have hlt : decide ((p : Int) < (s.size : Int)) = false := decide_eq_false (by omega)
      have hend : posC s pre = clus 0 (L s) := by
        have := HC.out
        rwa [clus_end _ _ (by omega), List.append_nil] at this
      have HE := Lib.hid hend
      clear hend
      gi_wp2
      go_end0
      exact ⟨⟨_, rfl⟩, .inl ⟨pre, HE.out, HJ.out⟩⟩
    · have hps : p < s.size := by omega
      have hlt : decide ((p : Int) < (s.size : Int)) = true := decide_eq_true (by omega)
      obtain ⟨q, hq⟩ : ∃ q, p + clen ((L s).drop p) = q := ⟨_, rfl⟩
      have hin := clen_in (L s) p (by omega)
      have HN := Lib.hid (cnext s p wr HT.out hs hps HD.out)
      have HM := Lib.hid (fun w' (h : Below wr.heap.size wr w') => made_ s p q w' (HT.out.below h) hs hps HD.out)
      rw [hq] at HN hin
      have hnext : posC s (pre ++ [⟨p, HD.out, hps⟩]) ++ clus q ((L s).drop q) = clus 0 (L s) := by
        have := HC.out
        rw [clus_at _ _ (by omega), hq] at this
        rw [← this]
        simp [posC]
      have hlen : pre.length < N := by
        have := congrArg List.length hnext
        simp [posC] at this
        omega
      have HQ : Hid (Bd (L s) q) := Lib.hid (by rw [← hq]; exact bd_clen _ _ HD.out (by omega))
      have HNX := Lib.hid hnext
      clear hnext
      gi_wp2_with (first
        | (refine ⟨trivial, ?_⟩; gi_at_call 26; refine (callsIn_wide.2 HN.out).mono ?_; rintro e w1 ⟨rfl, hb1⟩; have hcw1 := (KpS.of_below (b := b) hb1).cell hcw; have HB1 := Lib.hid hb1; clear hb1)
        | (refine ⟨trivial, ?_⟩; gi_at_call 27; refine (callsIn_wide.2 (HM.out _ HB1.out)).mono ?_; rintro e w2 ⟨rfl, hb2⟩; have hcw2 := (KpS.of_below (b := b) hb2).cell hcw1; have HB2 := Lib.hid (below_then HB1.out hb2); obtain ⟨fn, tmps, assign, body, hy, hR⟩ := HY.out pre ⟨p, HD.out, hps⟩ w2 (abides HAB.out HJ.out HB2.out) hlen; dsimp only [posV] at hy; rw [hq] at hy; clear hb2))
      refine hR.mono ?_
      rintro e W3 (⟨rfl, hJ3, hk3⟩ | ⟨rfl, hJx3⟩)
      · have HJ3 := Lib.hid hJ3
        have hcw3 := hk3.cell hcw2
        have HT3 := Lib.hid (hk3.tabs (HT.out.below HB2.out))
        clear hJ3 hk3
        gi_wp2
        go_roundw
        case rel => exact ⟨pre ++ [⟨p, HD.out, hps⟩], q, rfl, by omega, HQ, HNX, HJ3, hcw3, HT3⟩
        case measure => simp [intOf]; omega
      · gi_wp2
        refine bodyPost_ret (results_none rfl _ _ _) rfl ?_
        exact ⟨⟨_, rfl⟩, .inr ⟨_, trivial, hJx3⟩⟩
/-- The iterator's contract. -/
theorem walk_stops (n : Nat) (hn : 1 ≤ n) (s : ByteArray) (hs : s.size ≤ 1099511627776) (b : Nat) (w : World) (hc : w.cell? ⟨b, 0, none⟩ = some (.string s)) (hT : Tabs w) (N : Nat) (hN : (clus 0 (L s)).length ≤ N) :
    SeqStopsK Fence.wide n Tryd.prog 25 #[.pointer (some ⟨b, 0, none⟩)] (posV s) (KpS b) (fun xs => posC s xs = clus 0 (L s)) (fun _ => True) N w := fun l J Jx W hW hJ _ hY h0 =>
  walk1 n hn s hs l b J Jx N hN _ hJ hY W ((KpS.of_below hW).cell hc) (hT.below hW) h0
end U
end Go.Proofs.YtceomobdolkfgaaDoor
/- cluster.List: the clusters of a text in a slice of the call's own. -/
set_option linter.unusedVariables false
namespace Go.Proofs.YtceomobdolkfgaaDoor
open Go.RowKit Go.Shelf Go.Proofs.YtceomobdolkfgaaDoorW.PrintWords Go.Proofs.YtceomobdolkfgaaDoor.Sep
attribute [local go_sem] Oper.semAt_some
namespace U
theorem new_cells (w : World) (cs : List Value) (t : TypeId) : ∀ j u, cs[j]? = some u → (w.alloc (.cells cs.toArray t)).cell? ((⟨w.heap.size, 0, none⟩ : Addr).add j) = some u := by
  intro j u h
  have e : (⟨w.heap.size, 0, none⟩ : Addr).add j = ⟨w.heap.size, j, none⟩ := by unfold Addr.add; split <;> simp_all
  rw [e, (Blk.new w t cs.toArray).cell j]
  simpa using h
def clcells (c : Cl) : List Value := [.int .i64 c.at_, .int .i64 c.to_, .int .i64 c.cls, .int .i64 c.cells]
theorem flat_cl (cs : List Cl) : (cs.flatMap clcells).length = cs.length * 4 := by
  induction cs with
  | nil => rfl
  | cons a l ih => simp only [List.flatMap_cons, List.length_append, ih, List.length_cons]; simp [clcells]; omega
theorem posC_snoc (s : ByteArray) (pre : List (Pos s)) (x : Pos s) : posC s (pre ++ [x]) = posC s pre ++ [clAt (L s) x.1] := by simp [posC]
theorem posV_cells (s : ByteArray) (x : Pos s) : clcells (clAt (L s) x.1) = (clv x.1 (x.1 + clen ((L s).drop x.1) : Nat) (mcls ((L s).drop x.1)) (mcells ((L s).drop x.1))).toList := rfl
theorem Trydinfo_cl : (Tryd.prog.info? 48).map (fun i => (i.zero, i.size, i.bytes)) = some (some (.agg #[.int .i64 0, .int .i64 0, .int .i64 0, .int .i64 0]), 4, 32) := by kernel_rfl
theorem clus_len (t : Bs) : ∀ n p, t.length - p ≤ n → (clus p (t.drop p)).length ≤ t.length - p
  | n, p, h => by
    by_cases hp : p < t.length
    · have hin := clen_in t p hp
      rw [clus_at t p hp]
      match n, h with
      | 0, h => omega
      | n + 1, h =>
        have := clus_len t n (p + clen (t.drop p)) (by omega)
        simp only [List.length_cons]
        omega
    · rw [clus_end t p (by omega)]; simp
/-- A block of one type is not one's own row's of another. -/
theorem kept_of_grown {W w1 : World} {tmp : Obj} {n0 : Nat} {e : TypeId} {size k : Nat} {v : Value} {xs : List Value} (hg : (W.alloc tmp).grownBy w1 v.ownBlock) (hrow : W.ownsRow n0 e size v k xs) {B : Nat} {t : TypeId} {cs : Array Value} (hb : Blk W B t cs) (hne : e ≠ t) : Blk w1 B t cs := by
  have h1 : Blk (W.alloc tmp) B t cs := hb.alloc tmp
  refine (hg.block B h1.lt (fun e' => ?_)).trans h1
  exact own_blk_ne hrow hb hne e'.symm
theorem blk_own {β : Type} (B : Nat) (t : TypeId) (cs : Array Value) : Own (fun (_ : β) W => Blk W B t cs) := fun _ X Y row hs hg hr =>
  (hg.block B hs.lt (fun e => by obtain ⟨o, ho, hc⟩ := hr B e.symm; rw [show X.heap[B]? = _ from hs] at ho; cases ho; cases hc)).trans hs
theorem kps_of {b n0 : Nat} {W W' : World} {t : TypeId} {cs : Array Value} (h : Below n0 W W') (h0 : 0 < n0) (h1 : 1 < n0) (K : Blk W b t cs) (K' : Blk W' b t cs) : KpS b W W' := by
  refine ⟨h.size, fun k hk hl => ?_⟩
  rcases hk with rfl | rfl | rfl
  · exact (show W'.heap[k]? = _ from K').trans (show W.heap[k]? = _ from K).symm
  · exact h.block _ h0
  · exact h.block _ h1
set_option maxHeartbeats 2000000
set_option maxRecDepth 100000
theorem list_ (s : ByteArray) (w : World) (hT : Tabs w) (hs : s.size ≤ 1099511627776) :
    Calls Tryd.prog 67 #[.string s] w fun e w' => ∃ v, e = .returned v ∧ w'.ownsRow w.heap.size 48 4 v (clus 0 (L s)).length ((clus 0 (L s)).flatMap clcells) ∧ Below w.heap.size w w' := by
  obtain ⟨i0, hi, hz0, hz1, hz2⟩ := info_parts Trydinfo_cl
  have hcl := clus_len (L s) _ 0 (Nat.le_refl _)
  rw [L_len] at hcl
  refine (callsIn_wide (n := 6)).1 ?_
  refine callsIn_of_wp_marks Tryd.func67 rfl trivial ?_ rfl
  simp only [Tryd.ntmps67, List.size_toArray, List.length_cons, List.length_nil, Nat.reduceAdd, Nat.reduceSub, Array.replicate_succ, Array.replicate_zero, List.push_toArray, List.append_toArray, List.nil_append, List.cons_append]
  gi_wp2_with (refine ⟨trivial, ?_⟩; gi_at_call 10; refine (callsIn_wide.2 (walk_ s _)).mono ?_; rintro e w' ⟨rfl, rfl⟩)
  have bO := Boxed.new w 110 (.slice none 0 0)
  have bS := Blk.new (w.alloc (.cells #[.slice none 0 0] 110)) 9 #[.string s]
  rw [World.size_alloc] at bS
  have hB0 : Below w.heap.size w ((w.alloc (.cells #[.slice none 0 0] 110)).alloc (.cells #[.string s] 9)) := ((Below.refl _ w).alloc (Nat.le_refl _) _).alloc (by simp) _
  have hTT := hT.below hB0
  obtain ⟨W0, hW0⟩ : ∃ W0, (w.alloc (.cells #[.slice none 0 0] 110)).alloc (.cells #[.string s] 9) = W0 := ⟨_, rfl⟩
  have hsz : W0.heap.size = w.heap.size + 2 := by rw [← hW0]; simp
  have bO0 : Boxed W0 w.heap.size 110 (.slice none 0 0) := by rw [← hW0]; exact bO.alloc _
  rw [hW0] at bS hB0 hTT ⊢
  have hW := hT.two
  refine wpIn_rangeFunc_ownH rfl (by omega) (gf := 25) (lb := #[.pointer (some ⟨w.heap.size + 1, 0, none⟩)]) rfl trivial (enters_of Tryd.func25 (by kernel_rfl) rfl)
    (walk_stops (6 - 1) (by omega) s hs (w.heap.size + 1) W0 (bS.cell 0) hTT s.size hcl) KpS.t (fun W l o o' hl h _ _ => KpS.b_ (by omega) W l o o' hl h) (Below.refl _ _) (fun _ => rfl)
    (fun pre W => ((∃ v, Boxed W w.heap.size 110 v ∧ W.ownsRow w.heap.size 48 4 v (posC s pre).length ((posC s pre).flatMap clcells) ∧ True) ∧ Blk W (w.heap.size + 1) 9 #[.string s]) ∧ Below w.heap.size w W)
    (fun _ _ _ => False)
    (OwnFrom.and (OwnFrom.and (Own.from (holdsRow_own w.heap.size w.heap.size 110 48 4 (fun pre => (posC s pre).length) (fun pre => (posC s pre).flatMap clcells) (fun pre v => True)) _) (Own.from (blk_own _ _ _) _)) (ownFrom_below (Nat.le_refl _) (by omega)))
    (fun _ _ _ _ _ hs _ _ => hs)
    ⟨⟨⟨_, bO0, World.ownsRow_nil _ _ _ _, trivial⟩, bS⟩, hB0⟩
    (fun x a' W => ∃ Bx, Blk W Bx 48 (clcells (clAt (L s) x.1)).toArray ∧ a' = { tmps := #[.string s, undef, .slice none 0 0, .pointer (some ⟨w.heap.size, 0, none⟩), .pointer (some ⟨Bx, 0, none⟩), .string s, .func (.func 25) #[] #[.pointer (some ⟨w.heap.size + 1, 0, none⟩)], .agg (clv x.1 (x.1 + clen ((L s).drop x.1) : Nat) (mcls ((L s).drop x.1)) (mcells ((L s).drop x.1))), undef, undef, undef, undef, undef], defers := [] })
    (fun x a' _ X Y row hs hg hr => by
      obtain ⟨Bx, h2, h3⟩ := hs
      refine ⟨Bx, ?_, h3⟩
      exact (hg.block Bx h2.lt (fun e => by obtain ⟨o, ho, hc⟩ := (hr Bx e.symm).2; rw [h2] at ho; cases ho; cases hc)).trans h2)
    ?assign ?body ?done ?stop
  case assign =>
    rintro l pre x W K ⟨⟨⟨v, hv, hrow, _⟩, hbS⟩, hB⟩ hK
    dsimp only [posV, clv]
    gi_wp2
    exact hK _ _ ((KeepsOthers.alloc _ _).from _) (KpS.of_below (below_one _ _)) ⟨⟨⟨v, hv.alloc _, hrow.alloc _, trivial⟩, hbS.alloc _⟩, hB.alloc hB.size _⟩ ⟨W.heap.size, Blk.new W _ _, rfl⟩
  case body =>
    rintro l pre x a' W hl ⟨r, hr⟩ ⟨⟨⟨v, hv, hrow, _⟩, hbS⟩, hB⟩ ⟨Bx, bX, rfl⟩ hlt
    have hc := hv.cell
    have hpl : (posC s pre).length = pre.length := by simp [posC]
    obtain ⟨b0, b1, b2, b3, -⟩ := Blk.four (v0 := .int .i64 (clAt (L s) x.1).at_) (v1 := .int .i64 (clAt (L s) x.1).to_) (v2 := .int .i64 (clAt (L s) x.1).cls) (v3 := .int .i64 (clAt (L s) x.1).cells) bX
    have hnews := new_cells W (clcells (clAt (L s) x.1)) 48
    have hone : ∀ u ∈ clcells (clAt (L s) x.1), u.oneCell' = true := by intro u hu; simp [clcells] at hu; rcases hu with rfl | rfl | rfl | rfl <;> rfl
    have m1 : (posC s pre).length + 1 ≤ maxLen := by unfold maxLen; omega
    have m2 : ((posC s pre).length + 1) * 32 ≤ 140737488355328 := by omega
    have m3 := hB.size
    clear hpl
    dsimp only [clv]
    gi_wp2_with (gi_at_builtin; refine wpListIn_append_own_at _ rfl _ _ 110 rfl w.heap.size 48 i0 _ 4 32 Tryd.underlying110 hi hz0 hz1 hz2 rfl (by decide) _ _ _ rfl (hrow.alloc _) ⟨W.heap.size, 0, none⟩ 1 1 (clcells (clAt (L s) x.1)) rfl rfl hnews hone m1 m2 (by simp; omega) ?_; intro v' w1 hown' hgrow _ _; obtain ⟨g', cap', rfl⟩ := ownsRow_succ hown'; obtain ⟨hv1, hv2, hr2, hk2, hb2⟩ := hv.appended (by decide) hrow hB.size (Nat.le_refl _) hown' hgrow; have hc1 := hv1.cell; have hf1 := hv1.frozen; have hS1 := kept_of_grown hgrow hrow hbS (by decide))
    exact ⟨hk2.from _, kps_of hb2 hW.1 hW.2 hbS (hS1.far (by show w.heap.size + 1 ≠ w.heap.size; omega) _), ⟨⟨_, hv2, by rw [posC_snoc]; simpa using hr2, trivial⟩, hS1.far (by show w.heap.size + 1 ≠ w.heap.size; omega) _⟩, hB.trans hb2⟩
  case done =>
    rintro D ys W hD hys ⟨⟨⟨v, hv, hrow, _⟩, hbS⟩, hB⟩ hK
    have hc := hv.cell
    gi_wp2
    refine ⟨by simp, .inl ⟨_, _, rfl, run_takeDeferred hK, ?_⟩⟩
    exact ⟨_, results_tmp rfl _ _ _, v, rfl, by rw [← hys]; exact ownsRow_putObj hrow _ hK rfl, hB.trans (belowK_b (w := w) (Nat.le_refl _) W D _ _ (by omega) hK rfl rfl)⟩
  case stop =>
    rintro D c pre W _ _ h _
    exact h.elim
end U
end Go.Proofs.YtceomobdolkfgaaDoor
/- unit.Walk and unit.Units. -/
set_option linter.unusedVariables false
namespace Go.Proofs.YtceomobdolkfgaaDoor
open Go.RowKit Go.Shelf Go.Proofs.YtceomobdolkfgaaDoorW.PrintWords Go.Proofs.YtceomobdolkfgaaDoor.Sep
attribute [local go_sem] Oper.semAt_some
namespace U
def ucells (u : Int × Nat) : List Value := [.int .i32 u.1, .int .i64 u.2]
def uposV (s : ByteArray) (x : Pos s) : Array Value := #[.int .i64 x.1, .agg #[.int .i32 (chr ((L s).drop x.1)), .int .i64 (sz ((L s).drop x.1))]]
def uposC (s : ByteArray) (xs : List (Pos s)) : List (Int × Nat) := xs.map fun x => uni ((L s).drop x.1)
theorem uposC_snoc (s : ByteArray) (pre : List (Pos s)) (x : Pos s) : uposC s (pre ++ [x]) = uposC s pre ++ [uni ((L s).drop x.1)] := by simp [uposC]
theorem units_at (t : Bs) (p : Nat) (hp : p < t.length) : units (t.drop p) = uni (t.drop p) :: units (t.drop (p + sz (t.drop p))) := by
  rw [units_step _ (drop_ne t p hp), List.drop_drop]
theorem units_end (t : Bs) (p : Nat) (hp : t.length ≤ p) : units (t.drop p) = [] := by
  rw [List.drop_eq_nil_of_le hp]; rfl
theorem units_len (t : Bs) : ∀ n p, t.length - p ≤ n → (units (t.drop p)).length ≤ t.length - p
  | n, p, h => by
    by_cases hp : p < t.length
    · have h1 := sz_pos _ (drop_ne t p hp)
      rw [units_at t p hp]
      match n, h with
      | 0, h => omega
      | n + 1, h =>
        have := units_len t n (p + sz (t.drop p)) (by omega)
        simp only [List.length_cons]
        omega
    · rw [units_end t p (by omega)]; simp
/-- Every block of cells but o and what the slice in o owns is kept. -/
structure KpU (o : Nat) (W W' : World) : Prop where
  size : W.heap.size ≤ W'.heap.size
  same : ∀ k ob, W.heap[k]? = some ob → ob.isCells = true → k ≠ o → (∀ v, W.cell? ⟨o, 0, none⟩ = some v → v.ownBlock ≠ some k) → W'.heap[k]? = some ob
  own : ∀ v k, W'.cell? ⟨o, 0, none⟩ = some v → v.ownBlock = some k → (∃ v0, W.cell? ⟨o, 0, none⟩ = some v0 ∧ v0.ownBlock = some k) ∨ (W.heap.size ≤ k ∧ k < W'.heap.size)
theorem KpU.t {o : Nat} {A B C : World} (h : KpU o A B) (g : KpU o B C) : KpU o A C := by
  refine ⟨Nat.le_trans h.size g.size, fun k ob hk hc hne hn => ?_, fun v k hv ho => ?_⟩
  · refine g.same k ob (h.same k ob hk hc hne hn) hc hne (fun v hv ho => ?_)
    rcases h.own v k hv ho with ⟨v0, hv0, ho0⟩ | ⟨h1, _⟩
    · exact hn v0 hv0 ho0
    · have := (Array.getElem?_eq_some_iff.1 hk).1
      omega
  · rcases g.own v k hv ho with ⟨v1, hv1, ho1⟩ | ⟨h1, h2⟩
    · rcases h.own v1 k hv1 ho1 with h3 | ⟨h3, h4⟩
      · exact .inl h3
      · exact .inr ⟨h3, Nat.lt_of_lt_of_le h4 g.size⟩
    · exact .inr ⟨Nat.le_trans h.size h1, h2⟩
theorem KpU.b_ {o n : Nat} (ho : o < n) (W : World) (l : Nat) (ob o' : Obj) (hl : n ≤ l) (h : W.heap[l]? = some ob) (hc : ob.isCells = false) : KpU o W (W.putObj l o') := by
  have hg := grownBy_putObj' W l o'
  have hlt := (Array.getElem?_eq_some_iff.1 h).1
  have hcell : (W.putObj l o').cell? ⟨o, 0, none⟩ = W.cell? ⟨o, 0, none⟩ :=
    World.cell?_of_block (hg.block o (by omega) (fun e => by injection e with e; omega))
  refine ⟨hg.size, fun k ob' hk hc' hne hn => ?_, fun v k hv hk => ?_⟩
  · refine (hg.block k (Array.getElem?_eq_some_iff.1 hk).1 (fun e => ?_)).trans hk
    injection e with e
    subst e
    rw [h] at hk
    cases hk
    rw [hc] at hc'
    cases hc'
  · rw [hcell] at hv
    exact .inl ⟨v, hv, hk⟩
theorem KpU.of_below {o : Nat} {W W' : World} (h : Below W.heap.size W W') (ho : o < W.heap.size) : KpU o W W' :=
  ⟨h.size, fun k ob hk _ _ _ => (h.block k (Array.getElem?_eq_some_iff.1 hk).1).trans hk, fun v k hv hk => .inl ⟨v, by rw [← hv]; exact (h.cell (p := ⟨o, 0, none⟩) ho).symm, hk⟩⟩
theorem KpU.blk {o : Nat} {W W' : World} (h : KpU o W W') {B : Nat} {t : TypeId} {cs : Array Value} (K : Blk W B t cs) (hne : B ≠ o) (hn : ∀ v, W.cell? ⟨o, 0, none⟩ = some v → v.ownBlock ≠ some B) : Blk W' B t cs := h.same B _ K rfl hne hn
/-- What the box o owns lies in the heap. -/
def OwnIn (o : Nat) (W : World) : Prop := ∀ v k, W.cell? ⟨o, 0, none⟩ = some v → v.ownBlock = some k → k < W.heap.size
theorem KpU.ownIn {o : Nat} {W W' : World} (h : KpU o W W') (hi : OwnIn o W) : OwnIn o W' := fun v k hv hk => by
  rcases h.own v k hv hk with ⟨v0, h0, h1⟩ | ⟨_, h2⟩
  · exact Nat.lt_of_lt_of_le (hi v0 k h0 h1) h.size
  · exact h2
/-- A step of the body: something is appended to what the box holds. -/
theorem KpU.step {o n0 : Nat} {W w1 : World} {tmp : Obj} {t e : TypeId} {size k m : Nat} {v v' : Value} {xs ys : List Value} (hv : Boxed W o t v) (hte : t ≠ e) (hrow : W.ownsRow n0 e size v k xs)
    (hown' : w1.ownsRow n0 e size v' m ys) (hgrow : (W.alloc tmp).grownBy w1 v.ownBlock) (hor : v'.ownBlock = v.ownBlock ∨ v'.ownBlock = some (W.alloc tmp).heap.size) (hb : Boxed (w1.setCell ⟨o, 0, none⟩ v') o t v') : KpU o W (w1.setCell ⟨o, 0, none⟩ v') := by
  have hsz : w1.heap.size = (w1.setCell ⟨o, 0, none⟩ v').heap.size := by simp [World.setCell]
  refine ⟨?_, fun j ob hj hc hne hn => ?_, fun u j hu hj => ?_⟩
  · rw [← hsz]
    exact Nat.le_trans (by simp) hgrow.size
  · have hlt := (Array.getElem?_eq_some_iff.1 hj).1
    have h1 : w1.heap[j]? = some ob := (hgrow.block j (by simp; omega) (hn v hv.cell).symm).trans ((Below.heap_alloc W tmp j hlt).trans hj)
    exact (Below.heap_setCell w1 ⟨o, 0, none⟩ v' j hne).trans h1
  · rw [hb.cell] at hu
    cases hu
    rcases hor with e1 | e1
    · exact .inl ⟨v, hv.cell, by rw [← e1]; exact hj⟩
    · rw [e1] at hj
      cases hj
      refine .inr ⟨by simp, ?_⟩
      rw [← hsz]
      exact (World.ownsRow.lt hown' _ e1).2
abbrev KpB (o b : Nat) (W W' : World) : Prop := KpU o W W' ∧ KpS b W W'
theorem OwnIn.below {o : Nat} {W W' : World} (hi : OwnIn o W) (h : Below W.heap.size W W') (ho : o < W.heap.size) : OwnIn o W' := (KpU.of_below h ho).ownIn hi
set_option maxHeartbeats 1600000
set_option maxRecDepth 100000
theorem uwalk_ (s : ByteArray) (w : World) : Calls Tryd.prog 76 #[.string s] w fun e w' => e = .returned (.func (.func 78) #[] #[.pointer (some ⟨w.heap.size, 0, none⟩)]) ∧ w' = w.alloc (.cells #[.string s] 9) := by
  go_enter Tryd.func76, Tryd.ntmps76
  go_wp2
  go_ret
  exact ⟨rfl, rfl⟩
theorem uwalk1 (n : Nat) (hn : 1 ≤ n) (s : ByteArray) (hs : s.size ≤ 1099511627776) (l b o : Nat) (J Jx : List (Pos s) → World → Prop) (N : Nat) (hN : (units (L s)).length ≤ N) (B : Nat) (hJ : AbidesFrom B J)
    (hY : ∀ pre x W1, J pre W1 → pre.length < N → YieldAt Fence.wide (n - 1) Tryd.prog l (uposV s x) W1 fun e W' =>
      (e = .returned (.bool true) ∧ J (pre ++ [x]) W' ∧ KpB o b W1 W') ∨ (e = .returned (.bool false) ∧ Jx (pre ++ [x]) W'))
    (W : World) (hc : W.cell? ⟨b, 0, none⟩ = some (.string s)) (hT : Tabs W) (ho : o < W.heap.size) (hOI : OwnIn o W) (h0 : J [] W) :
    CallsIn Fence.wide n Tryd.prog 78 #[.func (.yield l) #[] #[], .pointer (some ⟨b, 0, none⟩)] W fun e W' => (∃ v, e = .returned v) ∧
      ((∃ xs, uposC s xs = units (L s) ∧ J xs W') ∨ (∃ pre, True ∧ Jx pre W')) := by
  have hl := L_len s
  refine callsIn_of_wp Tryd.func78 rfl trivial ?_ rfl
  simp only [Tryd.ntmps78, List.size_toArray, List.length_cons, List.length_nil, Nat.reduceAdd, Nat.reduceSub, Array.replicate_succ, Array.replicate_zero, List.push_toArray, List.append_toArray, List.nil_append, List.cons_append]
  gi_wp2
  gi_loopw [3] (fun v wr => ∃ (pre : List (Pos s)) (p : Nat), v = .int .i64 p ∧ p ≤ s.size ∧ Hid (Bd (L s) p) ∧ Hid (uposC s pre ++ units ((L s).drop p) = units (L s)) ∧ Hid (J pre wr) ∧ wr.cell? ⟨b, 0, none⟩ = some (.string s) ∧ Hid (Tabs wr) ∧ Hid (o < wr.heap.size) ∧ Hid (OwnIn o wr))
    (fun v _ => s.size - (intOf v).toNat)
  case atStart => exact ⟨[], 0, rfl, Nat.zero_le _, Lib.hid (bd_zero _), Lib.hid rfl, Lib.hid h0, hc, Lib.hid hT, Lib.hid ho, Lib.hid hOI⟩
  case round =>
    obtain ⟨pre, p, rfl, hp, HD, HC, HJ, hcw, HT, HO, HI⟩ := hrel
    have HY := Lib.hid hY
    have HAB := Lib.hid hJ
    clear hY hJ hT hc h0 hOI ho
    by_cases he : p = s.size
    · have hlt : decide ((p : Int) < (s.size : Int)) = false := decide_eq_false (by omega)
      have hend : uposC s pre = units (L s) := by
        have := HC.out
        rwa [units_end _ _ (by omega), List.append_nil] at this
      have HE := Lib.hid hend
      clear hend
      gi_wp2
      go_end0
      exact ⟨⟨_, rfl⟩, .inl ⟨pre, HE.out, HJ.out⟩⟩
    · have hps : p < s.size := by omega
      have hlt : decide ((p : Int) < (s.size : Int)) = true := decide_eq_true (by omega)
      have hple : (p : Int) ≤ (s.size : Int) := by omega
      obtain ⟨q, hq⟩ : ∃ q, p + sz ((L s).drop p) = q := ⟨_, rfl⟩
      have h1 := sz_pos _ (drop_ne (L s) p (by omega))
      have h2 := bd_lt (L s) p (by omega)
      have HN := Lib.hid (first (s.extract p s.size) wr HT.out)
      rw [L_drop] at HN
      have hnext : uposC s (pre ++ [⟨p, HD.out, hps⟩]) ++ units ((L s).drop q) = units (L s) := by
        have := HC.out
        rw [units_at _ _ (by omega), hq] at this
        rw [← this]
        simp [uposC]
      have hlen : pre.length < N := by
        have := congrArg List.length hnext
        simp [uposC] at this
        omega
      have HQ : Hid (Bd (L s) q) := Lib.hid (by rw [← hq]; exact bd_next _ _ HD.out (by omega))
      have HNX := Lib.hid hnext
      clear hnext
      have hyx : ∀ W1 : World, uposV s ⟨p, HD.out, hps⟩ = #[.int .i64 p, .agg #[.int .i32 (uni ((L s).drop p)).1, .int .i64 (uni ((L s).drop p)).2]] := fun _ => rfl
      have hsz : sz ((L s).drop p) = (uni ((L s).drop p)).2 := rfl
      rw [hsz] at hq h1 h2
      generalize huu : uni ((L s).drop p) = uu at HN hyx hq h1 h2
      obtain ⟨c, m⟩ := uu
      dsimp only at HN hyx hq h1 h2
      have hm4 : m ≤ s.size := by omega
      gi_wp2_with (first
        | (refine ⟨trivial, ?_⟩; gi_at_call 57; refine (callsIn_wide.2 HN.out).mono ?_; rintro e w1 ⟨rfl, hb1⟩; have hcw1 := (KpS.of_below (b := b) hb1).cell hcw; have HB1 := Lib.hid (hb1.alloc hb1.size (.cells #[.int .i32 c, .int .i64 m] 86)); have HK1 := Lib.hid (Blk.new w1 86 #[.int .i32 c, .int .i64 m]); have HUl := Lib.hid (show o < w1.heap.size from Nat.lt_of_lt_of_le HO.out hb1.size); have HI1 := Lib.hid (HI.out.below hb1 HO.out); obtain ⟨fn, tmps, assign, body, hy, hR⟩ := HY.out pre ⟨p, HD.out, hps⟩ (w1.alloc (.cells #[.int .i32 c, .int .i64 m] 86)) (abides HAB.out HJ.out HB1.out) hlen; rw [hyx w1] at hy; clear hb1))
      refine hR.mono ?_
      rintro e W3 (⟨rfl, hJ3, hk3⟩ | ⟨rfl, hJx3⟩)
      · have HJ3 := Lib.hid hJ3
        have hcw3 := hk3.2.cell (v := .string s) (by rw [World.cell?_alloc_lt w1 _ _ (World.block_lt_of_cell? w1 ⟨b, 0, none⟩ hcw1)]; exact hcw1)
        have HT3 := Lib.hid (hk3.2.tabs (HT.out.below HB1.out))
        have hOl := HUl.out
        have hce : (w1.alloc (.cells #[.int .i32 c, .int .i64 m] 86)).cell? ⟨o, 0, none⟩ = w1.cell? ⟨o, 0, none⟩ := World.cell?_alloc_lt w1 _ _ hOl
        have HI3 := Lib.hid (hk3.1.ownIn (HI1.out.below (below_one _ _) hOl))
        have hO3 : o < W3.heap.size := Nat.lt_of_lt_of_le (by simp; omega) hk3.1.size
        have HO3 := Lib.hid hO3
        have hu3 := (hk3.1.blk HK1.out (by omega) (fun v hv e => by rw [hce] at hv; have := HI1.out v _ hv e; omega)).cell 1
        simp only [List.getElem?_toArray, List.getElem?_cons_zero, List.getElem?_cons_succ] at hu3
        clear hJ3 hk3 hce hO3
        gi_wp2
        go_roundw
        case rel => exact ⟨pre ++ [⟨p, HD.out, hps⟩], q, by rw [← hq]; simp, by omega, HQ, HNX, HJ3, hcw3, HT3, HO3, HI3⟩
        case measure => simp [intOf]; omega
      · gi_wp2
        refine bodyPost_ret (results_none rfl _ _ _) rfl ?_
        exact ⟨⟨_, rfl⟩, .inr ⟨_, trivial, hJx3⟩⟩
theorem uwalk_stops (n : Nat) (hn : 1 ≤ n) (s : ByteArray) (hs : s.size ≤ 1099511627776) (b o : Nat) (w : World) (hc : w.cell? ⟨b, 0, none⟩ = some (.string s)) (hT : Tabs w) (ho : o < w.heap.size) (hi : OwnIn o w) (N : Nat) (hN : (units (L s)).length ≤ N) :
    SeqStopsK Fence.wide n Tryd.prog 78 #[.pointer (some ⟨b, 0, none⟩)] (uposV s) (KpB o b) (fun xs => uposC s xs = units (L s)) (fun _ => True) N w := fun l J Jx W hW hJ _ hY h0 =>
  uwalk1 n hn s hs l b o J Jx N hN _ hJ hY W ((KpS.of_below hW).cell hc) (hT.below hW) (Nat.lt_of_lt_of_le ho hW.size) (hi.below hW ho) h0
theorem Trydinfo_u : (Tryd.prog.info? 86).map (fun i => (i.zero, i.size, i.bytes)) = some (some (.agg #[.int .i32 0, .int .i64 0]), 2, 16) := by kernel_rfl
theorem units_ (s : ByteArray) (w : World) (hT : Tabs w) (hs : s.size ≤ 1099511627776) :
    Calls Tryd.prog 68 #[.string s] w fun e w' => ∃ v, e = .returned v ∧ w'.ownsRow w.heap.size 86 2 v (units (L s)).length ((units (L s)).flatMap ucells) ∧ Below w.heap.size w w' := by
  obtain ⟨i0, hi, hz0, hz1, hz2⟩ := info_parts Trydinfo_u
  have hcl := units_len (L s) _ 0 (Nat.le_refl _)
  rw [L_len] at hcl
  refine (callsIn_wide (n := 6)).1 ?_
  refine callsIn_of_wp_marks Tryd.func68 rfl trivial ?_ rfl
  simp only [Tryd.ntmps68, List.size_toArray, List.length_cons, List.length_nil, Nat.reduceAdd, Nat.reduceSub, Array.replicate_succ, Array.replicate_zero, List.push_toArray, List.append_toArray, List.nil_append, List.cons_append]
  gi_wp2_with (refine ⟨trivial, ?_⟩; gi_at_call 76; refine (callsIn_wide.2 (uwalk_ s _)).mono ?_; rintro e w' ⟨rfl, rfl⟩)
  have bO := Boxed.new w 112 (.slice none 0 0)
  have bS := Blk.new (w.alloc (.cells #[.slice none 0 0] 112)) 9 #[.string s]
  rw [World.size_alloc] at bS
  have hB0 : Below w.heap.size w ((w.alloc (.cells #[.slice none 0 0] 112)).alloc (.cells #[.string s] 9)) := ((Below.refl _ w).alloc (Nat.le_refl _) _).alloc (by simp) _
  have hTT := hT.below hB0
  obtain ⟨W0, hW0⟩ : ∃ W0, (w.alloc (.cells #[.slice none 0 0] 112)).alloc (.cells #[.string s] 9) = W0 := ⟨_, rfl⟩
  have hsz : W0.heap.size = w.heap.size + 2 := by rw [← hW0]; simp
  have bO0 : Boxed W0 w.heap.size 112 (.slice none 0 0) := by rw [← hW0]; exact bO.alloc _
  rw [hW0] at bS hB0 hTT ⊢
  have hW := hT.two
  have hOI : OwnIn w.heap.size W0 := by
    intro v k hv hk
    rw [bO0.cell] at hv
    cases hv
    cases hk
  refine wpIn_rangeFunc_ownH rfl (by omega) (gf := 78) (lb := #[.pointer (some ⟨w.heap.size + 1, 0, none⟩)]) rfl trivial (enters_of Tryd.func78 (by kernel_rfl) rfl)
    (uwalk_stops (6 - 1) (by omega) s hs (w.heap.size + 1) w.heap.size W0 (bS.cell 0) hTT (by omega) hOI s.size hcl) (fun h k => ⟨h.1.t k.1, h.2.t k.2⟩) (fun W l o o' hl h hc _ => ⟨KpU.b_ (n := W0.heap.size) (by omega) W l o o' hl h hc, KpS.b_ (w := W0) (by omega) W l o o' hl h⟩) (Below.refl _ _) (fun _ => rfl)
    (fun pre W => ((∃ v, Boxed W w.heap.size 112 v ∧ W.ownsRow w.heap.size 86 2 v (uposC s pre).length ((uposC s pre).flatMap ucells) ∧ True) ∧ Blk W (w.heap.size + 1) 9 #[.string s]) ∧ Below w.heap.size w W)
    (fun _ _ _ => False)
    (OwnFrom.and (OwnFrom.and (Own.from (holdsRow_own w.heap.size w.heap.size 112 86 2 (fun pre => (uposC s pre).length) (fun pre => (uposC s pre).flatMap ucells) (fun pre v => True)) _) (Own.from (blk_own _ _ _) _)) (ownFrom_below (Nat.le_refl _) (by omega)))
    (fun _ _ _ _ _ hs _ _ => hs)
    ⟨⟨⟨_, bO0, World.ownsRow_nil _ _ _ _, trivial⟩, bS⟩, hB0⟩
    (fun x a' W => ∃ Bx, Blk W Bx 86 (ucells (uni ((L s).drop x.1))).toArray ∧ a' = { tmps := #[.string s, undef, .slice none 0 0, .pointer (some ⟨w.heap.size, 0, none⟩), undef, .pointer (some ⟨Bx, 0, none⟩), .string s, .func (.func 78) #[] #[.pointer (some ⟨w.heap.size + 1, 0, none⟩)], .int .i64 x.1, .agg #[.int .i32 (chr ((L s).drop x.1)), .int .i64 (sz ((L s).drop x.1))], undef, undef, undef, undef, undef], defers := [] })
    (fun x a' _ X Y row hs hg hr => by
      obtain ⟨Bx, h2, h3⟩ := hs
      refine ⟨Bx, ?_, h3⟩
      exact (hg.block Bx h2.lt (fun e => by obtain ⟨o, ho, hc⟩ := (hr Bx e.symm).2; rw [h2] at ho; cases ho; cases hc)).trans h2)
    ?assign ?body ?done ?stop
  case assign =>
    rintro l pre x W K ⟨⟨⟨v, hv, hrow, _⟩, hbS⟩, hB⟩ hK
    dsimp only [uposV]
    gi_wp2
    exact hK _ _ ((KeepsOthers.alloc _ _).from _) ⟨KpU.of_below (below_one _ _) hv.lt, KpS.of_below (below_one _ _)⟩ ⟨⟨⟨v, hv.alloc _, hrow.alloc _, trivial⟩, hbS.alloc _⟩, hB.alloc hB.size _⟩ ⟨W.heap.size, Blk.new W _ _, rfl⟩
  case body =>
    rintro l pre x a' W hl ⟨r, hr⟩ ⟨⟨⟨v, hv, hrow, _⟩, hbS⟩, hB⟩ ⟨Bx, bX, rfl⟩ hlt
    have hc := hv.cell
    have hpl : (uposC s pre).length = pre.length := by simp [uposC]
    obtain ⟨b0, b1, -⟩ := Blk.two (v0 := .int .i32 (uni ((L s).drop x.1)).1) (v1 := .int .i64 (uni ((L s).drop x.1)).2) bX
    have hnews := new_cells W (ucells (uni ((L s).drop x.1))) 86
    have hone : ∀ u ∈ ucells (uni ((L s).drop x.1)), u.oneCell' = true := by intro u hu; simp [ucells] at hu; rcases hu with rfl | rfl <;> rfl
    have m1 : (uposC s pre).length + 1 ≤ maxLen := by unfold maxLen; omega
    have m2 : ((uposC s pre).length + 1) * 16 ≤ 140737488355328 := by omega
    have m3 := hB.size
    clear hpl
    gi_wp2_with (gi_at_builtin; refine wpListIn_append_own_at _ rfl _ _ 112 rfl w.heap.size 86 i0 _ 2 16 Tryd.underlying112 hi hz0 hz1 hz2 rfl (by decide) _ _ _ rfl (hrow.alloc _) ⟨W.heap.size, 0, none⟩ 1 1 (ucells (uni ((L s).drop x.1))) rfl rfl hnews hone m1 m2 (by simp; omega) ?_; intro v' w1 hown' hgrow _ hor; have hor := Lib.hid hor; obtain ⟨g', cap', rfl⟩ := ownsRow_succ hown'; obtain ⟨hv1, hv2, hr2, hk2, hb2⟩ := hv.appended (by decide) hrow hB.size (Nat.le_refl _) hown' hgrow; have hc1 := hv1.cell; have hf1 := hv1.frozen; have hS1 := kept_of_grown hgrow hrow hbS (by decide))
    exact ⟨hk2.from _, ⟨KpU.step hv (by decide) hrow hown' hgrow hor.out hv2, kps_of hb2 hW.1 hW.2 hbS (hS1.far (by show w.heap.size + 1 ≠ w.heap.size; omega) _)⟩, ⟨⟨_, hv2, by rw [uposC_snoc]; simpa using hr2, trivial⟩, hS1.far (by show w.heap.size + 1 ≠ w.heap.size; omega) _⟩, hB.trans hb2⟩
  case done =>
    rintro D ys W hD hys ⟨⟨⟨v, hv, hrow, _⟩, hbS⟩, hB⟩ hK
    have hc := hv.cell
    gi_wp2
    refine ⟨by simp, .inl ⟨_, _, rfl, run_takeDeferred hK, ?_⟩⟩
    exact ⟨_, results_tmp rfl _ _ _, v, rfl, by rw [← hys]; exact ownsRow_putObj hrow _ hK rfl, hB.trans (belowK_b (w := w) (Nat.le_refl _) W D _ _ (by omega) hK rfl rfl)⟩
  case stop =>
    rintro D c pre W _ _ h _
    exact h.elim
end U
end Go.Proofs.YtceomobdolkfgaaDoor
/- paint.takes: how many cells a text takes. -/
set_option linter.unusedVariables false
namespace Go.Proofs.YtceomobdolkfgaaDoor
open Go.RowKit Go.Proofs.YtceomobdolkfgaaDoorW.PrintWords Go.Proofs.YtceomobdolkfgaaDoor.Sep
namespace U
theorem own_form {w : World} {b e s n : Nat} {v : Value} {xs : List Value} (h : w.ownsRow b e s v n xs) : ∃ A c, v = .slice A n c ∧ n ≤ c ∧ (0 < n → ∃ g, A = some ⟨g, 0, none⟩ ∧ g < w.heap.size ∧ b ≤ g ∧ ∀ j u, xs[j]? = some u → w.cell? ⟨g, j, none⟩ = some u) := by
  rcases h.2 with ⟨rfl, h0⟩ | ⟨g, cap, cur, rfl, hb, hh, hl, hmx, hsz, ht⟩
  · exact ⟨none, 0, by rw [h0], by omega, fun h => by omega⟩
  · refine ⟨_, _, rfl, hl, fun _ => ⟨g, rfl, (Array.getElem?_eq_some_iff.1 hh).1, hb, fun j u hj => ?_⟩⟩
    rw [cell_of_row w g j cur e (0, 0) hh]
    have hjl : j < n * s := by
      have := (List.getElem?_eq_some_iff.1 hj).1
      rw [h.1] at this
      exact this
    have hh2 : (cur.toList.take (n * s))[j]? = some u := by rw [ht]; exact hj
    rw [List.getElem?_take, if_pos hjl] at hh2
    simpa using hh2
theorem own_keep {w w' : World} {b e s n : Nat} {v : Value} {xs : List Value} (h : w.ownsRow b e s v n xs) (hb : Below w.heap.size w w') : w'.ownsRow b e s v n xs :=
  own_move h (fun k hk => hb.block k (World.ownsRow.lt h k hk).2)
theorem clus_one (l : Bs) : (clus 0 l).length = 1 ↔ (l ≠ [] ∧ clen l = l.length) := by
  by_cases h : l = []
  · subst h; simp [clus_nil]
  · rw [clus_step 0 l h]
    have hle := clen_le l
    constructor
    · intro e
      refine ⟨h, ?_⟩
      simp only [List.length_cons] at e
      by_cases hd : l.drop (clen l) = []
      · have := congrArg List.length hd
        rw [List.length_drop, List.length_nil] at this
        omega
      · rw [clus_step _ _ hd] at e
        simp at e
    · rintro ⟨_, e⟩
      have hd : l.drop (clen l) = [] := List.drop_eq_nil_of_le (by omega)
      rw [hd, clus_nil]
      rfl
theorem clus_head (l : Bs) (h : l ≠ []) : (clus 0 l).flatMap clcells = [.int .i64 0, .int .i64 (0 + clen l : Nat), .int .i64 (mcls l), .int .i64 (mcells l)] ++ (clus (0 + clen l) (l.drop (clen l))).flatMap clcells := by
  rw [clus_step 0 l h]; rfl
theorem ucells_at (us : List (Int × Nat)) : ∀ i, i < us.length → (us.flatMap ucells)[i * 2]? = some (.int .i32 (us.getD i (0, 0)).1) ∧ (us.flatMap ucells)[i * 2 + 1]? = some (.int .i64 (us.getD i (0, 0)).2) := by
  induction us with
  | nil => intro i h; simp at h
  | cons a l ih =>
    intro i h
    cases i with
    | zero => exact ⟨rfl, rfl⟩
    | succ i =>
      have := ih i (by simpa using h)
      have e1 : (i + 1) * 2 = (i * 2) + 1 + 1 := by omega
      rw [e1]
      simpa [ucells] using this
set_option maxHeartbeats 1600000
set_option maxRecDepth 100000
theorem takes_ (s : ByteArray) (w : World) (hT : Tabs w) (hs : s.size ≤ 1099511627776) :
    Calls Tryd.prog 50 #[.string s] w fun e w' => e = .returned (.int .i64 (takes (L s))) ∧ Below w.heap.size w w' := by
  obtain ⟨r, hr⟩ : ∃ r, takes (L s) = r := ⟨_, rfl⟩
  rw [hr]
  have HL := Lib.hid (list_ s w hT hs)
  have HU := Lib.hid (fun w' (h : Below w.heap.size w w') => units_ s w' (hT.below h) hs)
  have hun := units_len (L s) _ 0 (Nat.le_refl _)
  have hcn := clus_len (L s) _ 0 (Nat.le_refl _)
  rw [L_len] at hun hcn
  rw [List.drop_zero] at hun hcn
  by_cases h1 : (clus 0 (L s)).length = 1
  · have hh := clus_one (L s) |>.1 h1
    have HF : Hid ((clus 0 (L s)).flatMap clcells = [.int .i64 0, .int .i64 (0 + clen (L s) : Nat), .int .i64 (mcls (L s)), .int .i64 (mcells (L s))] ++ (clus (0 + clen (L s)) ((L s).drop (clen (L s)))).flatMap clcells) := Lib.hid (clus_head (L s) hh.1)
    have HR : Hid (takes (L s) = r) := Lib.hid hr
    rw [h1] at HL
    clear hT hr hcn
    obtain ⟨us, hus⟩ : ∃ us, units (L s) = us := ⟨_, rfl⟩
    rw [hus] at HU hun
    have hmc : cls (chr (L s)) = cls (chr (L s)) := rfl
    go_enter Tryd.func50, Tryd.ntmps50
    go_wp2_with (first
      | (go_at_call 67; refine HL.out.mono ?_; rintro e w1 ⟨v, rfl, hown, hb⟩; obtain ⟨A1, c1, rfl, hc1, hA1⟩ := own_form hown; obtain ⟨g, rfl, hg, hgb, hcl⟩ := hA1 (by omega); have hk := hcl 2 (.int .i64 (mcls (L s))) (by rw [HF.out]; rfl); have HB1 := Lib.hid hb; clear hown hcl hb hA1)
      | (go_at_call 68; refine (HU.out _ HB1.out).mono ?_; rintro e w2 ⟨v, rfl, hown, hb⟩; obtain ⟨A2, c2, rfl, hc2, hA2⟩ := own_form hown; have hk2 := (hb.cell (p := ⟨g, 2, none⟩) hg).trans hk; have HA2 := Lib.hid hA2; have HB2 := Lib.hid (below_then HB1.out hb); have hg2 : g < w2.heap.size := Nat.lt_of_lt_of_le hg hb.size; clear hown hb hA2))
    go_loopg [14] us.length (fun k v w' => ∃ i : Nat, v = .int .i64 i ∧ i + k = us.length ∧ Hid (∀ j, j < i → 0 ≤ (us.getD j (0, 0)).1) ∧ Hid (Below w2.heap.size w2 w'))
    case atStart => exact ⟨0, rfl, by omega, Lib.hid (fun j h => by omega), Lib.hid (Below.refl _ _)⟩
    case round =>
      obtain ⟨i, rfl, hi, HG, HW⟩ := hrel
      cases gk with
      | zero =>
        have hlt : decide ((i : Int) < (us.length : Int)) = false := decide_eq_false (by omega)
        have hkr := (HW.out.cell (p := ⟨g, 2, none⟩) hg2).trans hk2
        have hag : allGood (L s) := by
          intro x hx
          rw [hus] at hx
          obtain ⟨j, hj, rfl⟩ := List.mem_iff_getElem.1 hx
          have := HG.out j (by omega)
          rwa [List.getD_eq_getElem?_getD, List.getElem?_eq_getElem hj] at this
        have hr2 : (if mcls (L s) = 0 then (1 : Int) else if mcls (L s) = 4 then 2 else 0) = r := by
          have e : takes (L s) = (if mcls (L s) = 0 then (1 : Int) else if mcls (L s) = 4 then 2 else 0) := by unfold takes; rw [if_pos ⟨hh.1, hh.2, hag⟩]
          exact e.symm.trans HR.out
        generalize mcls (L s) = kc at hkr hr2
        have HBB := Lib.hid (below_then HB2.out HW.out)
        by_cases k0 : kc = 0
        · subst k0
          have hr3 : 1 = r := hr2
          subst hr3
          go_wp2
          go_ret
          exact ⟨rfl, HBB.out⟩
        · rw [if_neg k0] at hr2
          by_cases k4 : kc = 4
          · subst k4
            have hr3 : 2 = r := hr2
            subst hr3
            go_wp2
            go_ret
            exact ⟨rfl, HBB.out⟩
          · rw [if_neg k4] at hr2
            subst hr2
            have b0 : (kc == 0) = false := by simpa using k0
            have b4 : (kc == 4) = false := by simpa using k4
            go_wp2
            go_ret
            exact ⟨rfl, HBB.out⟩
      | succ k =>
        have hil : i < us.length := by omega
        have hlt : decide ((i : Int) < (us.length : Int)) = true := decide_eq_true (by omega)
        have hin : (i : Int) < (us.length : Int) := by omega
        obtain ⟨g2, rfl, hg2l, hg2b, hcl2⟩ := HA2.out (by omega)
        obtain ⟨e0, e1⟩ := ucells_at us i hil
        have q0 := (HW.out.cell (p := ⟨g2, i * 2, none⟩) hg2l).trans (hcl2 _ _ e0)
        have q1 := (HW.out.cell (p := ⟨g2, i * 2 + 1, none⟩) hg2l).trans (hcl2 _ _ e1)
        clear hcl2 e0 e1
        obtain ⟨u, hu⟩ : ∃ u, us.getD i (0, 0) = u := ⟨_, rfl⟩
        rw [hu] at q0 q1
        obtain ⟨c, m⟩ := u
        dsimp only at q0 q1
        by_cases hneg : c < 0
        · have hd : decide (c < 0) = true := decide_eq_true hneg
          have hr2 : (0 : Int) = r := by
            rw [← HR.out]; unfold takes
            rw [if_neg]
            rintro ⟨_, _, hag⟩
            have := hag (us.getD i (0, 0)) (by rw [hus, List.getD_eq_getElem?_getD, List.getElem?_eq_getElem hil]; exact List.getElem_mem hil)
            rw [hu] at this
            dsimp only at this
            omega
          subst hr2
          have HBB := Lib.hid (below_then HB2.out HW.out)
          go_wp2
          go_ret
          exact ⟨rfl, HBB.out.alloc HBB.out.size _⟩
        · have hd : decide (c < 0) = false := decide_eq_false hneg
          have HG2 : Hid (∀ j, j < i + 1 → 0 ≤ (us.getD j (0, 0)).1) := Lib.hid (fun j hj => by
            rcases Nat.lt_or_ge j i with hlt | hge
            · exact HG.out j hlt
            · obtain rfl : j = i := by omega
              rw [hu]; dsimp only; omega)
          clear hu
          go_wp2
          go_roundg k
          case rel => exact ⟨i + 1, by simp, by omega, HG2, Lib.hid (HW.out.alloc HW.out.size _)⟩
          case measure => omega
  · have hr2 : (0 : Int) = r := by
      rw [← hr]; unfold takes
      rw [if_neg]
      rintro ⟨h2, h3, _⟩
      exact h1 ((clus_one _).2 ⟨h2, h3⟩)
    subst hr2
    generalize (clus 0 (L s)).length = n at HL h1 hcn
    have hb : ((n : Int) == 1) = false := by rw [beq_eq_false_iff_ne]; omega
    clear hT hr
    go_enter Tryd.func50, Tryd.ntmps50
    go_wp2_with (go_at_call 67; refine HL.out.mono ?_; rintro e w1 ⟨v, rfl, hown, hb⟩; obtain ⟨A1, c1, rfl, hc1, -⟩ := own_form hown; have HB1 := Lib.hid hb; clear hown hb)
    go_ret
    exact ⟨rfl, HB1.out⟩
end U
end Go.Proofs.YtceomobdolkfgaaDoor
/- cluster.Drawn: what is drawn for the clusters of a text. -/
set_option linter.unusedVariables false
namespace Go.Proofs.YtceomobdolkfgaaDoor
open Go.RowKit Go.Shelf Go.Proofs.YtceomobdolkfgaaDoorW.PrintWords Go.Proofs.YtceomobdolkfgaaDoor.Sep
attribute [local go_sem] Oper.semAt_some
namespace U
def repl : Bs := [239, 191, 189]
/-- What is drawn for one cluster of the class k. -/
def drawn1 (l : Bs) (k : Int) : Bs :=
  if k = 1 then []
  else if k = 2 then (if (l.getD 0 0).toNat = 127 then [94, 63] else if (l.getD 0 0).toNat < 128 then [94, UInt8.ofNat ((l.getD 0 0).toNat + 64)] else repl)
  else if k = 3 then 32 :: l
  else if k = 5 then repl ++ l.drop 1
  else l
def cut (t : Bs) (p q : Nat) : Bs := (t.drop p).take (q - p)
def drawnC (t : Bs) (cs : List Cl) : Bs := cs.flatMap fun c => drawn1 (cut t c.at_ c.to_) c.cls
def drawn (t : Bs) : Bs := drawnC t (clus 0 t)
theorem drawn1_len (l : Bs) (k : Int) : (drawn1 l k).length ≤ l.length + 3 := by
  unfold drawn1 repl
  repeat' split
  all_goals simp
  all_goals omega
theorem drawnC_len (t : Bs) (cs : List Cl) : (drawnC t cs).length ≤ cs.length * (t.length + 3) := by
  induction cs with
  | nil => simp [drawnC]
  | cons a l ih =>
    have h1 := drawn1_len (cut t a.at_ a.to_) a.cls
    have h2 : (cut t a.at_ a.to_).length ≤ t.length := by unfold cut; rw [List.length_take, List.length_drop]; omega
    unfold drawnC at ih ⊢
    rw [List.flatMap_cons, List.length_append, List.length_cons, Nat.add_mul]
    omega
theorem builder_own {β : Type} (T e : TypeId) (B b : Nat) (f : β → List Value) : Own (fun s W => Lib.IsBuilderF T e B b (f s) W) := fun s X Y row hs hg hr => by
  have key : ∀ p, Lib.BuilderAtF T e B b p (f s) X → Lib.BuilderAtF T e B b p (f s) Y := by
    rintro p ⟨hB, v, hb, hown, hne⟩
    have hb' : Y.heap[b]? = X.heap[b]? := hg.block b (Array.getElem?_eq_some_iff.1 hb).1 (fun e' => by
      obtain ⟨o, ho, hc⟩ := hr b e'.symm
      rw [hb] at ho
      cases ho
      cases hc)
    refine ⟨hB, v, hb'.trans hb, ?_, hne⟩
    rcases hv : v.ownBlock with _ | g
    · exact hown.kept hg (.inl hv)
    · refine hown.kept hg (.inr (fun e' => ?_))
      obtain ⟨c, fz, hc⟩ := Lib.ownsRowF_kind hown g hv
      obtain ⟨o, ho, hc'⟩ := hr g (by rw [← e', hv])
      rw [hc] at ho
      cases ho
      cases hc'
  exact hs.imp (key _) (key _)
theorem builder_nil (T e : TypeId) (B b : Nat) (w : World) (hB : B ≤ b) (hb : Blk w b T #[.pointer none, .slice none 0 0]) : Lib.IsBuilderF T e B b [] w :=
  .inl ⟨hB, .slice none 0 0, hb, World.ownsRowF_nil _ _ _ _, by simp [Value.ownBlock]⟩
theorem builder_blk {T e : TypeId} {B b : Nat} {bs : List Value} {w : World} (h : Lib.IsBuilderF T e B b bs w) : ∃ cs, w.heap[b]? = some (.cells cs T (0, 0)) := by
  rcases h with ⟨_, v, hb, _⟩ | ⟨_, v, hb, _⟩ <;> exact ⟨_, hb⟩
/-- What a write into the builder keeps. -/
theorem oth_blk {b : Nat} {w w' : World} (h : Lib.OthersKept 5 (some b) w w') {k : Nat} {t : TypeId} {cs : Array Value} (K : Blk w k t cs) (hb : k ≠ b) (ht : t ≠ 5) : Blk w' k t cs :=
  h k _ K (fun e => hb (by injection e)) (fun c fz e => by injection e with _ e; exact ht e)
theorem oth_from {b n : Nat} {w w' : World} (h : Lib.OthersKept 5 (some b) w w') (hs : w.heap.size ≤ w'.heap.size) {T : TypeId} {cs : Array Value} (hb : w.heap[b]? = some (.cells cs T (0, 0))) : KeepsFrom n w w' :=
  ⟨hs, fun k o _ hk ho => h k o hk (fun e => by injection e with e; subst e; rw [hb] at hk; cases hk; cases ho) (fun c fz e => by subst e; cases ho)⟩
theorem encode_small : ∀ k : Fin 32, Utf8.encode (((k.val : Nat) : Int) + 64) = ⟨#[UInt8.ofNat (k.val + 64)]⟩ := by decide
theorem mcls_range (l : Bs) : mcls l = 0 ∨ mcls l = 1 ∨ mcls l = 2 ∨ mcls l = 3 ∨ mcls l = 4 ∨ mcls l = 5 := by
  unfold mcls
  split
  · simp
  · exact cls_range _
theorem mcls_two (l : Bs) (hl : l ≠ []) (h : mcls l = 2) : (l.getD 0 0).toNat < 32 ∨ (l.getD 0 0).toNat = 127 ∨ 128 ≤ (l.getD 0 0).toNat := by
  unfold mcls at h
  split at h
  · simp at h
  · by_cases h1 : (l.getD 0 0).toNat < 128
    · have hu := uni_one l hl h1
      unfold chr at h
      rw [hu] at h
      dsimp only at h
      unfold cls at h
      split at h
      · simp at h
      · split at h
        · simp at h
        · split at h
          · omega
          · (repeat' split at h) <;> simp at h
    · omega
theorem drawnC_snoc (t : Bs) (cs : List Cl) (c : Cl) : drawnC t (cs ++ [c]) = drawnC t cs ++ drawn1 (cut t c.at_ c.to_) c.cls := by simp [drawnC]
theorem sL (s : ByteArray) : Lib.strCells s = Lib.byteCells (L s) := rfl
theorem L_app (a b : ByteArray) : L (a ++ b) = L a ++ L b := by unfold L; simp
theorem conv_str (x : UInt8) (h : x.toNat < 32) : Utf8.encode ((x.toNat : Int) + 64) = ⟨#[UInt8.ofNat (x.toNat + 64)]⟩ := encode_small ⟨x.toNat, h⟩
set_option maxHeartbeats 2000000
set_option maxRecDepth 100000
theorem drawn_ (s : ByteArray) (w : World) (hT : Tabs w) (hs : s.size ≤ 4194304) :
    Calls Tryd.prog 28 #[.string s] w fun e w' => e = .returned (.string ⟨(drawn (L s)).toArray⟩) ∧ Below w.heap.size w w' := by
  have hcl := clus_len (L s) _ 0 (Nat.le_refl _)
  rw [L_len] at hcl
  have hlS := L_len s
  refine (callsIn_wide (n := 6)).1 ?_
  refine callsIn_of_wp_marks Tryd.func28 rfl trivial ?_ rfl
  simp only [Tryd.ntmps28, List.size_toArray, List.length_cons, List.length_nil, Nat.reduceAdd, Nat.reduceSub, Array.replicate_succ, Array.replicate_zero, List.push_toArray, List.append_toArray, List.nil_append, List.cons_append]
  gi_wp2_with (refine ⟨trivial, ?_⟩; gi_at_call 10; refine (callsIn_wide.2 (walk_ s _)).mono ?_; rintro e w' ⟨rfl, rfl⟩)
  obtain ⟨W0, hW0⟩ : ∃ W0, ((w.alloc (.cells #[.string s] 9)).alloc (.cells #[.pointer none, .slice none 0 0] 54)).alloc (.cells #[.string s] 9) = W0 := ⟨_, rfl⟩
  have hsz : W0.heap.size = w.heap.size + 3 := by rw [← hW0]; simp
  have bS : Blk W0 w.heap.size 9 #[.string s] := by rw [← hW0]; exact ((Blk.new w 9 #[.string s]).alloc _).alloc _
  have bB : Blk W0 (w.heap.size + 1) 54 #[.pointer none, .slice none 0 0] := by
    have h := (Blk.new (w.alloc (.cells #[.string s] 9)) 54 #[.pointer none, .slice none 0 0]).alloc (.cells #[.string s] 9)
    rw [World.size_alloc] at h
    rw [← hW0]; exact h
  have bW : Blk W0 (w.heap.size + 1 + 1) 9 #[.string s] := by
    have h := Blk.new ((w.alloc (.cells #[.string s] 9)).alloc (.cells #[.pointer none, .slice none 0 0] 54)) 9 #[.string s]
    rw [World.size_alloc, World.size_alloc] at h
    rw [← hW0]; exact h
  have hB0 : Below w.heap.size w W0 := by rw [← hW0]; exact (((Below.refl _ w).alloc (Nat.le_refl _) _).alloc (by simp) _).alloc (by simp; omega) _
  have hTT := hT.below hB0
  have hI0 := builder_nil 54 5 w.heap.size (w.heap.size + 1) W0 (by omega) bB
  rw [hW0]
  have hW := hT.two
  refine wpIn_rangeFunc_ownH rfl (by omega) (gf := 25) (lb := #[.pointer (some ⟨w.heap.size + 1 + 1, 0, none⟩)]) rfl trivial (enters_of Tryd.func25 (by kernel_rfl) rfl)
    (walk_stops (6 - 1) (by omega) s (by omega) (w.heap.size + 1 + 1) W0 (bW.cell 0) hTT s.size hcl) KpS.t (fun W l o o' hl h _ _ => KpS.b_ (by omega) W l o o' hl h) (Below.refl _ _) (fun _ => rfl)
    (fun pre W => ((Lib.IsBuilderF 54 5 w.heap.size (w.heap.size + 1) (Lib.byteCells (drawnC (L s) (posC s pre))) W ∧ Blk W w.heap.size 9 #[.string s]) ∧ Blk W (w.heap.size + 1 + 1) 9 #[.string s]) ∧ Below w.heap.size w W)
    (fun _ _ _ => False)
    (OwnFrom.and (OwnFrom.and (OwnFrom.and (Own.from (builder_own _ _ _ _ (fun pre => Lib.byteCells (drawnC (L s) (posC s pre)))) _) (Own.from (blk_own _ _ _) _)) (Own.from (blk_own _ _ _) _)) (ownFrom_below (Nat.le_refl _) (by omega)))
    (fun _ _ _ _ _ hs _ _ => hs)
    ⟨⟨⟨hI0, bS⟩, bW⟩, hB0⟩
    (fun x a' W => ∃ Bx, Blk W Bx 48 (clcells (clAt (L s) x.1)).toArray ∧ a' = { tmps := #[.string s, .pointer (some ⟨w.heap.size, 0, none⟩), .string ⟨#[]⟩, .pointer (some ⟨w.heap.size + 1, 0, none⟩), .pointer (some ⟨Bx, 0, none⟩), undef, undef, .string s, .func (.func 25) #[] #[.pointer (some ⟨w.heap.size + 1 + 1, 0, none⟩)], .agg (clv x.1 (x.1 + clen ((L s).drop x.1) : Nat) (mcls ((L s).drop x.1)) (mcells ((L s).drop x.1))), undef, undef, undef, undef, undef, undef, undef, undef, undef, undef, undef, undef, undef, undef, undef, undef, undef, undef, undef, undef, undef, undef, undef, undef, undef, undef, undef, undef, undef, undef, undef, undef, undef, undef, undef, undef, undef, undef, undef, undef, undef, undef], defers := [] })
    (fun x a' _ X Y row hs hg hr => by
      obtain ⟨Bx, h2, h3⟩ := hs
      refine ⟨Bx, ?_, h3⟩
      exact (hg.block Bx h2.lt (fun e => by obtain ⟨o, ho, hc⟩ := (hr Bx e.symm).2; rw [h2] at ho; cases ho; cases hc)).trans h2)
    ?assign ?body ?done ?stop
  case assign =>
    rintro l pre x W K ⟨⟨⟨hI, hbS⟩, hbW⟩, hB⟩ hK
    dsimp only [posV, clv]
    gi_wp2
    exact hK _ _ ((KeepsOthers.alloc _ _).from _) (KpS.of_below (below_one _ _)) ⟨⟨⟨hI.alloc _, hbS.alloc _⟩, hbW.alloc _⟩, hB.alloc hB.size _⟩ ⟨W.heap.size, Blk.new W _ _, rfl⟩
  case body =>
    rintro l pre x a' W hl ⟨r, hr⟩ ⟨⟨⟨hI, hbS⟩, hbW⟩, hB⟩ ⟨Bx, bX, rfl⟩ hlt
    obtain ⟨p, hbd, hps⟩ := x
    have hps' : p < (L s).length := by omega
    obtain ⟨q, hq⟩ : ∃ q, p + clen ((L s).drop p) = q := ⟨_, rfl⟩
    have hin := clen_in (L s) p hps'
    rw [hq] at hin
    obtain ⟨k, hk⟩ : ∃ k, mcls ((L s).drop p) = k := ⟨_, rfl⟩
    obtain ⟨b0, b1, b2, b3, -⟩ := Blk.four (v0 := .int .i64 p) (v1 := .int .i64 ((p + clen ((L s).drop p) : Nat) : Int)) (v2 := .int .i64 (mcls ((L s).drop p))) (v3 := .int .i64 (mcells ((L s).drop p))) bX
    rw [hq] at b1
    rw [hk] at b2
    have hcS := hbS.cell 0
    simp only [List.getElem?_toArray, List.getElem?_cons_zero] at hcS
    have hpq : (p : Int) ≤ (q : Int) := by omega
    have hqs : (q : Int) ≤ (s.size : Int) := by omega
    obtain ⟨by_, hby⟩ : ∃ y, s.extract p q = y := ⟨_, rfl⟩
    have hLby : L by_ = cut (L s) p q := by rw [← hby, L_take]; rfl
    have hbsz : by_.size = q - p := by rw [← L_len, hLby]; unfold cut; rw [List.length_take, List.length_drop]; omega
    have hdl := drawnC_len (L s) (posC s pre)
    have hpl : (posC s pre).length = pre.length := by simp [posC]
    have hbound : pre.length * ((L s).length + 3) ≤ 4194304 * 4194307 := Nat.mul_le_mul (by omega) (by omega)
    rw [hpl] at hdl
    have hnext : drawnC (L s) (posC s (pre ++ [⟨p, hbd, hps⟩])) = drawnC (L s) (posC s pre) ++ drawn1 (L by_) k := by
      rw [posC_snoc, drawnC_snoc]
      show _ ++ drawn1 (cut (L s) p (p + clen ((L s).drop p))) (mcls ((L s).drop p)) = _
      rw [hq, hk, hLby]
    have HNX := Lib.hid hnext
    have hBw := hB.size
    have HI := Lib.hid hI
    have HBL := Lib.hid (builder_blk hI)
    have HB := Lib.hid hB
    have HbW := Lib.hid hbW
    have HbS := Lib.hid hbS
    have hbl : (Lib.byteCells (drawnC (L s) (posC s pre))).length ≤ 4194304 * 4194307 := by rw [Lib.byteCells_length]; omega
    have h2 : k = 2 → (L by_).getD 0 0 = ((L s).drop p).getD 0 0 := fun _ => by rw [hLby]; exact getD_take _ _ _ (by omega)
    have hctl : k = 2 → ((L by_).getD 0 0).toNat < 32 ∨ ((L by_).getD 0 0).toNat = 127 ∨ 128 ≤ ((L by_).getD 0 0).toNat := fun e => by rw [h2 e]; exact mcls_two _ (drop_ne _ _ hps') (hk.trans e)
    -- what is left behind a write
    have fin : ∀ (str : ByteArray) (w2 : World), drawn1 (L by_) k = L str → Lib.BuilderAtF 54 5 w.heap.size (w.heap.size + 1) (.pointer (some ⟨w.heap.size + 1, 0, none⟩)) (Lib.byteCells (drawnC (L s) (posC s pre)) ++ Lib.strCells str) w2 → Below w.heap.size W w2 → Lib.OthersKept 5 (some (w.heap.size + 1)) W w2 →
        KeepsFrom W0.heap.size W w2 ∧ KpS (w.heap.size + 1 + 1) W w2 ∧ ((Lib.IsBuilderF 54 5 w.heap.size (w.heap.size + 1) (Lib.byteCells (drawnC (L s) (posC s (pre ++ [⟨p, hbd, hps⟩])))) w2 ∧ Blk w2 w.heap.size 9 #[.string s]) ∧ Blk w2 (w.heap.size + 1 + 1) 9 #[.string s]) ∧ Below w.heap.size w w2 := by
      intro str w2 hd hat hbel hoth
      obtain ⟨cs, hcs⟩ := HBL.out
      have k1 := oth_blk hoth HbW.out (by omega) (by decide)
      have k2 := oth_blk hoth HbS.out (by omega) (by decide)
      refine ⟨oth_from hoth hbel.size hcs, kps_of hbel hW.1 hW.2 HbW.out k1, ⟨⟨.inr ?_, k2⟩, k1⟩, HB.out.trans hbel⟩
      rw [HNX.out, hd, Lib.byteCells_append]
      exact hat
    have HFIN := Lib.hid fin
    clear fin hI hB hbS hbW hnext bX hdl hbound
    dsimp only [clv]
    rcases (by rw [← hk]; exact mcls_range _ : k = 0 ∨ k = 1 ∨ k = 2 ∨ k = 3 ∨ k = 4 ∨ k = 5) with rfl | rfl | rfl | rfl | rfl | rfl
    · gi_wp2_with (refine ⟨trivial, ?_⟩; gi_at_call 14; refine (CallsIn.inRound l (callsIn_wide.2 (Tryd.Builder_WriteString_k w.heap.size (w.heap.size + 1) _ _ _ HI.out (by omega) hBw))).mono ?_; rintro e w2 ⟨rfl, hat, hbel, hoth⟩; have HAT := Lib.hid hat; have HBE := Lib.hid hbel; have HOT := Lib.hid hoth; clear hat hbel hoth)
      exact HFIN.out _ _ rfl HAT.out HBE.out HOT.out
    · gi_wp2
      refine ⟨KeepsFrom.refl _ _, KpS.of_below (Below.refl _ _), ⟨⟨?_, HbS.out⟩, HbW.out⟩, HB.out⟩
      rw [HNX.out]
      have e0 : drawn1 (L by_) 1 = [] := rfl
      rw [e0, List.append_nil]
      exact HI.out
    · have hb0 : 0 < by_.size := by omega
      have hb0' : (0 : Int) < (by_.size : Int) := by omega
      obtain ⟨x0, hx0⟩ : ∃ x0, (L by_).getD 0 0 = x0 := ⟨_, rfl⟩
      have hs0 : by_[0]'hb0 = x0 := by rw [← hx0]; exact (getL by_ 0 hb0).symm
      have hc3 := hctl rfl
      rw [hx0] at hc3
      by_cases c127 : (x0.toNat : Int) = 127
      · have hd : drawn1 (L by_) 2 = L ⟨#[94, 63]⟩ := by
          unfold drawn1
          rw [if_neg (by decide), if_pos rfl, hx0, if_pos (by omega)]
          rfl
        have HD := Lib.hid hd
        clear hd hc3 hctl h2
        gi_wp2_with (refine ⟨trivial, ?_⟩; gi_at_call 14; refine (CallsIn.inRound l (callsIn_wide.2 (Tryd.Builder_WriteString_k w.heap.size (w.heap.size + 1) _ _ _ HI.out (by first | (show _ + 2 ≤ _; omega) | (show _ + 3 ≤ _; omega)) hBw))).mono ?_; rintro e w2 ⟨rfl, hat, hbel, hoth⟩; have HAT := Lib.hid hat; have HBE := Lib.hid hbel; have HOT := Lib.hid hoth; clear hat hbel hoth)
        exact HFIN.out _ _ HD.out HAT.out HBE.out HOT.out
      · have n127 : ((x0.toNat : Int) == 127) = false := by rw [beq_eq_false_iff_ne]; exact c127
        by_cases c128 : (x0.toNat : Int) < 128
        · have h32 : x0.toNat < 32 := by omega
          have hcv := conv_str x0 h32
          have hd : drawn1 (L by_) 2 = L (⟨#[94]⟩ ++ ⟨#[UInt8.ofNat (x0.toNat + 64)]⟩) := by
            unfold drawn1
            rw [if_neg (by decide), if_pos rfl, hx0, if_neg (by omega), if_pos (by omega), L_app]
            rfl
          have HD := Lib.hid hd
          have d128 : decide ((x0.toNat : Int) < 128) = true := decide_eq_true c128
          have hx64 : (x0.toNat : Int) < 32 := by omega
          clear hd hc3 hctl h2
          gi_wp2_with (refine ⟨trivial, ?_⟩; gi_at_call 14; refine (CallsIn.inRound l (callsIn_wide.2 (Tryd.Builder_WriteString_k w.heap.size (w.heap.size + 1) _ _ _ HI.out (by show _ + 2 ≤ _; omega) hBw))).mono ?_; rintro e w2 ⟨rfl, hat, hbel, hoth⟩; have HAT := Lib.hid hat; have HBE := Lib.hid hbel; have HOT := Lib.hid hoth; clear hat hbel hoth)
          exact HFIN.out _ _ HD.out HAT.out HBE.out HOT.out
        · have hd : drawn1 (L by_) 2 = L ⟨#[239, 191, 189]⟩ := by
            unfold drawn1
            rw [if_neg (by decide), if_pos rfl, hx0, if_neg (by omega), if_neg (by omega)]
            rfl
          have HD := Lib.hid hd
          have d128 : decide ((x0.toNat : Int) < 128) = false := decide_eq_false c128
          clear hd hc3 hctl h2
          gi_wp2_with (refine ⟨trivial, ?_⟩; gi_at_call 14; refine (CallsIn.inRound l (callsIn_wide.2 (Tryd.Builder_WriteString_k w.heap.size (w.heap.size + 1) _ _ _ HI.out (by first | (show _ + 2 ≤ _; omega) | (show _ + 3 ≤ _; omega)) hBw))).mono ?_; rintro e w2 ⟨rfl, hat, hbel, hoth⟩; have HAT := Lib.hid hat; have HBE := Lib.hid hbel; have HOT := Lib.hid hoth; clear hat hbel hoth)
          exact HFIN.out _ _ HD.out HAT.out HBE.out HOT.out
    · have hd : drawn1 (L by_) 3 = L (⟨#[32]⟩ ++ by_) := by rw [L_app]; rfl
      have HD := Lib.hid hd
      clear hd
      gi_wp2_with (refine ⟨trivial, ?_⟩; gi_at_call 14; refine (CallsIn.inRound l (callsIn_wide.2 (Tryd.Builder_WriteString_k w.heap.size (w.heap.size + 1) _ _ _ HI.out (by rw [ByteArray.size_append]; show _ + (1 + by_.size) ≤ _; omega) hBw))).mono ?_; rintro e w2 ⟨rfl, hat, hbel, hoth⟩; have HAT := Lib.hid hat; have HBE := Lib.hid hbel; have HOT := Lib.hid hoth; clear hat hbel hoth)
      exact HFIN.out _ _ HD.out HAT.out HBE.out HOT.out
    · gi_wp2_with (refine ⟨trivial, ?_⟩; gi_at_call 14; refine (CallsIn.inRound l (callsIn_wide.2 (Tryd.Builder_WriteString_k w.heap.size (w.heap.size + 1) _ _ _ HI.out (by omega) hBw))).mono ?_; rintro e w2 ⟨rfl, hat, hbel, hoth⟩; have HAT := Lib.hid hat; have HBE := Lib.hid hbel; have HOT := Lib.hid hoth; clear hat hbel hoth)
      exact HFIN.out _ _ rfl HAT.out HBE.out HOT.out
    · have hd : drawn1 (L by_) 5 = L (⟨#[239, 191, 189]⟩ ++ by_.extract 1 (q - p)) := by rw [← hbsz, L_app, L_drop]; rfl
      have HD := Lib.hid hd
      have h1s : (1 : Int) ≤ (by_.size : Int) := by omega
      clear hd
      gi_wp2_with (refine ⟨trivial, ?_⟩; gi_at_call 14; refine (CallsIn.inRound l (callsIn_wide.2 (Tryd.Builder_WriteString_k w.heap.size (w.heap.size + 1) _ _ _ HI.out (by rw [ByteArray.size_append, ByteArray.size_extract]; show _ + (3 + _) ≤ _; omega) hBw))).mono ?_; rintro e w2 ⟨rfl, hat, hbel, hoth⟩; have HAT := Lib.hid hat; have HBE := Lib.hid hbel; have HOT := Lib.hid hoth; clear hat hbel hoth)
      exact HFIN.out _ _ HD.out HAT.out HBE.out HOT.out
  case done =>
    rintro D ys W hD hys ⟨⟨⟨hI, hbS⟩, hbW⟩, hB⟩ hK
    have hBw := hB.size
    have hI2 := hI
    rw [hys] at hI2
    have HI := Lib.hid hI2
    have HBL := Lib.hid (builder_blk hI2)
    gi_wp2_with (refine ⟨trivial, ?_⟩; gi_at_call 17; refine (callsIn_wide.2 (Tryd.Builder_String_any_k w.heap.size (w.heap.size + 1) _ _ HI.out hBw)).mono ?_; rintro e w2 ⟨rfl, hif, hbel, hoth⟩; have HBE := Lib.hid hbel; have HOT := Lib.hid hoth; clear hif hbel hoth)
    obtain ⟨cs, hcs⟩ := HBL.out
    have hK2 : w2.heap[D]? = some (.deferred (some [])) := HOT.out D _ hK (fun e => by injection e with e; subst e; rw [hcs] at hK; cases hK) (fun c fz e => by cases e)
    refine ⟨by simp, .inl ⟨_, _, rfl, run_takeDeferred hK2, ?_⟩⟩
    exact ⟨_, results_tmp rfl _ _ _, rfl, (hB.trans HBE.out).trans (belowK_b (w := w) (Nat.le_refl _) w2 D _ _ (by omega) hK2 rfl rfl)⟩
  case stop =>
    rintro D c pre W _ _ h _
    exact h.elim
end U
end Go.Proofs.YtceomobdolkfgaaDoor
/- Cells and rows of cells in memory, read; cells compared. -/
set_option linter.unusedVariables false
namespace Go.Proofs.YtceomobdolkfgaaDoor
open Go.RowKit Go.Proofs.YtceomobdolkfgaaDoorW.PrintWords Go.Proofs.YtceomobdolkfgaaDoor.Sep
namespace U
/-- A cell: its text and its span. -/
abbrev C := ByteArray × Int
abbrev cz : C := (⟨#[]⟩, 0)
abbrev cb : C := (⟨#[32]⟩, 1)
def ccells (c : C) : List Value := [.string c.1, .int .i64 c.2]
def cagg (c : C) : Value := .agg #[.string c.1, .int .i64 c.2]
def ceq (a b : C) : Bool := (a.1.toList == b.1.toList) && (a.2 == b.2)
theorem toList_inj (a b : ByteArray) : a.toList = b.toList ↔ a = b := by
  rw [ByteArray.toList_eq, ByteArray.toList_eq]
  constructor
  · intro h
    cases a; cases b
    simpa [Array.toList_inj] using h
  · rintro rfl; rfl
theorem ceq_eq (a b : C) : ceq a b = decide (a = b) := by
  obtain ⟨a1, a2⟩ := a
  obtain ⟨b1, b2⟩ := b
  unfold ceq
  rw [Bool.eq_iff_iff]
  simp [toList_inj]
theorem flds_c : ∃ f0 f1 : Field, (Tryd.prog.fieldsOf 32).toList = [f0, f1] ∧ ((f0.name == "_") = false ∧ f0.type = 9 ∧ f0.offset = 0) ∧ ((f1.name == "_") = false ∧ f1.type = 3 ∧ f1.offset = 1) := by
  have h : ((Tryd.prog.fieldsOf 32).toList.map fun f => (f.name == "_", f.type, f.offset)) = [(false, 9, 0), (false, 3, 1)] := by kernel_rfl
  generalize (Tryd.prog.fieldsOf 32).toList = l at h
  rcases l with _ | ⟨f0, _ | ⟨f1, _ | ⟨f2, l⟩⟩⟩ <;> simp at h
  exact ⟨f0, f1, rfl, by simp [h], by simp [h]⟩
theorem und_c : Tryd.prog.underlying 32 = some (.struct (Tryd.prog.fieldsOf 32)) := by kernel_rfl
theorem equal_c (w : World) (a b : C) : (Op.equalIn 10000 32 (cagg a) (cagg b)).run Tryd.prog w = .ok (ceq a b) w := by
  refine eqA_of und_c (by kernel_rfl) ?_
  obtain ⟨f0, f1, h, ⟨n0, t0, o0⟩, ⟨n1, t1, o1⟩⟩ := flds_c
  rw [h]
  refine eqf_cons n0 (a := .string a.1) (b := .string b.1) (by rw [t0, o0]; kernel_rfl) (by rw [t0, o0]; kernel_rfl) (by rw [t0]; exact run_equalIn_string _ _ _ _ _ Tryd.underlying9) ?_
  exact eqf_last n1 (a := .int .i64 a.2) (b := .int .i64 b.2) (by rw [t1, o1]; kernel_rfl) (by rw [t1, o1]; kernel_rfl) (by rw [t1]; exact run_equalIn_int _ _ _ _ _ _ _ Tryd.underlying3)
theorem neq_c (w : World) (a b : C) : (binOp .neq 32 (cagg a) (cagg b)).run Tryd.prog w = .ok (.bool (!decide (a = b))) w := by
  rw [← ceq_eq]
  unfold cagg
  rw [run_neq_struct]
  have := equal_c w a b
  unfold cagg at this
  rw [this]
  rfl
theorem eql_c (w : World) (a b : C) : (binOp .eql 32 (cagg a) (cagg b)).run Tryd.prog w = .ok (.bool (decide (a = b))) w := by
  rw [← ceq_eq]
  unfold cagg
  rw [run_eql_struct]
  have := equal_c w a b
  unfold cagg at this
  rw [this]
  rfl
abbrev Row := List C
def flat (r : Row) : List Value := r.flatMap ccells
theorem flat_len (r : Row) : (flat r).length = r.length * 2 := by
  induction r with
  | nil => rfl
  | cons a l ih =>
    show (ccells a ++ flat l).length = _
    rw [List.length_append, ih, List.length_cons]
    show 2 + _ = _
    omega
theorem flat_one (r : Row) : ∀ u ∈ flat r, u.oneCell' = true := by
  intro u hu
  obtain ⟨d, _, hd⟩ := List.mem_flatMap.1 hu
  simp [ccells] at hd
  rcases hd with rfl | rfl <;> rfl
theorem flat_app (a b : Row) : flat (a ++ b) = flat a ++ flat b := by simp [flat]
theorem flat_at (r : Row) : ∀ i, i < r.length → (flat r)[i * 2]? = some (.string (r.getD i cz).1) ∧ (flat r)[i * 2 + 1]? = some (.int .i64 (r.getD i cz).2) := by
  induction r with
  | nil => intro i h; simp at h
  | cons a l ih =>
    intro i h
    cases i with
    | zero => exact ⟨rfl, rfl⟩
    | succ i =>
      have := ih i (by simpa using h)
      have e1 : (i + 1) * 2 = (i * 2) + 1 + 1 := by omega
      rw [e1]
      simpa [flat, ccells] using this
/-- A slice of cells that can be read. -/
def RdRow (w : World) (v : Value) (r : Row) : Prop := ∃ A c, v = .slice A r.length c ∧ r.length ≤ c ∧ Reads w w.heap.size 2 A r.length (flat r)
theorem add_off_ (g off j : Nat) : (⟨g, off, none⟩ : Addr).add j = ⟨g, off + j, none⟩ := by unfold Addr.add; split <;> simp_all
theorem reads_base {w : World} {B size n : Nat} {A : Option Addr} {xs : List Value} (h : Reads w B size A n xs) (hs : 0 < size) (hn : 0 < n) : ∃ g off, A = some ⟨g, off, none⟩ ∧ g < B ∧ ∀ j u, xs[j]? = some u → w.cell? ⟨g, off + j, none⟩ = some u := by
  obtain ⟨ad, rfl, hb, hc⟩ := h.2 hn
  have h0 : 0 < xs.length := by rw [h.1]; exact Nat.mul_pos hn hs
  have cz := hc 0 _ (List.getElem?_eq_getElem h0)
  obtain ⟨g, off, spot⟩ := ad
  have hspot : spot = none := by simpa [Addr.add] using World.cell?_spot cz
  subst hspot
  exact ⟨g, off, rfl, hb, fun j u hu => by rw [← add_off_]; exact hc j u hu⟩
/-- The base of a row that isn't empty, and its cells. -/
theorem row_base {w : World} {B : Nat} {A : Option Addr} {n : Nat} {r : Row} (h : Reads w B 2 A n (flat r)) (hn : n = r.length) (h0 : 0 < n) : ∃ g off, A = some ⟨g, off, none⟩ ∧ g < B ∧ ∀ i, i < n → w.cell? ⟨g, off + i * 2, none⟩ = some (.string (r.getD i cz).1) ∧ w.cell? ⟨g, off + i * 2 + 1, none⟩ = some (.int .i64 (r.getD i cz).2) := by
  obtain ⟨g, off, rfl, hb, hc⟩ := reads_base h (by omega) h0
  refine ⟨g, off, rfl, hb, fun i hi => ?_⟩
  obtain ⟨h1, h2⟩ := flat_at r i (by omega)
  exact ⟨hc _ _ h1, hc _ _ h2⟩
theorem RdRow.below {w w' : World} {v : Value} {r : Row} (h : RdRow w v r) (hb : Below w.heap.size w w') : RdRow w' v r := by
  obtain ⟨A, c, rfl, hc, hr⟩ := h
  exact ⟨A, c, rfl, hc, (hr.below hb).more hb.size⟩
theorem RdRow.of_own {w : World} {b e : Nat} {v : Value} {r : Row} (h : w.ownsRow b e 2 v r.length (flat r)) : RdRow w v r := by
  obtain ⟨A, c, rfl, hc, _⟩ := own_form h
  exact ⟨A, c, rfl, hc, Reads.of_own h⟩
/-- A slice of rows that can be read. -/
def RdRows (w : World) (v : Value) (rs : List Row) : Prop := ∃ A c vs, v = .slice A rs.length c ∧ rs.length ≤ c ∧ Reads w w.heap.size 1 A rs.length vs ∧ ∀ i, i < rs.length → RdRow w (vs.getD i .nilIface) (rs.getD i [])
theorem RdRows.below {w w' : World} {v : Value} {rs : List Row} (h : RdRows w v rs) (hb : Below w.heap.size w w') : RdRows w' v rs := by
  obtain ⟨A, c, vs, rfl, hc, hr, hs⟩ := h
  exact ⟨A, c, vs, rfl, hc, (hr.below hb).more hb.size, fun i hi => (hs i hi).below hb⟩
theorem rows_base {w : World} {A : Option Addr} {n : Nat} {vs : List Value} (h : Reads w w.heap.size 1 A n vs) (h0 : 0 < n) : ∃ g off, A = some ⟨g, off, none⟩ ∧ g < w.heap.size ∧ ∀ i, i < n → w.cell? ⟨g, off + i, none⟩ = some (vs.getD i .nilIface) := by
  obtain ⟨g, off, rfl, hb, hc⟩ := reads_base h (by omega) h0
  refine ⟨g, off, rfl, hb, fun i hi => ?_⟩
  have hl : i < vs.length := by rw [h.1]; omega
  exact hc i _ (by rw [List.getElem?_eq_getElem hl, List.getD_eq_getElem?_getD, List.getElem?_eq_getElem hl]; rfl)
theorem below_drewN_ {B : Nat} {w w' : World} (h : Below B w w') (m : Nat) : Below B w (w'.drewN m) := ⟨h.os, h.tape, h.output, h.size, h.block⟩
end U
end Go.Proofs.YtceomobdolkfgaaDoor
/- Rows of one's own of whatever elements, that may begin anywhere in their block and end ahead of its end. Plain lemmas, no program. -/
set_option linter.unusedVariables false
namespace Go.Proofs.YtceomobdolkfgaaDoor.Sep
open Go.RowKit Go.Proofs.YtceomobdolkfgaaDoorW.PrintWords
theorem add_off (g off j : Nat) : (⟨g, off, none⟩ : Addr).add j = ⟨g, off + j, none⟩ := by unfold Addr.add; split <;> simp_all
/-- v is a slice of n elements of type e (sz cells each), which are xs; what lies behind it in its block is one's own too. -/
def OwnS (w : World) (e : TypeId) (sz : Nat) (v : Value) (n : Nat) (xs : List Value) : Prop :=
  xs.length = n * sz ∧ ((v = .slice none 0 0 ∧ n = 0) ∨ ∃ g off cap cur, v = .slice (some ⟨g, off, none⟩) n cap ∧ w.heap[g]? = some (.cells cur e (0, 0)) ∧ n ≤ cap ∧ cap ≤ maxLen ∧ off + cap * sz ≤ cur.size ∧ ∀ j, j < n * sz → cur[off + j]? = xs[j]?)
section
variable {w w' : World} {e : TypeId} {sz n : Nat} {v : Value} {xs : List Value}
theorem OwnS.nil (w : World) (e : TypeId) (sz : Nat) : OwnS w e sz (.slice none 0 0) 0 [] := ⟨by simp, .inl ⟨rfl, rfl⟩⟩
theorem OwnS.lt (h : OwnS w e sz v n xs) : ∀ k, v.ownBlock = some k → k < w.heap.size := by
  intro k hk
  rcases h.2 with ⟨rfl, _⟩ | ⟨g, off, cap, cur, rfl, hh, _⟩
  · simp [Value.ownBlock] at hk
  · have : g = k := by simpa [Value.ownBlock] using hk
    subst this
    exact (Array.getElem?_eq_some_iff.1 hh).1
theorem OwnS.keep (h : OwnS w e sz v n xs) (hk : ∀ k, v.ownBlock = some k → w'.heap[k]? = w.heap[k]?) : OwnS w' e sz v n xs := by
  refine ⟨h.1, ?_⟩
  rcases h.2 with h | ⟨g, off, cap, cur, rfl, hh, r⟩
  · exact .inl h
  · exact .inr ⟨g, off, cap, cur, rfl, (hk g (by simp [Value.ownBlock])).trans hh, r⟩
theorem OwnS.upd {S : Nat → Prop} (h : OwnS w e sz v n xs) (u : Upd S w w') (hn : ∀ k, v.ownBlock = some k → ¬ S k) : OwnS w' e sz v n xs := h.keep fun k hk => u.block k (h.lt k hk) (hn k hk)
theorem OwnS.form (h : OwnS w e sz v n xs) : ∃ A c, v = .slice A n c ∧ n ≤ c := by
  rcases h.2 with ⟨rfl, rfl⟩ | ⟨g, off, cap, cur, rfl, _, hl, _⟩
  · exact ⟨none, 0, rfl, by simp⟩
  · exact ⟨_, _, rfl, hl⟩
theorem OwnS.some_ (h : OwnS w e sz v n xs) (h0 : 0 < n) : ∃ g off c, v = .slice (some ⟨g, off, none⟩) n c ∧ n ≤ c ∧ ∀ j u, xs[j]? = some u → w.cell? ⟨g, off + j, none⟩ = some u := by
  rcases h.2 with ⟨rfl, rfl⟩ | ⟨g, off, cap, cur, rfl, hh, hl, _, _, hc⟩
  · omega
  · refine ⟨g, off, cap, rfl, hl, fun j u hu => ?_⟩
    have hj : j < n * sz := by rw [← h.1]; exact (List.getElem?_eq_some_iff.1 hu).1
    rw [cell_of_row w g (off + j) cur e (0, 0) hh, hc j hj, hu]
theorem OwnS.frozen {g' off c : Nat} (h : OwnS w e sz (.slice (some ⟨g', off, none⟩) n c) n xs) (j : Nat) : w.frozen? ⟨g', j, none⟩ = false := by
  rcases h.2 with ⟨e1, _⟩ | ⟨g, o, cap, cur, e1, hh, _⟩
  · cases e1
  · injection e1 with e2
    injection e2 with e2
    injection e2 with e2
    subst e2
    simp [World.frozen?, hh]
theorem OwnS.reads {A : Option Addr} {c : Nat} (h : OwnS w e sz (.slice A n c) n xs) : Reads w w.heap.size sz A n xs := by
  refine ⟨h.1, fun h0 => ?_⟩
  obtain ⟨g, off, c', hv, _, hc⟩ := h.some_ h0
  have hlt := h.lt
  injection hv with e1
  subst e1
  exact ⟨_, rfl, hlt g (by simp [Value.ownBlock]), fun j u hu => by rw [add_off]; exact hc j u hu⟩
theorem OwnS.ofRow {base : Nat} (h : w.ownsRow base e sz v n xs) : OwnS w e sz v n xs := by
  refine ⟨h.1, ?_⟩
  rcases h.2 with ⟨rfl, h0⟩ | ⟨g, cap, cur, rfl, _, hh, hl, hm, hsz, ht⟩
  · exact .inl ⟨rfl, h0⟩
  · refine .inr ⟨g, 0, cap, cur, rfl, hh, hl, hm, by omega, fun j hj => ?_⟩
    rw [← ht, List.getElem?_take, if_pos hj, Nat.zero_add]
    simp
/-- Its head, its capacity left. -/
theorem OwnS.take {A : Option Addr} {c : Nat} (h : OwnS w e sz (.slice A n c) n xs) (m : Nat) (hm : m ≤ n) : OwnS w e sz (.slice A m c) m (xs.take (m * sz)) := by
  have hmn : m * sz ≤ n * sz := Nat.mul_le_mul_right _ hm
  refine ⟨by rw [List.length_take, h.1]; omega, ?_⟩
  rcases h.2 with ⟨hs, hn⟩ | ⟨g, off, cap, cur, hs, hh, hl, hm2, hsz, hc⟩
  · injection hs with e1 e2 e3
    subst e1; subst e3
    exact .inl ⟨by congr; omega, by omega⟩
  · injection hs with e1 e2 e3
    subst e1; subst e3
    exact .inr ⟨g, off, c, cur, rfl, hh, by omega, hm2, hsz, fun j hj => by rw [hc j (by omega), List.getElem?_take, if_pos hj]⟩
/-- Its head, cut off behind (three-index slice). -/
theorem OwnS.clip {A : Option Addr} {c : Nat} (h : OwnS w e sz (.slice A n c) n xs) (m : Nat) (hm : m ≤ n) : OwnS w e sz (.slice A m m) m (xs.take (m * sz)) := by
  have hmn : m * sz ≤ n * sz := Nat.mul_le_mul_right _ hm
  refine ⟨by rw [List.length_take, h.1]; omega, ?_⟩
  rcases h.2 with ⟨hs, hn⟩ | ⟨g, off, cap, cur, hs, hh, hl, hm2, hsz, hc⟩
  · injection hs with e1 e2 e3
    subst e1; subst e3
    obtain rfl : m = 0 := by omega
    exact .inl ⟨rfl, rfl⟩
  · injection hs with e1 e2 e3
    subst e1; subst e3
    have hmc : m * sz ≤ c * sz := Nat.mul_le_mul_right _ (by omega)
    exact .inr ⟨g, off, m, cur, rfl, hh, Nat.le_refl _, by omega, by omega, fun j hj => by rw [hc j (by omega), List.getElem?_take, if_pos hj]⟩
/-- All but its head. -/
theorem OwnS.tail {g off c : Nat} (h : OwnS w e sz (.slice (some ⟨g, off, none⟩) n c) n xs) (h2 : 2 ≤ n) : OwnS w e sz (.slice (some ⟨g, off + sz, none⟩) (n - 1) (c - 1)) (n - 1) (xs.drop sz) := by
  obtain ⟨k, rfl⟩ : ∃ k, n = k + 1 := ⟨n - 1, by omega⟩
  refine ⟨by rw [List.length_drop, h.1, Nat.add_sub_cancel, Nat.succ_mul]; omega, ?_⟩
  rcases h.2 with ⟨hs, hn⟩ | ⟨g', off', cap, cur, hs, hh, hl, hm2, hsz, hc⟩
  · cases hs
  · injection hs with e1 e2 e3
    injection e1 with e1
    injection e1 with e1 e4
    subst e1; subst e4; subst e3
    obtain ⟨d, rfl⟩ : ∃ d, c = d + 1 := ⟨c - 1, by omega⟩
    rw [Nat.succ_mul] at hsz
    simp only [Nat.add_sub_cancel]
    refine .inr ⟨g, off + sz, d, cur, rfl, hh, by omega, by omega, by omega, fun j hj => ?_⟩
    rw [show off + sz + j = off + (sz + j) by omega, hc (sz + j) (by rw [Nat.succ_mul]; omega), List.getElem?_drop]
theorem OwnS.blk (h : OwnS w e sz v n xs) {k : Nat} (hk : v.ownBlock = some k) : ∃ cs, Blk w k e cs := by
  rcases h.2 with ⟨rfl, _⟩ | ⟨g, off, cap, cur, rfl, hh, _⟩
  · simp [Value.ownBlock] at hk
  · have : g = k := by simpa [Value.ownBlock] using hk
    subst this
    exact ⟨cur, hh⟩
theorem OwnS.ne_blk (h : OwnS w e sz v n xs) {g : Nat} {t : TypeId} {cs : Array Value} (hb : Blk w g t cs) (hne : e ≠ t) : v.ownBlock ≠ some g := by
  intro hk
  obtain ⟨cs', h'⟩ := h.blk hk
  exact Blk.ne_ h' hb hne rfl
theorem OwnS.ne_own {e' : TypeId} {sz' n' : Nat} {v' : Value} {xs' : List Value} (h : OwnS w e sz v n xs) (h' : OwnS w e' sz' v' n' xs') (hne : e ≠ e') {k : Nat} (hk : v.ownBlock = some k) : v'.ownBlock ≠ some k := by
  obtain ⟨cs, hb⟩ := h.blk hk
  exact h'.ne_blk hb (fun e => hne e.symm)
theorem OwnS.new (w : World) (e : TypeId) (sz n : Nat) (xs : List Value) (hl : xs.length = n * sz) (hm : n ≤ maxLen) : OwnS (w.alloc (.cells xs.toArray e)) e sz (.slice (some ⟨w.heap.size, 0, none⟩) n n) n xs :=
  ⟨hl, .inr ⟨w.heap.size, 0, n, xs.toArray, rfl, heap_alloc_new w _, Nat.le_refl _, hm, by simp [hl], fun j hj => by simp⟩⟩
end
section
variable {P : Program} {w : World}
theorem OwnS.app {t ty e : TypeId} {i : TypeInfo} {z : Value} {sz bytes : Nat} (ht : P.underlying t = some (.slice e)) (hi : P.info? e = some i) (hz : i.zero = some z)
    (hsize : i.size = sz) (hby : i.bytes = bytes) (hzs : z.cells.size = sz) (hsz : 0 < sz)
    {v : Value} {n : Nat} {xs : List Value} (h : OwnS w e sz v n xs)
    {B : Nat} {A : Option Addr} {m : Nat} (c : Nat) {news : List Value} (hr : Reads w B sz A m news) (h1 : ∀ u ∈ news, u.oneCell' = true)
    (h63 : n + m ≤ maxLen) (hbytes : (n + m) * bytes ≤ 140737488355328) :
    ∃ v' w', (Builtin.append_ #[t, t] ty #[v, .slice A m c]).run P w = .ok v' w' ∧ OwnS w' e sz v' (n + m) (xs ++ news) ∧ w.grownBy w' v.ownBlock ∧ (v'.ownBlock = v.ownBlock ∨ ∀ k, v'.ownBlock = some k → w.heap.size ≤ k) := by
  rcases h.2 with ⟨rfl, rfl⟩ | ⟨g, off, cap, cur, rfl, hh, hl, hm, hs, hc⟩
  · have hx : xs = [] := List.eq_nil_of_length_eq_zero (by simpa using h.1)
    subst hx
    obtain ⟨v', w', hrun, h2, h3, h4⟩ := run_append_any (P := P) w 0 t ty e i z sz bytes ht hi hz hsize hby hzs hsz (.slice none 0 0) 0 [] ⟨by simp, .inl ⟨rfl, rfl⟩⟩ B A m c news hr h1 h63 hbytes (Nat.zero_le _)
    exact ⟨v', w', hrun, OwnS.ofRow h2, h3, h4.imp id (fun e k hk => by rw [e] at hk; injection hk with hk; omega)⟩
  · rcases Nat.eq_zero_or_pos m with hm0 | hm0
    · subst hm0
      have hn : news = [] := List.eq_nil_of_length_eq_zero (by simpa using hr.1)
      subst hn
      refine ⟨.slice (some ⟨g, off, none⟩) n cap, w, ?_, by simpa using h, World.grownBy.refl w _, .inl rfl⟩
      cases A <;> simp [Builtin.append_, run_underlying ht, sizeOf, typeInfo, hi, Builtin.lenOf, Builtin.firstCells, hl, storeCells, loadCells, loadCellsFrom]
    · obtain ⟨ad, rfl, _, hcell⟩ := hr.2 hm0
      have hl2 : news.length = m * i.size := by rw [hsize]; exact hr.1
      by_cases hroom : n + m ≤ cap
      · have hmul : (n + m) * sz ≤ cap * sz := Nat.mul_le_mul_right _ hroom
        rw [Nat.add_mul] at hmul
        have hrl := hr.1
        have hrun := run_append_room_cells (P := P) w t ty e i ht hi g off n cap ad m c news hl2 hcell h1 hroom
          (fun j hj => by
            rw [hsize, cell_of_row _ g _ cur e (0, 0) hh, Array.getElem?_eq_getElem (by omega)]
            rfl)
          (fun j hj => by simp [World.frozen?, hh])
        rw [hsize] at hrun
        obtain ⟨cur', h4, h5, h6⟩ := setCells_row news (off + n * sz) w cur hh (by omega)
        refine ⟨_, _, hrun, ⟨by rw [List.length_append, h.1, hrl, Nat.add_mul], .inr ⟨g, off, cap, cur', rfl, h4, hroom, hm, by rw [h5]; exact hs, fun j hj => ?_⟩⟩, ?_, .inl (by simp [Value.ownBlock])⟩
        · rw [← Array.getElem?_toList, h6]
          rw [Nat.add_mul] at hj
          have hlen : (cur.toList.take (off + n * sz)).length = off + n * sz := by
            have e1 : cur.toList.length = cur.size := Array.length_toList
            rw [List.length_take, e1]
            omega
          by_cases hjx : j < n * sz
          · rw [List.append_assoc, List.getElem?_append_left (by omega), List.getElem?_take, if_pos (by omega), Array.getElem?_toList, hc j hjx, List.getElem?_append_left (by rw [h.1]; exact hjx)]
          · rw [List.append_assoc, List.getElem?_append_right (by omega), hlen, List.getElem?_append_left (by omega), List.getElem?_append_right (by rw [h.1]; omega), h.1]
            congr 1
            omega
        · obtain ⟨s1, s2, s3, s4⟩ := setCells_same g news (off + n * sz) w
          exact ⟨s1, s2, s3, by rw [s4]; exact Nat.le_refl _, fun k hk hne => setCells_far news (off + n * sz) k (fun e => hne (by rw [e]; simp [Value.ownBlock]))⟩
      · obtain ⟨v', w', hrun, h2, h3⟩ := run_append_arg_grows (P := P) w t ty e i z sz bytes ht hi hz hsize hby hzs hsz ⟨g, off, none⟩ n cap xs h.1
          (fun j u hu => by
            have hj : j < n * sz := by rw [← h.1]; exact (List.getElem?_eq_some_iff.1 hu).1
            rw [add_off, cell_of_row _ g _ cur e (0, 0) hh, hc j hj, hu])
          ad m c news hr.1 hcell (by omega) h63 hbytes
        refine ⟨v', w', hrun, OwnS.ofRow h2, ⟨h3.os, h3.tape, h3.output, h3.size, fun k hk _ => h3.block k hk (by simp)⟩, .inr (own_base h2)⟩
theorem wpList_append_s {ops : Array Oper} {rest : List Oper} {o : Oper} {a : Act} {Q : Exit → Act → World → Prop} (hgd : o.guard = none) (s x : Operand) (t : TypeId)
    (ho : o.op = .call { callee := .builtin .append, args := #[s, x], argTypes := #[t, t] })
    {e : TypeId} {i : TypeInfo} {z : Value} {sz bytes : Nat} (ht : P.underlying t = some (.slice e)) (hi : P.info? e = some i) (hz : i.zero = some z)
    (hsize : i.size = sz) (hby : i.bytes = bytes) (hzs : z.cells.size = sz) (hsz : 0 < sz)
    {v : Value} {n : Nat} {xs : List Value} (hs : a.eval s = v) (h : OwnS w e sz v n xs)
    {B : Nat} {A : Option Addr} {m c : Nat} {news : List Value} (hx : a.eval x = .slice A m c) (hr : Reads w B sz A m news) (h1 : ∀ u ∈ news, u.oneCell' = true)
    (h63 : n + m ≤ maxLen) (hbytes : (n + m) * bytes ≤ 140737488355328)
    (hK : ∀ v' w', OwnS w' e sz v' (n + m) (xs ++ news) → w.grownBy w' v.ownBlock → (v'.ownBlock = v.ownBlock ∨ ∀ k, v'.ownBlock = some k → w.heap.size ≤ k) → wpList P ops Q rest (a.put o.dst v') w') : wpList P ops Q (o :: rest) a w := by
  refine wpList_plain hgd fun K hK' => ?_
  obtain ⟨v', w', hrun, h2, h3, h4⟩ := OwnS.app (ty := o.type) ht hi hz hsize hby hzs hsz h c hr h1 h63 hbytes
  unfold Oper.wp execOp
  simp only [ho, resolve, invoke, builtin, Sem.run_bind, Sem.run_pure, Result.andThen_ok, List.map_toArray, List.map_cons, List.map_nil, hs, hx, hrun]
  exact hK' _ _ (hK v' w' h2 h3 h4)
theorem step_append_s {ops : Array Oper} {o : Oper} {a : Act} {K : Act → World → Prop} {Q : Exit → Act → World → Prop} {E : Prop} (hgd : o.guard = none) (s x : Operand) (t : TypeId)
    (ho : o.op = .call { callee := .builtin .append, args := #[s, x], argTypes := #[t, t] })
    {e : TypeId} {i : TypeInfo} {z : Value} {sz bytes : Nat} (ht : P.underlying t = some (.slice e)) (hi : P.info? e = some i) (hz : i.zero = some z)
    (hsize : i.size = sz) (hby : i.bytes = bytes) (hzs : z.cells.size = sz) (hsz : 0 < sz)
    {v : Value} {n : Nat} {xs : List Value} (hs : a.eval s = v) (h : OwnS w e sz v n xs)
    {B : Nat} {A : Option Addr} {m c : Nat} {news : List Value} (hx : a.eval x = .slice A m c) (hr : Reads w B sz A m news) (h1 : ∀ u ∈ news, u.oneCell' = true)
    (h63 : n + m ≤ maxLen) (hbytes : (n + m) * bytes ≤ 140737488355328)
    (hK : ∀ v' w', OwnS w' e sz v' (n + m) (xs ++ news) → w.grownBy w' v.ownBlock → (v'.ownBlock = v.ownBlock ∨ ∀ k, v'.ownBlock = some k → w.heap.size ≤ k) → K (a.put o.dst v') w') :
    if Region.wanted o (yielded ops a.tmps) = true then Oper.wp P o a w K Q else E := by
  have hw : Region.wanted o (yielded ops a.tmps) = true := by simp [Region.wanted, hgd]
  rw [if_pos hw]
  obtain ⟨v', w', hrun, h2, h3, h4⟩ := OwnS.app (ty := o.type) ht hi hz hsize hby hzs hsz h c hr h1 h63 hbytes
  unfold Oper.wp execOp
  simp only [ho, resolve, invoke, builtin, Sem.run_bind, Sem.run_pure, Result.andThen_ok, List.map_toArray, List.map_cons, List.map_nil, hs, hx, hrun]
  exact hK v' w' h2 h3 h4
end
end Go.Proofs.YtceomobdolkfgaaDoor.Sep
/- paint's small functions: one, Goto, Row; slices.Equal of cells. -/
set_option linter.unusedVariables false
namespace Go.Proofs.YtceomobdolkfgaaDoor
open Go.RowKit Go.Proofs.YtceomobdolkfgaaDoorW.PrintWords Go.Proofs.YtceomobdolkfgaaDoor.Sep
namespace U
/-- The tables that the library reads. -/
structure Env (w : World) : Prop where
  tabs : Tabs w
  pow : Lib.TabIs Tryd.prog w "internal/strconv.uint64pow10" .u64 Lib.pow10Tab
theorem pow_global : Tryd.prog.globalNamed "internal/strconv.uint64pow10" = some 2 := by kernel_rfl
theorem pow_lt {w : World} (h : Lib.TabIs Tryd.prog w "internal/strconv.uint64pow10" .u64 Lib.pow10Tab) : 2 < w.heap.size := by
  unfold Lib.TabIs World.var? at h
  rw [pow_global] at h
  simp only [Option.bind_some] at h
  rcases Nat.lt_or_ge 2 w.heap.size with h' | h'
  · exact h'
  · rw [Array.getElem?_eq_none h'] at h; cases h
theorem Env.keep {w w' : World} (h : Env w) (hk : ∀ k, k < 5 → k < w.heap.size → w'.heap[k]? = w.heap[k]?) : Env w' := by
  refine ⟨h.tabs.keep (hk _ (by decide) h.tabs.two.1) (hk _ (by decide) h.tabs.two.2), ?_⟩
  have hp := h.pow
  have hlt := pow_lt hp
  unfold Lib.TabIs World.var? at hp ⊢
  rw [pow_global] at hp ⊢
  simp only [Option.bind_some] at hp ⊢
  rw [hk _ (by decide) hlt]
  exact hp
theorem Env.heap {w w' : World} (h : Env w) (e : w'.heap = w.heap) : Env w' := h.keep fun k _ _ => by rw [e]
theorem Env.below {w w' : World} (h : Env w) (hb : Below w.heap.size w w') : Env w' := h.keep fun k _ hl => hb.block k hl
theorem Env.upd {S : Nat → Prop} {w w' : World} (h : Env w) (hu : Upd S w w') (hS : ∀ k, S k → 5 ≤ k) : Env w' := h.keep fun k hk hl => hu.block k hl (fun hs => by have := hS k hs; omega)
/-- A row's bytes. -/
def rowL (r : Row) : Bs := r.flatMap fun c => L c.1
def oneL (n : Int) : Bs := Lib.itoa (min (max n 0) 1073741824 + 1)
def gotoL (row col : Int) : Bs := [27, 91] ++ oneL row ++ [59] ++ oneL col ++ [72]
/-- A text of bytes. -/
def S (l : Bs) : ByteArray := ⟨l.toArray⟩
theorem L_S (l : Bs) : L (S l) = l := by unfold L S; simp
theorem S_L (s : ByteArray) : S (L s) = s := by unfold L S; cases s; simp
theorem S_app (a b : Bs) : S a ++ S b = S (a ++ b) := by
  have h : L (S a ++ S b) = a ++ b := by rw [L_app', L_S, L_S]
  rw [← S_L (S a ++ S b), h]
where L_app' (a b : ByteArray) : L (a ++ b) = L a ++ L b := by unfold L; simp
theorem S_size (l : Bs) : (S l).size = l.length := by rw [← L_len, L_S]
theorem dec_len : ∀ k n, n < 10 ^ (k + 1) → (Lib.decDigits n).length ≤ k + 1
  | 0, n, h => by
    unfold Lib.decDigits
    rw [dif_pos (by simpa using h)]
    simp
  | k + 1, n, h => by
    unfold Lib.decDigits
    split
    · simp
    · have := dec_len k (n / 10) (by rw [Nat.pow_succ] at h; omega)
      simp only [List.length_append, List.length_cons, List.length_nil]
      omega
theorem one_len (n : Int) : (S (oneL n)).size ≤ 11 := by
  rw [S_size]
  unfold oneL Lib.itoa
  rw [if_neg (by omega)]
  exact dec_len 10 _ (by omega)
set_option maxHeartbeats 1600000
set_option maxRecDepth 100000
theorem one_ (n : Int) (w : World) (h : Env w) : Calls Tryd.prog 36 #[.int .i64 n] w fun e w' => e = .returned (.string (S (oneL n))) ∧ Below w.heap.size w w' := by
  have hI := Lib.hid (Tryd.strconv_Itoa (min (max n 0) 1073741824 + 1) (by omega) (by omega) w h.pow)
  have hb1 : 0 ≤ min (max n 0) 1073741824 := by omega
  have hb2 : min (max n 0) 1073741824 ≤ 1073741824 := by omega
  obtain ⟨m, hm⟩ : ∃ m, min (max n 0) 1073741824 = m := ⟨_, rfl⟩
  have HS : Hid (S (oneL n) = ⟨(Lib.itoa (m + 1)).toArray⟩) := Lib.hid (by unfold oneL; rw [hm]; rfl)
  rw [hm] at hI hb1 hb2
  go_enter Tryd.func36, Tryd.ntmps36
  go_wp2_with (go_at_call 52; refine hI.out.mono ?_; rintro e w2 ⟨rfl, hq⟩; have HW := Lib.hid hq; clear hq)
  go_ret
  obtain ⟨k, os, rfl⟩ := HW.out
  exact ⟨by rw [HS.out]; rfl, Go.Lib.below_grow _ w (Nat.le_refl _) k os⟩
theorem goto_ (r c : Int) (w : World) (h : Env w) : Calls Tryd.prog 15 #[.agg #[.int .i64 r, .int .i64 c]] w fun e w' => e = .returned (.string (S (gotoL r c))) ∧ Below w.heap.size w w' := by
  have HE := Lib.hid h
  have HS : Hid (S (gotoL r c) = (((⟨#[27, 91]⟩ ++ S (oneL r)) ++ ⟨#[59]⟩) ++ S (oneL c)) ++ ⟨#[72]⟩) := Lib.hid (by
    have e1 : (⟨#[27, 91]⟩ : ByteArray) = S [27, 91] := rfl
    have e2 : (⟨#[59]⟩ : ByteArray) = S [59] := rfl
    have e3 : (⟨#[72]⟩ : ByteArray) = S [72] := rfl
    rw [e1, e2, e3, S_app, S_app, S_app, S_app]
    rfl)
  have l1 := one_len r
  have l2 := one_len c
  have m1 : ¬ 9223372036854775807 < 2 + (S (oneL r)).size := by omega
  have m2 : ¬ 9223372036854775807 < 2 + (S (oneL r)).size + 1 := by omega
  have m3 : ¬ 9223372036854775807 < 2 + (S (oneL r)).size + 1 + (S (oneL c)).size := by omega
  have m4 : ¬ 9223372036854775807 < 2 + (S (oneL r)).size + 1 + (S (oneL c)).size + 1 := by omega
  go_enter Tryd.func15, Tryd.ntmps15
  go_wp2
  have HB := Lib.hid (Blk.new w 26 #[.int .i64 r, .int .i64 c])
  have HB0 := Lib.hid (below_one w (.cells #[.int .i64 r, .int .i64 c] 26))
  have hlt := HB.out.lt
  obtain ⟨W1, hW1⟩ : ∃ W1, w.alloc (.cells #[.int .i64 r, .int .i64 c] 26) = W1 := ⟨_, rfl⟩
  rw [hW1] at HB HB0 hlt ⊢
  obtain ⟨c0, c1, -⟩ := Blk.two HB.out
  clear hW1
  go_region_held3 (fun w' => w'.cell? ⟨w.heap.size, 0, none⟩ = some (.int .i64 r) ∧ w'.cell? ⟨w.heap.size, 1, none⟩ = some (.int .i64 c))
    (first | with_reducible exact ⟨c0, c1⟩ | with_reducible exact ⟨d0, d1⟩ | with_reducible exact ⟨e0, e1⟩ | go_keep)
    (first
      | (go_at_call 36; refine (one_ r _ ?_).mono ?_; exact Env.heap (HE.out.below HB0.out) rfl; rintro e w2 ⟨rfl, hq⟩; have hb : Below W1.heap.size W1 w2 := ⟨hq.os, hq.tape, hq.output, hq.size, hq.block⟩; have HX := Lib.hid hb; obtain ⟨d0, d1, -⟩ := Blk.two (Blk.below HB.out hb); clear hq hb)
      | (go_at_call 36; refine (one_ c _ ?_).mono ?_; exact Env.heap ((HE.out.below HB0.out).below HX.out) rfl; rintro e w3 ⟨rfl, hq⟩; have hb : Below W1.heap.size W1 w3 := below_then HX.out ⟨hq.os, hq.tape, hq.output, hq.size, hq.block⟩; have HY := Lib.hid hb; obtain ⟨e0, e1, -⟩ := Blk.two (Blk.below HB.out hb); clear hq hb))
  all_goals
    go_wp2
    go_ret
    exact ⟨by rw [HS.out]; rfl, HB0.out.trans (HY.out.mono HB0.out.size)⟩
end U
end Go.Proofs.YtceomobdolkfgaaDoor
/- paint.Row; slices.Equal of cells. -/
set_option linter.unusedVariables false
namespace Go.Proofs.YtceomobdolkfgaaDoor
open Go.RowKit Go.Proofs.YtceomobdolkfgaaDoorW.PrintWords Go.Proofs.YtceomobdolkfgaaDoor.Sep
namespace U
theorem rowL_take (r : Row) (i : Nat) (h : i < r.length) : rowL (r.take (i + 1)) = rowL (r.take i) ++ L (r.getD i cz).1 := by
  have e : r.take (i + 1) = r.take i ++ [r[i]] := by rw [List.take_add_one, List.getElem?_eq_getElem h]; rfl
  have e2 : r.getD i cz = r[i] := by rw [List.getD_eq_getElem?_getD, List.getElem?_eq_getElem h]; rfl
  unfold rowL
  rw [e, e2, List.flatMap_append]
  show _ ++ (L r[i].1 ++ []) = _
  rw [List.append_nil]
theorem rowL_take_le (r : Row) (i : Nat) : (rowL (r.take i)).length ≤ (rowL r).length := by
  conv => rhs; rw [← List.take_append_drop i r]
  simp only [rowL, List.flatMap_append, List.length_append]
  omega
set_option maxHeartbeats 1600000
set_option maxRecDepth 100000
theorem row_ (v : Value) (r : Row) (w : World) (hr : RdRow w v r) (hn : r.length ≤ 1099511627776) (hsz : (rowL r).length ≤ 1099511627776) :
    Calls Tryd.prog 16 #[v] w fun e w' => e = .returned (.string (S (rowL r))) ∧ Below w.heap.size w w' := by
  obtain ⟨A, c, rfl, hc, hr⟩ := hr
  have HRR := Lib.hid hr
  clear hr
  go_enter Tryd.func16, Tryd.ntmps16
  go_wp2
  have hb0 := builder_nil 54 5 w.heap.size w.heap.size (w.alloc (.cells #[.pointer none, .slice none 0 0] 54)) (Nat.le_refl _) (Blk.new w _ _)
  go_loopg [8] r.length (fun k v8 w' => ∃ i : Nat, v8 = .int .i64 i ∧ i + k = r.length ∧ Hid (Lib.IsBuilderF 54 5 w.heap.size w.heap.size (Lib.byteCells (rowL (r.take i))) w') ∧ Hid (Below w.heap.size w w'))
  case atStart => exact ⟨0, rfl, by omega, Lib.hid (by rw [List.take_zero]; exact hb0), Lib.hid (below_one _ _)⟩
  case round =>
    obtain ⟨i, rfl, hik, HI, HW⟩ := hrel
    clear hb0
    have hBw := HW.out.size
    cases gk with
    | zero =>
      have e1 : decide ((i : Int) < (r.length : Int)) = false := decide_eq_false (by omega)
      have hI := HI.out
      rw [List.take_of_length_le (by omega)] at hI
      have HI2 := Lib.hid hI
      clear hI
      go_wp2_with (go_at_call 17; refine (Tryd.Builder_String_any_f w.heap.size w.heap.size _ _ HI2.out hBw).mono ?_; rintro e w2 ⟨rfl, hif, hbel⟩; have HBE := Lib.hid hbel; clear hif hbel)
      go_ret
      exact ⟨rfl, HW.out.trans HBE.out⟩
    | succ k1 =>
      have hi : i < r.length := by omega
      have e1 : decide ((i : Int) < (r.length : Int)) = true := decide_eq_true (by omega)
      have hin : (i : Int) < (r.length : Int) := by omega
      obtain ⟨g, off, rfl, hg, hcell⟩ := row_base HRR.out rfl (by omega)
      obtain ⟨d0, d1⟩ := hcell i hi
      have c0 := (HW.out.cell (p := ⟨g, off + i * 2, none⟩) hg).trans d0
      have c1 := (HW.out.cell (p := ⟨g, off + i * 2 + 1, none⟩) hg).trans d1
      have hle := rowL_take_le r (i + 1)
      have hnx := rowL_take r i hi
      have HNX := Lib.hid hnx
      rw [hnx, List.length_append, L_len] at hle
      clear d0 d1 hcell hnx
      generalize r.getD i cz = x at *
      obtain ⟨t, n⟩ := x
      dsimp only at c0 c1 hle HNX
      have hlen : (Lib.byteCells (rowL (r.take i))).length + t.size ≤ 140737488355328 := by rw [Lib.byteCells_length]; omega
      have hB2 : w.heap.size ≤ (wr.alloc (.cells #[.string t, .int .i64 n] 32)).heap.size := by simp; omega
      go_wp2_with (go_at_call 14; refine (Tryd.Builder_WriteString_k w.heap.size w.heap.size _ t _ (HI.out.alloc _) hlen hB2).mono ?_; rintro e w2 ⟨rfl, hat, hbel, hoth⟩; have HAT := Lib.hid hat; have HBE := Lib.hid hbel; clear hat hbel hoth)
      go_roundg k1
      case measure => omega
      case rel =>
        refine ⟨i + 1, by simp, by omega, Lib.hid (.inr ?_), Lib.hid ((HW.out.alloc hBw _).trans HBE.out)⟩
        rw [HNX.out, Lib.byteCells_append]
        exact HAT.out
theorem ext_c {a b : Row} (hl : a.length = b.length) (h : ∀ j, j < a.length → a.getD j cz = b.getD j cz) : a = b := by
  apply List.ext_getElem hl
  intro j h1 h2
  have := h j h1
  simpa [List.getD, h1, h2] using this
theorem equal_ (v u : Value) (r q : Row) (w : World) (hr : RdRow w v r) (hq : RdRow w u q) (hn : r.length ≤ 1099511627776) (hm : q.length ≤ 1099511627776) :
    Calls Tryd.prog 22 #[v, u] w fun e w' => e = .returned (.bool (decide (r = q))) ∧ Below w.heap.size w w' := by
  obtain ⟨A, c, rfl, hc, hr⟩ := hr
  obtain ⟨A', c', rfl, hc', hr'⟩ := hq
  have HR := Lib.hid hr
  have HR' := Lib.hid hr'
  clear hr hr'
  by_cases hnn : r.length = q.length
  · have e1 : ((r.length : Int) != (q.length : Int)) = false := by simp [hnn]
    have hnn' := Lib.hid hnn
    go_enter Tryd.func22, Tryd.ntmps22
    clear hnn
    go_wp2
    clear e1
    go_loopg [13] r.length (fun k v5 w' => ∃ i : Nat, v5 = .int .i64 i ∧ i + k = r.length ∧ Hid (∀ j, j < i → r.getD j cz = q.getD j cz) ∧ Hid (Below w.heap.size w w'))
    case atStart => exact ⟨0, rfl, by omega, Lib.hid (fun j hj => by omega), Lib.hid (Below.refl _ _)⟩
    case round =>
      obtain ⟨i, rfl, hik, HI, HW⟩ := hrel
      cases gk with
      | zero =>
        have e1 : decide ((i : Int) < (r.length : Int)) = false := decide_eq_false (by omega)
        have HE : Hid (decide (r = q) = true) := Lib.hid (decide_eq_true (ext_c hnn'.out (fun j hj => HI.out j (by omega))))
        go_wp2
        go_ret
        exact ⟨by rw [HE.out]; rfl, HW.out⟩
      | succ k1 =>
        have hi : i < r.length := by omega
        have hi' : i < q.length := by have := hnn'.out; omega
        have e1 : decide ((i : Int) < (r.length : Int)) = true := decide_eq_true (by omega)
        have hin : (i : Int) < (r.length : Int) := by omega
        have hin' : (i : Int) < (q.length : Int) := by omega
        obtain ⟨g, off, rfl, hg, hcl⟩ := row_base HR.out rfl (by omega)
        obtain ⟨g', off', rfl, hg', hcl'⟩ := row_base HR'.out rfl (by omega)
        have c0 := (HW.out.cell (p := ⟨g, off + i * 2, none⟩) hg).trans (hcl i hi).1
        have c1 := (HW.out.cell (p := ⟨g, off + i * 2 + 1, none⟩) hg).trans (hcl i hi).2
        have b0 := (HW.out.cell (p := ⟨g', off' + i * 2, none⟩) hg').trans (hcl' i hi').1
        have b1 := (HW.out.cell (p := ⟨g', off' + i * 2 + 1, none⟩) hg').trans (hcl' i hi').2
        clear hcl hcl'
        obtain ⟨x, hx⟩ : ∃ x, x = r.getD i cz := ⟨_, rfl⟩
        obtain ⟨y, hy⟩ : ∃ y, y = q.getD i cz := ⟨_, rfl⟩
        rw [← hx] at c0 c1
        rw [← hy] at b0 b1
        have HX := Lib.hid hx
        have HY := Lib.hid hy
        clear hx hy
        have hq := fun w0 => neq_c w0 x y
        unfold cagg at hq
        by_cases hd : x = y
        · have hd' : decide (x = y) = true := decide_eq_true hd
          rw [hd'] at hq
          have HF := Lib.hid hd
          clear hd hd'
          obtain ⟨x0, x1⟩ := x
          obtain ⟨y0, y1⟩ := y
          dsimp only at c0 c1 b0 b1 hq
          go_wp2
          go_quiet (fail)
          go_wp2
          go_roundg k1
          case measure => omega
          case rel =>
            refine ⟨i + 1, by simp, by omega, Lib.hid (fun j hj => ?_), Lib.hid (below_drewN_ HW.out _)⟩
            by_cases hji : j = i
            · subst hji
              rw [← HX.out, ← HY.out, HF.out]
            · exact HI.out j (by omega)
        · have hd' : decide (x = y) = false := decide_eq_false hd
          rw [hd'] at hq
          have HF : Hid (decide (r = q) = false) := Lib.hid (decide_eq_false (fun e => hd (by rw [HX.out, HY.out, e])))
          clear hd hd'
          obtain ⟨x0, x1⟩ := x
          obtain ⟨y0, y1⟩ := y
          dsimp only at c0 c1 b0 b1 hq
          go_wp2
          go_quiet (fail)
          go_wp2
          go_ret
          exact ⟨by rw [HF.out]; rfl, below_drewN_ HW.out _⟩
  · have e1 : ((r.length : Int) != (q.length : Int)) = true := by simp; omega
    have HF : Hid (decide (r = q) = false) := Lib.hid (decide_eq_false (fun e => hnn (by rw [e])))
    go_enter Tryd.func22, Tryd.ntmps22
    go_wp2
    go_ret
    exact ⟨by rw [HF.out]; rfl, Below.refl _ _⟩
end U
end Go.Proofs.YtceomobdolkfgaaDoor
/- paint.fitRow: may these cells be a row? -/
set_option linter.unusedVariables false
namespace Go.Proofs.YtceomobdolkfgaaDoor
open Go.RowKit Go.Proofs.YtceomobdolkfgaaDoorW.PrintWords Go.Proofs.YtceomobdolkfgaaDoor.Sep
namespace U
/-- The i-th cell may stand where it stands. -/
def okCell (r : Row) (i : Nat) : Bool :=
  if 0 < i ∧ (r.getD (i - 1) cz).2 = 2 then decide (r.getD i cz = cz)
  else decide (1 ≤ (r.getD i cz).2 ∧ (r.getD i cz).2 ≤ 2 ∧ takes (L (r.getD i cz).1) = (r.getD i cz).2 ∧ ¬ ((r.getD i cz).2 = 2 ∧ i + 1 = r.length))
def fitRow (r : Row) (W : Int) : Bool := if W < r.length then false else if 0 < r.length ∧ r.getD (r.length - 1) cz = cb then false else decide (∀ i, i < r.length → okCell r i = true)
theorem world_class (w : World) : ∃ (ι : Type) (_ : Nonempty ι) (Wf : ι → World), (∀ i, Below w.heap.size w (Wf i)) ∧ (∀ w', Below w.heap.size w w' → ∃ i, w' = Wf i) :=
  ⟨{w' : World // Below w.heap.size w w'}, ⟨⟨w, Below.refl _ _⟩⟩, fun i => i.1, fun i => i.2, fun w' h => ⟨⟨w', h⟩, rfl⟩⟩
theorem region_class {P : Program} {ι : Type} (Wf : ι → World) {id : Nat} {Q : Exit → Act → World → Prop} {a : Act} {w : World} {l : List Oper} (hm : P.follows .mixedOrders = true) (hB : Region.lexB .any l.toArray = true) (hC : ∃ i, w.drew = Wf i)
    (h : wpQuiet P l.toArray (fun w' => ∃ i, w' = Wf i) (fun a' => ∀ w', (∃ i, w' = Wf i) → Q .normal a' w') l a) : (Code.region id l.toArray true).wp P Q a w :=
  wp_region_quiet (C := fun w' => ∃ i, w' = Wf i) hm hB hC (by simpa using h)
theorem text_le (r : Row) : ∀ i, i < r.length → (r.getD i cz).1.size ≤ (rowL r).length := by
  induction r with
  | nil => intro i h; simp at h
  | cons a l ih =>
    intro i h
    have e : rowL (a :: l) = L a.1 ++ rowL l := rfl
    rw [e, List.length_append, L_len]
    cases i with
    | zero => show a.1.size ≤ _; omega
    | succ i =>
      have := ih i (by simpa using h)
      show (l.getD i cz).1.size ≤ _
      omega
set_option maxHeartbeats 4000000
set_option maxRecDepth 100000
theorem fitRow_ (v : Value) (r : Row) (W : Int) (w : World) (hT : Tabs w) (hr : RdRow w v r) (hn : r.length ≤ 1099511627776) (hsz : (rowL r).length ≤ 1099511627776) :
    Calls Tryd.prog 34 #[v, .int .i64 W] w fun e w' => e = .returned (.bool (fitRow r W)) ∧ Below w.heap.size w w' := by
  obtain ⟨res, hres⟩ : ∃ b, fitRow r W = b := ⟨_, rfl⟩
  rw [hres]
  unfold fitRow at hres
  obtain ⟨A, c, rfl, hc, hr⟩ := hr
  have HRR := Lib.hid hr
  have HT := Lib.hid hT
  clear hr hT
  by_cases hw : W < (r.length : Int)
  · rw [if_pos hw] at hres
    subst hres
    go_enter Tryd.func34, Tryd.ntmps34
    go_wp2
    go_ret
    exact ⟨rfl, Below.refl _ _⟩
  rw [if_neg hw] at hres
  have hw' : decide (W < (r.length : Int)) = false := decide_eq_false hw
  by_cases h0 : r.length = 0
  · have hr : r = [] := List.eq_nil_of_length_eq_zero h0
    subst hr
    have hres2 : true = res := by rw [← hres]; simp
    subst hres2
    clear hres
    have hw2 : decide (W < 0) = false := by simpa using hw'
    go_enter Tryd.func34, Tryd.ntmps34
    go_wp2
    go_loopg [29] 0 (fun k v5 w' => v5 = .int .i64 0 ∧ w' = w)
    case atStart => exact ⟨rfl, rfl⟩
    case round =>
      obtain ⟨rfl, rfl⟩ := hrel
      go_wp2
      go_ret
      exact ⟨rfl, Below.refl _ _⟩
  have hpos : (0 : Int) < (r.length : Int) := by omega
  have hd0 : decide ((0 : Int) < (r.length : Int)) = true := decide_eq_true hpos
  obtain ⟨g, off, rfl, hg, hcell⟩ := row_base HRR.out rfl (by omega)
  have hlast := hcell (r.length - 1) (by omega)
  obtain ⟨m, hm⟩ : ∃ m, r.length = m + 1 := ⟨r.length - 1, by omega⟩
  have hml : (r.length : Int) - 1 = (m : Int) := by omega
  have hmr : (m : Int) < (r.length : Int) := by omega
  obtain ⟨z0, z1⟩ := hlast
  rw [show r.length - 1 = m from by omega] at z0 z1 hres
  obtain ⟨z, hz⟩ : ∃ z, r.getD m cz = z := ⟨_, rfl⟩
  rw [hz] at z0 z1 hres
  have heq := fun w0 => eql_c w0 z cb
  unfold cagg at heq
  by_cases hzb : z = cb
  · rw [if_pos ⟨by omega, hzb⟩] at hres
    subst hres
    rw [decide_eq_true hzb] at heq
    have HZ := Lib.hid hzb
    clear hzb hz
    obtain ⟨zt, zn⟩ := z
    dsimp only at z0 z1 heq
    clear hcell
    go_enter Tryd.func34, Tryd.ntmps34
    go_wp2
    go_ret
    exact ⟨rfl, Below.refl _ _⟩
  rw [if_neg (fun h => hzb h.2)] at hres
  rw [decide_eq_false hzb] at heq
  have HRES := Lib.hid hres
  have HCL := Lib.hid hcell
  clear hzb hz hres hcell
  obtain ⟨zt, zn⟩ := z
  dsimp only at z0 z1 heq
  clear hm
  have hneq := fun x w0 => neq_c w0 x cz
  have HNQ := Lib.hid hneq
  clear hneq
  go_enter Tryd.func34, Tryd.ntmps34
  go_wp2
  clear heq z0 z1 hml hmr hpos hd0 hw' hw
  go_loopg [29] r.length (fun k v5 w' => ∃ i : Nat, v5 = .int .i64 i ∧ i + k = r.length ∧ Hid (∀ j, j < i → okCell r j = true) ∧ Hid (Below w.heap.size w w'))
  case atStart => exact ⟨0, rfl, by omega, Lib.hid (fun j hj => by omega), Lib.hid (Below.refl _ _)⟩
  case round =>
    obtain ⟨i, rfl, hik, HI, HW⟩ := hrel
    cases gk with
    | zero =>
      have e1 : decide ((i : Int) < (r.length : Int)) = false := decide_eq_false (by omega)
      have hr2 : true = res := by rw [← HRES.out]; exact (decide_eq_true (fun j hj => HI.out j (by omega))).symm
      subst hr2
      go_wp2
      go_ret
      exact ⟨rfl, HW.out⟩
    | succ k1 =>
      have hi : i < r.length := by omega
      have e1 : decide ((i : Int) < (r.length : Int)) = true := decide_eq_true (by omega)
      have hin : (i : Int) < (r.length : Int) := by omega
      have c0 := (HW.out.cell (p := ⟨g, off + i * 2, none⟩) hg).trans (HCL.out i hi).1
      have c1 := (HW.out.cell (p := ⟨g, off + i * 2 + 1, none⟩) hg).trans (HCL.out i hi).2
      have htx := text_le r i hi
      obtain ⟨x, hx⟩ : ∃ x, x = r.getD i cz := ⟨_, rfl⟩
      rw [← hx] at c0 c1 htx
      have HX := Lib.hid hx
      clear hx
      have hNo : okCell r i = false → false = res := fun h => by
        rw [← HRES.out]
        exact (decide_eq_false (fun hh => by have := hh i hi; rw [h] at this; cases this)).symm
      have HNO := Lib.hid hNo
      clear hNo
      have hYes : okCell r i = true → ∀ j, j < i + 1 → okCell r j = true := fun h j hj => by
        rcases Nat.lt_or_ge j i with hlt | hge
        · exact HI.out j hlt
        · obtain rfl : j = i := by omega
          exact h
      have HYES := Lib.hid hYes
      clear hYes
      have HTk := Lib.hid (fun w' (h : Below w.heap.size w w') => takes_ x.1 w' (HT.out.below h) (by omega))
      cases i with
      | zero =>
        simp only [Nat.zero_mul, Nat.add_zero] at c0 c1
        have HP : Hid (¬ (0 < 0 ∧ (r.getD (0 - 1) cz).2 = 2)) := Lib.hid (fun h => absurd h.1 (by decide))
        obtain ⟨t, n⟩ := x
        dsimp only at c0 c1 HTk htx
        obtain ⟨tk, htk⟩ : ∃ k, takes (L t) = k := ⟨_, rfl⟩
        rw [htk] at HTk
        have HOKE : Hid (okCell r 0 = decide (1 ≤ n ∧ n ≤ 2 ∧ tk = n ∧ ¬ (n = 2 ∧ 0 + 1 = r.length))) := Lib.hid (by unfold okCell; rw [if_neg HP.out, ← HX.out, ← htk])
        clear htk
        by_cases n1 : n < 1
        · have q1 : decide (n < 1) = true := decide_eq_true n1
          have hr2 := HNO.out (by rw [HOKE.out]; exact decide_eq_false (by omega))
          subst hr2
          (try clear n5)
          (try clear n4)
          (try clear n3)
          go_wp2
          obtain ⟨W1, hW1⟩ : ∃ W1, wr.alloc (.cells #[.string t, .int .i64 n] 32) = W1 := ⟨_, rfl⟩
          have HK := Lib.hid (Blk.new wr 32 #[.string t, .int .i64 n])
          have HWW := Lib.hid (HW.out.alloc HW.out.size (.cells #[.string t, .int .i64 n] 32))
          rw [hW1] at HK HWW ⊢
          clear hW1
          obtain ⟨ι, hι, Wf, hWf1, hWf2⟩ := world_class W1
          have g0 := fun j => (Blk.two (Blk.below HK.out (hWf1 j))).1
          have g1 := fun j => (Blk.two (Blk.below HK.out (hWf1 j))).2.1
          have Q1 : Hid (∀ j, Calls Tryd.prog 50 #[.string t] (Wf j) fun e w'' => e = .returned (.int .i64 tk) ∧ ∃ j, w'' = Wf j) := Lib.hid (fun j => (HTk.out _ (HWW.out.trans ((hWf1 j).mono HWW.out.size))).mono (fun e w1 h1 => ⟨h1.1, hWf2 _ ((hWf1 j).trans (h1.2.mono (hWf1 j).size))⟩))
          have HF1 := Lib.hid hWf1
          have hdr := hWf2 _ (show Below W1.heap.size W1 W1.drew from ⟨rfl, rfl, rfl, Nat.le_refl _, fun _ _ => rfl⟩)
          clear hWf1 hWf2
          refine region_class Wf (by kernel_rfl) (by kernel_rfl) hdr ?_
          clear hdr
          repeat (go_big_quiet_step (first | (go_at_call 50; with_reducible exact Q1.out _)))
          refine wpQuiet_nil ?_
          intro w9 hw9
          obtain ⟨j9, rfl⟩ := hw9
          go_wp2
          go_ret
          exact ⟨rfl, HWW.out.trans ((HF1.out j9).mono HWW.out.size)⟩
        have q1 : decide (n < 1) = false := decide_eq_false n1
        by_cases n2 : 2 < n
        · have q2 : decide (2 < n) = true := decide_eq_true n2
          have hr2 := HNO.out (by rw [HOKE.out]; exact decide_eq_false (by omega))
          subst hr2
          (try clear n5)
          (try clear n4)
          (try clear n3)
          go_wp2
          obtain ⟨W1, hW1⟩ : ∃ W1, wr.alloc (.cells #[.string t, .int .i64 n] 32) = W1 := ⟨_, rfl⟩
          have HK := Lib.hid (Blk.new wr 32 #[.string t, .int .i64 n])
          have HWW := Lib.hid (HW.out.alloc HW.out.size (.cells #[.string t, .int .i64 n] 32))
          rw [hW1] at HK HWW ⊢
          clear hW1
          obtain ⟨ι, hι, Wf, hWf1, hWf2⟩ := world_class W1
          have g0 := fun j => (Blk.two (Blk.below HK.out (hWf1 j))).1
          have g1 := fun j => (Blk.two (Blk.below HK.out (hWf1 j))).2.1
          have Q1 : Hid (∀ j, Calls Tryd.prog 50 #[.string t] (Wf j) fun e w'' => e = .returned (.int .i64 tk) ∧ ∃ j, w'' = Wf j) := Lib.hid (fun j => (HTk.out _ (HWW.out.trans ((hWf1 j).mono HWW.out.size))).mono (fun e w1 h1 => ⟨h1.1, hWf2 _ ((hWf1 j).trans (h1.2.mono (hWf1 j).size))⟩))
          have HF1 := Lib.hid hWf1
          have hdr := hWf2 _ (show Below W1.heap.size W1 W1.drew from ⟨rfl, rfl, rfl, Nat.le_refl _, fun _ _ => rfl⟩)
          clear hWf1 hWf2
          refine region_class Wf (by kernel_rfl) (by kernel_rfl) hdr ?_
          clear hdr
          repeat (go_big_quiet_step (first | (go_at_call 50; with_reducible exact Q1.out _)))
          refine wpQuiet_nil ?_
          intro w9 hw9
          obtain ⟨j9, rfl⟩ := hw9
          go_wp2
          go_ret
          exact ⟨rfl, HWW.out.trans ((HF1.out j9).mono HWW.out.size)⟩
        have q2 : decide (2 < n) = false := decide_eq_false n2
        by_cases n3 : tk = n
        · have q3 : (tk != n) = false := by rw [n3]; simp
          by_cases n4 : n = 2
          · have q4 : (n == 2) = true := by rw [beq_iff_eq]; exact n4
            by_cases n5 : ((0 : Nat) : Int) + 1 = (r.length : Int)
            · have q5 : (((0 : Nat) : Int) + 1 == (r.length : Int)) = true := by rw [beq_iff_eq]; exact n5
              have hr2 := HNO.out (by rw [HOKE.out]; exact decide_eq_false (by omega))
              subst hr2
              (try clear n5)
              (try clear n4)
              (try clear n3)
              go_wp2
              obtain ⟨W1, hW1⟩ : ∃ W1, wr.alloc (.cells #[.string t, .int .i64 n] 32) = W1 := ⟨_, rfl⟩
              have HK := Lib.hid (Blk.new wr 32 #[.string t, .int .i64 n])
              have HWW := Lib.hid (HW.out.alloc HW.out.size (.cells #[.string t, .int .i64 n] 32))
              rw [hW1] at HK HWW ⊢
              clear hW1
              obtain ⟨ι, hι, Wf, hWf1, hWf2⟩ := world_class W1
              have g0 := fun j => (Blk.two (Blk.below HK.out (hWf1 j))).1
              have g1 := fun j => (Blk.two (Blk.below HK.out (hWf1 j))).2.1
              have Q1 : Hid (∀ j, Calls Tryd.prog 50 #[.string t] (Wf j) fun e w'' => e = .returned (.int .i64 tk) ∧ ∃ j, w'' = Wf j) := Lib.hid (fun j => (HTk.out _ (HWW.out.trans ((hWf1 j).mono HWW.out.size))).mono (fun e w1 h1 => ⟨h1.1, hWf2 _ ((hWf1 j).trans (h1.2.mono (hWf1 j).size))⟩))
              have HF1 := Lib.hid hWf1
              have hdr := hWf2 _ (show Below W1.heap.size W1 W1.drew from ⟨rfl, rfl, rfl, Nat.le_refl _, fun _ _ => rfl⟩)
              clear hWf1 hWf2
              refine region_class Wf (by kernel_rfl) (by kernel_rfl) hdr ?_
              clear hdr
              repeat (go_big_quiet_step (first | (go_at_call 50; with_reducible exact Q1.out _)))
              refine wpQuiet_nil ?_
              intro w9 hw9
              obtain ⟨j9, rfl⟩ := hw9
              go_wp2
              go_ret
              exact ⟨rfl, HWW.out.trans ((HF1.out j9).mono HWW.out.size)⟩
            · have q5 : (((0 : Nat) : Int) + 1 == (r.length : Int)) = false := by rw [beq_eq_false_iff_ne]; exact n5
              have HOK := Lib.hid (HYES.out (by rw [HOKE.out]; exact decide_eq_true ⟨by omega, by omega, by omega, by omega⟩))
              (try clear n5)
              (try clear n4)
              (try clear n3)
              go_wp2
              obtain ⟨W1, hW1⟩ : ∃ W1, wr.alloc (.cells #[.string t, .int .i64 n] 32) = W1 := ⟨_, rfl⟩
              have HK := Lib.hid (Blk.new wr 32 #[.string t, .int .i64 n])
              have HWW := Lib.hid (HW.out.alloc HW.out.size (.cells #[.string t, .int .i64 n] 32))
              rw [hW1] at HK HWW ⊢
              clear hW1
              obtain ⟨ι, hι, Wf, hWf1, hWf2⟩ := world_class W1
              have g0 := fun j => (Blk.two (Blk.below HK.out (hWf1 j))).1
              have g1 := fun j => (Blk.two (Blk.below HK.out (hWf1 j))).2.1
              have Q1 : Hid (∀ j, Calls Tryd.prog 50 #[.string t] (Wf j) fun e w'' => e = .returned (.int .i64 tk) ∧ ∃ j, w'' = Wf j) := Lib.hid (fun j => (HTk.out _ (HWW.out.trans ((hWf1 j).mono HWW.out.size))).mono (fun e w1 h1 => ⟨h1.1, hWf2 _ ((hWf1 j).trans (h1.2.mono (hWf1 j).size))⟩))
              have HF1 := Lib.hid hWf1
              have hdr := hWf2 _ (show Below W1.heap.size W1 W1.drew from ⟨rfl, rfl, rfl, Nat.le_refl _, fun _ _ => rfl⟩)
              clear hWf1 hWf2
              refine region_class Wf (by kernel_rfl) (by kernel_rfl) hdr ?_
              clear hdr
              repeat (go_big_quiet_step (first | (go_at_call 50; with_reducible exact Q1.out _)))
              refine wpQuiet_nil ?_
              intro w9 hw9
              obtain ⟨j9, rfl⟩ := hw9
              go_wp2
              go_roundg k1
              case measure => omega
              case rel => exact ⟨0 + 1, by simp, by omega, HOK, Lib.hid (HWW.out.trans ((HF1.out j9).mono HWW.out.size))⟩
          · have q4 : (n == 2) = false := by rw [beq_eq_false_iff_ne]; exact n4
            have HOK := Lib.hid (HYES.out (by rw [HOKE.out]; exact decide_eq_true ⟨by omega, by omega, by omega, by omega⟩))
            (try clear n5)
            (try clear n4)
            (try clear n3)
            go_wp2
            obtain ⟨W1, hW1⟩ : ∃ W1, wr.alloc (.cells #[.string t, .int .i64 n] 32) = W1 := ⟨_, rfl⟩
            have HK := Lib.hid (Blk.new wr 32 #[.string t, .int .i64 n])
            have HWW := Lib.hid (HW.out.alloc HW.out.size (.cells #[.string t, .int .i64 n] 32))
            rw [hW1] at HK HWW ⊢
            clear hW1
            obtain ⟨ι, hι, Wf, hWf1, hWf2⟩ := world_class W1
            have g0 := fun j => (Blk.two (Blk.below HK.out (hWf1 j))).1
            have g1 := fun j => (Blk.two (Blk.below HK.out (hWf1 j))).2.1
            have Q1 : Hid (∀ j, Calls Tryd.prog 50 #[.string t] (Wf j) fun e w'' => e = .returned (.int .i64 tk) ∧ ∃ j, w'' = Wf j) := Lib.hid (fun j => (HTk.out _ (HWW.out.trans ((hWf1 j).mono HWW.out.size))).mono (fun e w1 h1 => ⟨h1.1, hWf2 _ ((hWf1 j).trans (h1.2.mono (hWf1 j).size))⟩))
            have HF1 := Lib.hid hWf1
            have hdr := hWf2 _ (show Below W1.heap.size W1 W1.drew from ⟨rfl, rfl, rfl, Nat.le_refl _, fun _ _ => rfl⟩)
            clear hWf1 hWf2
            refine region_class Wf (by kernel_rfl) (by kernel_rfl) hdr ?_
            clear hdr
            repeat (go_big_quiet_step (first | (go_at_call 50; with_reducible exact Q1.out _)))
            refine wpQuiet_nil ?_
            intro w9 hw9
            obtain ⟨j9, rfl⟩ := hw9
            go_wp2
            go_roundg k1
            case measure => omega
            case rel => exact ⟨0 + 1, by simp, by omega, HOK, Lib.hid (HWW.out.trans ((HF1.out j9).mono HWW.out.size))⟩
        · have q3 : (tk != n) = true := by rw [bne_iff_ne]; exact n3
          have hr2 := HNO.out (by rw [HOKE.out]; exact decide_eq_false (by omega))
          subst hr2
          (try clear n5)
          (try clear n4)
          (try clear n3)
          go_wp2
          obtain ⟨W1, hW1⟩ : ∃ W1, wr.alloc (.cells #[.string t, .int .i64 n] 32) = W1 := ⟨_, rfl⟩
          have HK := Lib.hid (Blk.new wr 32 #[.string t, .int .i64 n])
          have HWW := Lib.hid (HW.out.alloc HW.out.size (.cells #[.string t, .int .i64 n] 32))
          rw [hW1] at HK HWW ⊢
          clear hW1
          obtain ⟨ι, hι, Wf, hWf1, hWf2⟩ := world_class W1
          have g0 := fun j => (Blk.two (Blk.below HK.out (hWf1 j))).1
          have g1 := fun j => (Blk.two (Blk.below HK.out (hWf1 j))).2.1
          have Q1 : Hid (∀ j, Calls Tryd.prog 50 #[.string t] (Wf j) fun e w'' => e = .returned (.int .i64 tk) ∧ ∃ j, w'' = Wf j) := Lib.hid (fun j => (HTk.out _ (HWW.out.trans ((hWf1 j).mono HWW.out.size))).mono (fun e w1 h1 => ⟨h1.1, hWf2 _ ((hWf1 j).trans (h1.2.mono (hWf1 j).size))⟩))
          have HF1 := Lib.hid hWf1
          have hdr := hWf2 _ (show Below W1.heap.size W1 W1.drew from ⟨rfl, rfl, rfl, Nat.le_refl _, fun _ _ => rfl⟩)
          clear hWf1 hWf2
          refine region_class Wf (by kernel_rfl) (by kernel_rfl) hdr ?_
          clear hdr
          repeat (go_big_quiet_step (first | (go_at_call 50; with_reducible exact Q1.out _)))
          refine wpQuiet_nil ?_
          intro w9 hw9
          obtain ⟨j9, rfl⟩ := hw9
          go_wp2
          go_ret
          exact ⟨rfl, HWW.out.trans ((HF1.out j9).mono HWW.out.size)⟩
      | succ j =>
        have p1 := (HW.out.cell (p := ⟨g, off + j * 2 + 1, none⟩) hg).trans (HCL.out j (by omega)).2
        obtain ⟨y, hy⟩ : ∃ y, y = (r.getD j cz).2 := ⟨_, rfl⟩
        rw [← hy] at p1
        have jn : (j : Int) < (r.length : Int) := by omega
        have hgw : g < wr.heap.size := Nat.lt_of_lt_of_le hg HW.out.size
        have p1a : ∀ o : Obj, (wr.alloc o).cell? ⟨g, off + j * 2 + 1, none⟩ = some (.int .i64 y) := fun o => (World.cell?_alloc_lt wr o _ hgw).trans p1
        obtain ⟨i, hij⟩ : ∃ i, i = j + 1 := ⟨_, rfl⟩
        have hij1 : ((j + 1 : Nat) : Int) - 1 = (j : Int) := by omega
        by_cases hy2 : y = 2
        · have HP : Hid (0 < j + 1 ∧ (r.getD (j + 1 - 1) cz).2 = 2) := Lib.hid ⟨by omega, by rw [show j + 1 - 1 = j from rfl, ← hy]; exact hy2⟩
          have P1A := Lib.hid p1a
          subst hy2
          clear hy
          have hq := HNQ.out x
          unfold cagg at hq
          by_cases hd : x = cz
          · have hok : okCell r (j + 1) = true := by unfold okCell; rw [if_pos HP.out, ← HX.out]; exact decide_eq_true hd
            have HOK := Lib.hid (HYES.out hok)
            rw [decide_eq_true hd] at hq
            clear hok hd
            obtain ⟨t, n⟩ := x
            dsimp only at c0 c1 hq
            go_wp2
            go_roundg k1
            case measure => omega
            case rel => exact ⟨j + 1 + 1, by simp, by omega, HOK, Lib.hid (HW.out.alloc HW.out.size _)⟩
          · have hok : okCell r (j + 1) = false := by unfold okCell; rw [if_pos HP.out, ← HX.out]; exact decide_eq_false hd
            have hr2 := HNO.out hok
            rw [decide_eq_false hd] at hq
            clear hok hd
            subst hr2
            obtain ⟨t, n⟩ := x
            dsimp only at c0 c1 hq
            go_wp2
            go_ret
            exact ⟨rfl, HW.out.alloc HW.out.size _⟩

        · have HP : Hid (¬ (0 < j + 1 ∧ (r.getD (j + 1 - 1) cz).2 = 2)) := Lib.hid (fun h => hy2 (by rw [hy]; exact h.2))
          have hyb : (y == 2) = false := by rw [beq_eq_false_iff_ne]; exact hy2
          clear hy hy2
          obtain ⟨t, n⟩ := x
          dsimp only at c0 c1 HTk htx
          obtain ⟨tk, htk⟩ : ∃ k, takes (L t) = k := ⟨_, rfl⟩
          rw [htk] at HTk
          have HOKE : Hid (okCell r (j + 1) = decide (1 ≤ n ∧ n ≤ 2 ∧ tk = n ∧ ¬ (n = 2 ∧ j + 1 + 1 = r.length))) := Lib.hid (by unfold okCell; rw [if_neg HP.out, ← HX.out, ← htk])
          clear htk
          by_cases n1 : n < 1
          · have q1 : decide (n < 1) = true := decide_eq_true n1
            have hr2 := HNO.out (by rw [HOKE.out]; exact decide_eq_false (by omega))
            subst hr2
            (try clear n5)
            (try clear n4)
            (try clear n3)
            go_wp2
            obtain ⟨W1, hW1⟩ : ∃ W1, wr.alloc (.cells #[.string t, .int .i64 n] 32) = W1 := ⟨_, rfl⟩
            have HK := Lib.hid (Blk.new wr 32 #[.string t, .int .i64 n])
            have HWW := Lib.hid (HW.out.alloc HW.out.size (.cells #[.string t, .int .i64 n] 32))
            rw [hW1] at HK HWW ⊢
            clear hW1
            obtain ⟨ι, hι, Wf, hWf1, hWf2⟩ := world_class W1
            have g0 := fun j => (Blk.two (Blk.below HK.out (hWf1 j))).1
            have g1 := fun j => (Blk.two (Blk.below HK.out (hWf1 j))).2.1
            have Q1 : Hid (∀ j, Calls Tryd.prog 50 #[.string t] (Wf j) fun e w'' => e = .returned (.int .i64 tk) ∧ ∃ j, w'' = Wf j) := Lib.hid (fun j => (HTk.out _ (HWW.out.trans ((hWf1 j).mono HWW.out.size))).mono (fun e w1 h1 => ⟨h1.1, hWf2 _ ((hWf1 j).trans (h1.2.mono (hWf1 j).size))⟩))
            have HF1 := Lib.hid hWf1
            have hdr := hWf2 _ (show Below W1.heap.size W1 W1.drew from ⟨rfl, rfl, rfl, Nat.le_refl _, fun _ _ => rfl⟩)
            clear hWf1 hWf2
            refine region_class Wf (by kernel_rfl) (by kernel_rfl) hdr ?_
            clear hdr
            repeat (go_big_quiet_step (first | (go_at_call 50; with_reducible exact Q1.out _)))
            refine wpQuiet_nil ?_
            intro w9 hw9
            obtain ⟨j9, rfl⟩ := hw9
            go_wp2
            go_ret
            exact ⟨rfl, HWW.out.trans ((HF1.out j9).mono HWW.out.size)⟩
          have q1 : decide (n < 1) = false := decide_eq_false n1
          by_cases n2 : 2 < n
          · have q2 : decide (2 < n) = true := decide_eq_true n2
            have hr2 := HNO.out (by rw [HOKE.out]; exact decide_eq_false (by omega))
            subst hr2
            (try clear n5)
            (try clear n4)
            (try clear n3)
            go_wp2
            obtain ⟨W1, hW1⟩ : ∃ W1, wr.alloc (.cells #[.string t, .int .i64 n] 32) = W1 := ⟨_, rfl⟩
            have HK := Lib.hid (Blk.new wr 32 #[.string t, .int .i64 n])
            have HWW := Lib.hid (HW.out.alloc HW.out.size (.cells #[.string t, .int .i64 n] 32))
            rw [hW1] at HK HWW ⊢
            clear hW1
            obtain ⟨ι, hι, Wf, hWf1, hWf2⟩ := world_class W1
            have g0 := fun j => (Blk.two (Blk.below HK.out (hWf1 j))).1
            have g1 := fun j => (Blk.two (Blk.below HK.out (hWf1 j))).2.1
            have Q1 : Hid (∀ j, Calls Tryd.prog 50 #[.string t] (Wf j) fun e w'' => e = .returned (.int .i64 tk) ∧ ∃ j, w'' = Wf j) := Lib.hid (fun j => (HTk.out _ (HWW.out.trans ((hWf1 j).mono HWW.out.size))).mono (fun e w1 h1 => ⟨h1.1, hWf2 _ ((hWf1 j).trans (h1.2.mono (hWf1 j).size))⟩))
            have HF1 := Lib.hid hWf1
            have hdr := hWf2 _ (show Below W1.heap.size W1 W1.drew from ⟨rfl, rfl, rfl, Nat.le_refl _, fun _ _ => rfl⟩)
            clear hWf1 hWf2
            refine region_class Wf (by kernel_rfl) (by kernel_rfl) hdr ?_
            clear hdr
            repeat (go_big_quiet_step (first | (go_at_call 50; with_reducible exact Q1.out _)))
            refine wpQuiet_nil ?_
            intro w9 hw9
            obtain ⟨j9, rfl⟩ := hw9
            go_wp2
            go_ret
            exact ⟨rfl, HWW.out.trans ((HF1.out j9).mono HWW.out.size)⟩
          have q2 : decide (2 < n) = false := decide_eq_false n2
          by_cases n3 : tk = n
          · have q3 : (tk != n) = false := by rw [n3]; simp
            by_cases n4 : n = 2
            · have q4 : (n == 2) = true := by rw [beq_iff_eq]; exact n4
              by_cases n5 : ((j + 1 : Nat) : Int) + 1 = (r.length : Int)
              · have q5 : (((j + 1 : Nat) : Int) + 1 == (r.length : Int)) = true := by rw [beq_iff_eq]; exact n5
                have hr2 := HNO.out (by rw [HOKE.out]; exact decide_eq_false (by omega))
                subst hr2
                (try clear n5)
                (try clear n4)
                (try clear n3)
                go_wp2
                obtain ⟨W1, hW1⟩ : ∃ W1, wr.alloc (.cells #[.string t, .int .i64 n] 32) = W1 := ⟨_, rfl⟩
                have HK := Lib.hid (Blk.new wr 32 #[.string t, .int .i64 n])
                have HWW := Lib.hid (HW.out.alloc HW.out.size (.cells #[.string t, .int .i64 n] 32))
                rw [hW1] at HK HWW ⊢
                clear hW1
                obtain ⟨ι, hι, Wf, hWf1, hWf2⟩ := world_class W1
                have g0 := fun j => (Blk.two (Blk.below HK.out (hWf1 j))).1
                have g1 := fun j => (Blk.two (Blk.below HK.out (hWf1 j))).2.1
                have Q1 : Hid (∀ j, Calls Tryd.prog 50 #[.string t] (Wf j) fun e w'' => e = .returned (.int .i64 tk) ∧ ∃ j, w'' = Wf j) := Lib.hid (fun j => (HTk.out _ (HWW.out.trans ((hWf1 j).mono HWW.out.size))).mono (fun e w1 h1 => ⟨h1.1, hWf2 _ ((hWf1 j).trans (h1.2.mono (hWf1 j).size))⟩))
                have HF1 := Lib.hid hWf1
                have hdr := hWf2 _ (show Below W1.heap.size W1 W1.drew from ⟨rfl, rfl, rfl, Nat.le_refl _, fun _ _ => rfl⟩)
                clear hWf1 hWf2
                refine region_class Wf (by kernel_rfl) (by kernel_rfl) hdr ?_
                clear hdr
                repeat (go_big_quiet_step (first | (go_at_call 50; with_reducible exact Q1.out _)))
                refine wpQuiet_nil ?_
                intro w9 hw9
                obtain ⟨j9, rfl⟩ := hw9
                go_wp2
                go_ret
                exact ⟨rfl, HWW.out.trans ((HF1.out j9).mono HWW.out.size)⟩
              · have q5 : (((j + 1 : Nat) : Int) + 1 == (r.length : Int)) = false := by rw [beq_eq_false_iff_ne]; exact n5
                have HOK := Lib.hid (HYES.out (by rw [HOKE.out]; exact decide_eq_true ⟨by omega, by omega, by omega, by omega⟩))
                (try clear n5)
                (try clear n4)
                (try clear n3)
                go_wp2
                obtain ⟨W1, hW1⟩ : ∃ W1, wr.alloc (.cells #[.string t, .int .i64 n] 32) = W1 := ⟨_, rfl⟩
                have HK := Lib.hid (Blk.new wr 32 #[.string t, .int .i64 n])
                have HWW := Lib.hid (HW.out.alloc HW.out.size (.cells #[.string t, .int .i64 n] 32))
                rw [hW1] at HK HWW ⊢
                clear hW1
                obtain ⟨ι, hι, Wf, hWf1, hWf2⟩ := world_class W1
                have g0 := fun j => (Blk.two (Blk.below HK.out (hWf1 j))).1
                have g1 := fun j => (Blk.two (Blk.below HK.out (hWf1 j))).2.1
                have Q1 : Hid (∀ j, Calls Tryd.prog 50 #[.string t] (Wf j) fun e w'' => e = .returned (.int .i64 tk) ∧ ∃ j, w'' = Wf j) := Lib.hid (fun j => (HTk.out _ (HWW.out.trans ((hWf1 j).mono HWW.out.size))).mono (fun e w1 h1 => ⟨h1.1, hWf2 _ ((hWf1 j).trans (h1.2.mono (hWf1 j).size))⟩))
                have HF1 := Lib.hid hWf1
                have hdr := hWf2 _ (show Below W1.heap.size W1 W1.drew from ⟨rfl, rfl, rfl, Nat.le_refl _, fun _ _ => rfl⟩)
                clear hWf1 hWf2
                refine region_class Wf (by kernel_rfl) (by kernel_rfl) hdr ?_
                clear hdr
                repeat (go_big_quiet_step (first | (go_at_call 50; with_reducible exact Q1.out _)))
                refine wpQuiet_nil ?_
                intro w9 hw9
                obtain ⟨j9, rfl⟩ := hw9
                go_wp2
                go_roundg k1
                case measure => omega
                case rel => exact ⟨j + 1 + 1, by simp, by omega, HOK, Lib.hid (HWW.out.trans ((HF1.out j9).mono HWW.out.size))⟩
            · have q4 : (n == 2) = false := by rw [beq_eq_false_iff_ne]; exact n4
              have HOK := Lib.hid (HYES.out (by rw [HOKE.out]; exact decide_eq_true ⟨by omega, by omega, by omega, by omega⟩))
              (try clear n5)
              (try clear n4)
              (try clear n3)
              go_wp2
              obtain ⟨W1, hW1⟩ : ∃ W1, wr.alloc (.cells #[.string t, .int .i64 n] 32) = W1 := ⟨_, rfl⟩
              have HK := Lib.hid (Blk.new wr 32 #[.string t, .int .i64 n])
              have HWW := Lib.hid (HW.out.alloc HW.out.size (.cells #[.string t, .int .i64 n] 32))
              rw [hW1] at HK HWW ⊢
              clear hW1
              obtain ⟨ι, hι, Wf, hWf1, hWf2⟩ := world_class W1
              have g0 := fun j => (Blk.two (Blk.below HK.out (hWf1 j))).1
              have g1 := fun j => (Blk.two (Blk.below HK.out (hWf1 j))).2.1
              have Q1 : Hid (∀ j, Calls Tryd.prog 50 #[.string t] (Wf j) fun e w'' => e = .returned (.int .i64 tk) ∧ ∃ j, w'' = Wf j) := Lib.hid (fun j => (HTk.out _ (HWW.out.trans ((hWf1 j).mono HWW.out.size))).mono (fun e w1 h1 => ⟨h1.1, hWf2 _ ((hWf1 j).trans (h1.2.mono (hWf1 j).size))⟩))
              have HF1 := Lib.hid hWf1
              have hdr := hWf2 _ (show Below W1.heap.size W1 W1.drew from ⟨rfl, rfl, rfl, Nat.le_refl _, fun _ _ => rfl⟩)
              clear hWf1 hWf2
              refine region_class Wf (by kernel_rfl) (by kernel_rfl) hdr ?_
              clear hdr
              repeat (go_big_quiet_step (first | (go_at_call 50; with_reducible exact Q1.out _)))
              refine wpQuiet_nil ?_
              intro w9 hw9
              obtain ⟨j9, rfl⟩ := hw9
              go_wp2
              go_roundg k1
              case measure => omega
              case rel => exact ⟨j + 1 + 1, by simp, by omega, HOK, Lib.hid (HWW.out.trans ((HF1.out j9).mono HWW.out.size))⟩
          · have q3 : (tk != n) = true := by rw [bne_iff_ne]; exact n3
            have hr2 := HNO.out (by rw [HOKE.out]; exact decide_eq_false (by omega))
            subst hr2
            (try clear n5)
            (try clear n4)
            (try clear n3)
            go_wp2
            obtain ⟨W1, hW1⟩ : ∃ W1, wr.alloc (.cells #[.string t, .int .i64 n] 32) = W1 := ⟨_, rfl⟩
            have HK := Lib.hid (Blk.new wr 32 #[.string t, .int .i64 n])
            have HWW := Lib.hid (HW.out.alloc HW.out.size (.cells #[.string t, .int .i64 n] 32))
            rw [hW1] at HK HWW ⊢
            clear hW1
            obtain ⟨ι, hι, Wf, hWf1, hWf2⟩ := world_class W1
            have g0 := fun j => (Blk.two (Blk.below HK.out (hWf1 j))).1
            have g1 := fun j => (Blk.two (Blk.below HK.out (hWf1 j))).2.1
            have Q1 : Hid (∀ j, Calls Tryd.prog 50 #[.string t] (Wf j) fun e w'' => e = .returned (.int .i64 tk) ∧ ∃ j, w'' = Wf j) := Lib.hid (fun j => (HTk.out _ (HWW.out.trans ((hWf1 j).mono HWW.out.size))).mono (fun e w1 h1 => ⟨h1.1, hWf2 _ ((hWf1 j).trans (h1.2.mono (hWf1 j).size))⟩))
            have HF1 := Lib.hid hWf1
            have hdr := hWf2 _ (show Below W1.heap.size W1 W1.drew from ⟨rfl, rfl, rfl, Nat.le_refl _, fun _ _ => rfl⟩)
            clear hWf1 hWf2
            refine region_class Wf (by kernel_rfl) (by kernel_rfl) hdr ?_
            clear hdr
            repeat (go_big_quiet_step (first | (go_at_call 50; with_reducible exact Q1.out _)))
            refine wpQuiet_nil ?_
            intro w9 hw9
            obtain ⟨j9, rfl⟩ := hw9
            go_wp2
            go_ret
            exact ⟨rfl, HWW.out.trans ((HF1.out j9).mono HWW.out.size)⟩
end U
end Go.Proofs.YtceomobdolkfgaaDoor
/- paint.Fit and paint.Full. -/
set_option linter.unusedVariables false
namespace Go.Proofs.YtceomobdolkfgaaDoor
open Go.RowKit Go.Proofs.YtceomobdolkfgaaDoorW.PrintWords Go.Proofs.YtceomobdolkfgaaDoor.Sep
namespace U
/-- May the frame be painted? -/
def fit (W : Int) (rs : List Row) (cr cc : Int) : Bool :=
  if W < 1 ∨ 65535 < W ∨ rs.length = 0 then false
  else if ∀ i, i < rs.length → fitRow (rs.getD i []) W = true then decide (0 ≤ cr ∧ cr < rs.length ∧ 0 ≤ cc ∧ cc < W) else false
/-- The first n rows, painted. -/
def rowsP (rs : List Row) (n : Nat) : Bs := (List.range n).flatMap fun i => if 0 < (rs.getD i []).length then gotoL i 0 ++ rowL (rs.getD i []) else []
def fullL (W : Int) (rs : List Row) (cr cc : Int) : Bs := if fit W rs cr cc = true then [27, 91, 109, 27, 91, 72, 27, 91, 74] ++ rowsP rs rs.length ++ gotoL cr cc else []
theorem rowsP_succ (rs : List Row) (n : Nat) : rowsP rs (n + 1) = rowsP rs n ++ (if 0 < (rs.getD n []).length then gotoL n 0 ++ rowL (rs.getD n []) else []) := by
  unfold rowsP
  rw [List.range_succ, List.flatMap_append]
  show _ ++ (_ ++ []) = _
  rw [List.append_nil]
theorem rowsP_le (rs : List Row) (n : Nat) : ∀ m, (rowsP rs n).length ≤ (rowsP rs (n + m)).length
  | 0 => Nat.le_refl _
  | m + 1 => by
    have := rowsP_le rs n m
    rw [← Nat.add_assoc, rowsP_succ, List.length_append]
    omega
/-- A frame, as a value. -/
def fcells (W : Int) (v : Value) (cr cc : Int) : List Value := [.int .i64 W, v, .int .i64 cr, .int .i64 cc]
/-- Each row's size is within reach. -/
def RowsOk (rs : List Row) : Prop := rs.length ≤ 1099511627776 ∧ ∀ i, i < rs.length → (rs.getD i []).length ≤ 1099511627776 ∧ (rowL (rs.getD i [])).length ≤ 1099511627776
set_option maxHeartbeats 4000000
set_option maxRecDepth 100000
theorem fit_ (W : Int) (v : Value) (cr cc : Int) (rs : List Row) (w : World) (hT : Tabs w) (hr : RdRows w v rs) (hok : RowsOk rs) :
    Calls Tryd.prog 13 #[.agg #[.int .i64 W, v, .int .i64 cr, .int .i64 cc]] w fun e w' => e = .returned (.bool (fit W rs cr cc)) ∧ Below w.heap.size w w' := by
  obtain ⟨res, hres⟩ : ∃ b, fit W rs cr cc = b := ⟨_, rfl⟩
  rw [hres]
  unfold fit at hres
  have HT := Lib.hid hT
  obtain ⟨A, c, vs, rfl, hc, hrd, hrow⟩ := hr
  have HRD := Lib.hid hrd
  have HROW := Lib.hid hrow
  have HOK := Lib.hid hok
  clear hT hrd hrow
  by_cases h1 : W < 1
  · rw [if_pos (.inl h1)] at hres
    subst hres
    go_enter Tryd.func13, Tryd.ntmps13
    go_wp2
    go_ret
    exact ⟨rfl, below_one _ _⟩
  by_cases h2 : 65535 < W
  · rw [if_pos (.inr (.inl h2))] at hres
    subst hres
    go_enter Tryd.func13, Tryd.ntmps13
    go_wp2
    go_ret
    exact ⟨rfl, below_one _ _⟩
  by_cases h3 : rs.length = 0
  · rw [if_pos (.inr (.inr h3))] at hres
    subst hres
    have h3b : ((rs.length : Int) == 0) = true := by rw [beq_iff_eq]; omega
    have d1 : decide (W < 1) = false := decide_eq_false h1
    have d2 : decide (65535 < W) = false := decide_eq_false h2
    go_enter Tryd.func13, Tryd.ntmps13
    go_wp2
    go_ret
    exact ⟨rfl, below_one _ _⟩
  rw [if_neg (by omega)] at hres
  have h3b : ((rs.length : Int) == 0) = false := by rw [beq_eq_false_iff_ne]; omega
  have d1 : decide (W < 1) = false := decide_eq_false h1
  have d2 : decide (65535 < W) = false := decide_eq_false h2
  have HRES := Lib.hid hres
  clear hres
  have hl := hok.1
  clear hok
  go_enter Tryd.func13, Tryd.ntmps13
  go_wp2
  have HK := Lib.hid (Blk.new w 28 #[.int .i64 W, .slice A rs.length c, .int .i64 cr, .int .i64 cc])
  obtain ⟨W1, hW1⟩ : ∃ W1, w.alloc (.cells #[.int .i64 W, .slice A rs.length c, .int .i64 cr, .int .i64 cc] 28) = W1 := ⟨_, rfl⟩
  have HB0 := Lib.hid (below_one w (.cells #[.int .i64 W, .slice A rs.length c, .int .i64 cr, .int .i64 cc] 28))
  rw [hW1] at HK HB0 ⊢
  clear hW1 d1 d2 h3b
  go_loopg [23] rs.length (fun k v5 w' => ∃ i : Nat, v5 = .int .i64 i ∧ i + k = rs.length ∧ Hid (∀ j, j < i → fitRow (rs.getD j []) W = true) ∧ Hid (Below W1.heap.size W1 w'))
  case atStart => exact ⟨0, rfl, by omega, Lib.hid (fun j hj => by omega), Lib.hid (Below.refl _ _)⟩
  case round =>
    obtain ⟨i, rfl, hik, HI, HW⟩ := hrel
    obtain ⟨f0, f1, f2, f3, -⟩ := Blk.four (Blk.below HK.out HW.out)
    have HBW := Lib.hid (HB0.out.trans (HW.out.mono HB0.out.size))
    have hlt2 : w.heap.size < wr.heap.size := (Blk.below HK.out HW.out).lt
    cases gk with
    | zero =>
      have e1 : decide ((i : Int) < (rs.length : Int)) = false := decide_eq_false (by omega)
      have hr2 : decide (0 ≤ cr ∧ cr < (rs.length : Int) ∧ 0 ≤ cc ∧ cc < W) = res := by
        rw [← HRES.out, if_pos (fun j hj => HI.out j (by omega))]
      have HR2 := Lib.hid hr2
      clear hr2
      go_wp2
      all_goals go_ret
      all_goals refine ⟨?_, HBW.out.alloc HBW.out.size _⟩
      all_goals rw [← HR2.out]
      all_goals simp [*]
      all_goals omega
    | succ k1 =>
      have hi : i < rs.length := by omega
      have e1 : decide ((i : Int) < (rs.length : Int)) = true := decide_eq_true (by omega)
      have hin : (i : Int) < (rs.length : Int) := by omega
      obtain ⟨g, off, rfl, hg, hcell⟩ := rows_base HRD.out (by omega)
      have c0 := (HBW.out.cell (p := ⟨g, off + i, none⟩) hg).trans (hcell i hi)
      have hrow := HROW.out i hi
      have HFR := Lib.hid (fitRow_ _ _ W wr (HT.out.below HBW.out) (hrow.below HBW.out) (HOK.out.2 i hi).1 (HOK.out.2 i hi).2)
      obtain ⟨q, hq⟩ : ∃ q, rs.getD i [] = q := ⟨_, rfl⟩
      rw [hq] at HFR hrow
      obtain ⟨A', c', hv, -, -⟩ := hrow
      rw [hv] at HFR c0
      have HQQ := Lib.hid hq
      clear hcell hv hq
      cases hb : fitRow q W with
      | false =>
        rw [hb] at HFR
        have hr2 : false = res := by
          rw [← HRES.out, if_neg (fun h => by have := h i hi; rw [HQQ.out, hb] at this; cases this)]
        subst hr2
        clear hb
        go_wp2_with (go_at_call 34; refine HFR.out.mono ?_; rintro e w2 ⟨rfl, hq⟩; have HQ := Lib.hid hq; clear hq)
        go_ret
        exact ⟨rfl, below_then HBW.out HQ.out⟩
      | true =>
        rw [hb] at HFR
        have HB := Lib.hid hb
        clear hb
        go_wp2_with (go_at_call 34; refine HFR.out.mono ?_; rintro e w2 ⟨rfl, hq⟩; have HQ := Lib.hid hq; clear hq)
        go_roundg k1
        case measure => omega
        case rel =>
          refine ⟨i + 1, by simp, by omega, Lib.hid (fun j hj => ?_), Lib.hid (below_then HW.out HQ.out)⟩
          rcases Nat.lt_or_ge j i with hlt | hge
          · exact HI.out j hlt
          · obtain rfl : j = i := by omega
            rw [HQQ.out]; exact HB.out
theorem goto_len (r c : Int) : (S (gotoL r c)).size ≤ 26 := by
  have h1 := one_len r
  have h2 := one_len c
  rw [S_size] at h1 h2 ⊢
  unfold gotoL
  simp only [List.length_append, List.length_cons, List.length_nil]
  omega
theorem bc_app (a : Bs) (s : ByteArray) : Lib.byteCells a ++ Lib.strCells s = Lib.byteCells (a ++ L s) := by rw [Lib.byteCells_append]; rfl
theorem builder_below {T e : TypeId} {B b : Nat} {bs : List Value} {w w' : World} (h : Lib.IsBuilderF T e B b bs w) (hb : Below w.heap.size w w') : Lib.IsBuilderF T e B b bs w' :=
  builder_own T e B b (fun (_ : Unit) => bs) () w w' none h (below_grown hb none) (fun r e => by cases e)
theorem full_ (W : Int) (v : Value) (cr cc : Int) (rs : List Row) (w : World) (hE : Env w) (hr : RdRows w v rs) (hok : RowsOk rs) (hsz : (rowsP rs rs.length).length ≤ 1099511627776) :
    Calls Tryd.prog 5 #[.agg #[.int .i64 W, v, .int .i64 cr, .int .i64 cc]] w fun e w' => e = .returned (.string (S (fullL W rs cr cc))) ∧ Below w.heap.size w w' := by
  obtain ⟨res, hres⟩ : ∃ b, fit W rs cr cc = b := ⟨_, rfl⟩
  have HF := Lib.hid (fun w' (h : Below w.heap.size w w') => fit_ W v cr cc rs w' (hE.tabs.below h) (hr.below h) hok)
  rw [hres] at HF
  have HE := Lib.hid hE
  have HFU : Hid (S (fullL W rs cr cc) = S (if res = true then [27, 91, 109, 27, 91, 72, 27, 91, 74] ++ rowsP rs rs.length ++ gotoL cr cc else [])) := Lib.hid (by unfold fullL; rw [hres])
  obtain ⟨A, c, vs, rfl, hc, hrd, hrow⟩ := hr
  have HRD := Lib.hid hrd
  have HROW := Lib.hid hrow
  have HOK := Lib.hid hok
  have hl := hok.1
  clear hE hrd hrow hres hok
  have HK := Lib.hid (Blk.new w 28 #[.int .i64 W, .slice A rs.length c, .int .i64 cr, .int .i64 cc])
  have HB0 := Lib.hid (below_one w (.cells #[.int .i64 W, .slice A rs.length c, .int .i64 cr, .int .i64 cc] 28))
  cases res with
  | false =>
    go_enter Tryd.func5, Tryd.ntmps5
    go_wp2_with (go_at_call 13; refine (HF.out _ HB0.out).mono ?_; rintro e w2 ⟨rfl, hq⟩; have HQ := Lib.hid hq; clear hq)
    go_ret
    exact ⟨by rw [HFU.out]; rfl, below_then HB0.out HQ.out⟩
  | true =>
    go_enter Tryd.func5, Tryd.ntmps5
    go_wp2_with (first
      | (go_at_call 13; refine (HF.out _ HB0.out).mono ?_; rintro e w2 ⟨rfl, hq⟩; have HQ := Lib.hid (below_then HB0.out hq); have HK2 := Lib.hid (Blk.below HK.out hq); obtain ⟨f0, f1, f2, f3, -⟩ := Blk.four HK2.out; have HI0 := Lib.hid (builder_nil 54 5 w2.heap.size w2.heap.size (w2.alloc (.cells #[.pointer none, .slice none 0 0] 54)) (Nat.le_refl _) (Blk.new w2 _ _)); have hlen0 : ([] : List Value).length + (⟨#[27, 91, 109, 27, 91, 72, 27, 91, 74]⟩ : ByteArray).size ≤ 140737488355328 := (by decide); have hB0 : w2.heap.size ≤ (w2.alloc (.cells #[.pointer none, .slice none 0 0] 54)).heap.size := (by simp); clear hq)
      | (go_at_call 14; refine (Tryd.Builder_WriteString_k w2.heap.size w2.heap.size _ _ _ HI0.out hlen0 hB0).mono ?_; clear HI0; rintro e w3 ⟨rfl, hat, hbel, hoth⟩; have HAT := Lib.hid hat; have HBE := Lib.hid (below_then HQ.out ((below_one w2 (.cells #[.pointer none, .slice none 0 0] 54)).trans hbel)); have hk3 := (HK2.out.alloc (.cells #[.pointer none, .slice none 0 0] 54)).keep (hbel.block _ HK2.out.lt); have HK3 := Lib.hid hk3; obtain ⟨kk0, kk1, kk2, kk3, -⟩ := Blk.four hk3; clear hat hbel hoth hk3))
    obtain ⟨Bd, hBd⟩ : ∃ b, w2.heap.size = b := ⟨_, rfl⟩
    have hwB : w.heap.size < Bd := by rw [← hBd]; exact HK2.out.lt
    have hwb := HQ.out.size
    rw [hBd] at HAT hwb ⊢
    have hB3 : Bd < w3.heap.size := by
      obtain ⟨_, v, hb, _⟩ := HAT.out
      exact (Array.getElem?_eq_some_iff.1 hb).1
    have H3E := Lib.hid (HE.out.below HBE.out)
    clear f0 f1 f2 f3 hlen0 hB0 HK2 HQ HB0 HK hBd
    go_loopg [13] rs.length (fun k v5 w' => ∃ i : Nat, v5 = .int .i64 i ∧ i + k = rs.length ∧ Hid (Lib.IsBuilderF 54 5 Bd Bd (Lib.byteCells ([27, 91, 109, 27, 91, 72, 27, 91, 74] ++ rowsP rs i)) w') ∧ Hid (Below Bd w3 w'))
    case atStart => exact ⟨0, rfl, by omega, Lib.hid (.inr HAT.out), Lib.hid (Below.refl _ _)⟩
    case round =>
      obtain ⟨i, rfl, hik, HI, HW⟩ := hrel
      have hkeep : ∀ j, wr.cell? ⟨w.heap.size, j, none⟩ = w3.cell? ⟨w.heap.size, j, none⟩ := fun j => HW.out.cell (p := ⟨w.heap.size, j, none⟩) hwB
      have r1 := (hkeep 1).trans kk1
      have r2 := (hkeep 2).trans kk2
      have r3 := (hkeep 3).trans kk3
      have HBW := Lib.hid (HBE.out.trans (HW.out.mono hwb))
      have hBr : Bd ≤ wr.heap.size := Nat.le_trans (Nat.le_of_lt hB3) HW.out.size
      clear hkeep HAT
      cases gk with
      | zero =>
        have e1 : decide ((i : Int) < (rs.length : Int)) = false := decide_eq_false (by omega)
        obtain rfl : i = rs.length := by omega
        have g26 := goto_len cr cc
        have HG := Lib.hid (goto_ cr cc wr (HE.out.below HBW.out))
        go_wp2_with (first
          | (go_at_call 15; refine HG.out.mono ?_; rintro e w4 ⟨rfl, hq⟩; have HB4 := Lib.hid (HBW.out.trans (hq.mono HBW.out.size)); have HI4 := Lib.hid (builder_below HI.out hq); have hb4 : Bd ≤ w4.heap.size := Nat.le_trans hBr hq.size; have hl4 : (Lib.byteCells ([27, 91, 109, 27, 91, 72, 27, 91, 74] ++ rowsP rs rs.length)).length + (S (gotoL cr cc)).size ≤ 140737488355328 := (by rw [Lib.byteCells_length, List.length_append]; show 9 + _ + _ ≤ _; omega); clear hq)
          | (go_at_call 14; refine (Tryd.Builder_WriteString_k Bd Bd _ _ _ HI4.out hl4 hb4).mono ?_; rintro e w5 ⟨rfl, hat, hbel, hoth⟩; rw [bc_app, L_S] at hat; have HI5 := Lib.hid (show Lib.IsBuilderF 54 5 Bd Bd _ w5 from .inr hat); have HB5 := Lib.hid (HB4.out.trans (hbel.mono hwb)); have hb5 : Bd ≤ w5.heap.size := Nat.le_trans hb4 hbel.size; clear hat hbel hoth)
          | (go_at_call 17; refine (Tryd.Builder_String_any_f Bd Bd _ _ HI5.out hb5).mono ?_; rintro e w6 ⟨rfl, hif, hbel⟩; have HB6 := Lib.hid (HB5.out.trans (hbel.mono hwb)); clear hif hbel))
        go_ret
        exact ⟨by rw [HFU.out]; rfl, HB6.out⟩
      | succ k1 =>
        have hi : i < rs.length := by omega
        have e1 : decide ((i : Int) < (rs.length : Int)) = true := decide_eq_true (by omega)
        have hin : (i : Int) < (rs.length : Int) := by omega
        obtain ⟨g, off, rfl, hg, hcell⟩ := rows_base HRD.out (by omega)
        have c0 := (HBW.out.cell (p := ⟨g, off + i, none⟩) hg).trans (hcell i hi)
        have hrow := HROW.out i hi
        have hro := HOK.out.2 i hi
        have hle : (rowsP rs (i + 1)).length ≤ (rowsP rs rs.length).length := by
          have := rowsP_le rs (i + 1) (rs.length - (i + 1))
          rwa [show i + 1 + (rs.length - (i + 1)) = rs.length from by omega] at this
        have hsu := rowsP_succ rs i
        obtain ⟨q, hq⟩ : ∃ q, rs.getD i [] = q := ⟨_, rfl⟩
        rw [hq] at hrow hro hsu
        have HRW := Lib.hid (fun w' (h : Below wr.heap.size wr w') => row_ _ q w' ((hrow.below HBW.out).below h) hro.1 hro.2)
        obtain ⟨A', c', hv, -, -⟩ := hrow
        rw [hv] at HRW c0
        clear hcell hv hq
        by_cases h0 : 0 < q.length
        · rw [if_pos h0] at hsu
          have HSU := Lib.hid hsu
          have d0 : decide ((0 : Int) < (q.length : Int)) = true := decide_eq_true (by omega)
          have g26 := goto_len i 0
          have g27 : (S (rowL q)).size = (rowL q).length := S_size _
          have HG := Lib.hid (goto_ i 0 wr (HE.out.below HBW.out))
          rw [hsu, List.length_append, List.length_append] at hle
          have g28 : (S (gotoL i 0)).size = (gotoL i 0).length := S_size _
          have g29 : ¬ 9223372036854775807 < (S (gotoL i 0)).size + (S (rowL q)).size := by omega
          clear hsu
          go_wp2_with (first
            | (go_at_call 15; refine HG.out.mono ?_; rintro e w4 ⟨rfl, hq⟩; have HQ4 := Lib.hid hq; clear hq)
            | (go_at_call 16; refine (HRW.out _ HQ4.out).mono ?_; rintro e w5 ⟨rfl, hq⟩; have hq2 := below_then HQ4.out hq; have HI5 := Lib.hid (builder_below HI.out hq2); have HW5 := Lib.hid (HW.out.trans (hq2.mono hBr)); have hb5 : Bd ≤ w5.heap.size := Nat.le_trans hBr hq2.size; have hl5 : (Lib.byteCells ([27, 91, 109, 27, 91, 72, 27, 91, 74] ++ rowsP rs i)).length + (S (gotoL i 0) ++ S (rowL q)).size ≤ 140737488355328 := (by rw [Lib.byteCells_length, List.length_append, ByteArray.size_append]; show 9 + _ + _ ≤ _; omega); clear hq hq2)
            | (go_at_call 14; refine (Tryd.Builder_WriteString_k Bd Bd _ _ _ HI5.out hl5 hb5).mono ?_; rintro e w6 ⟨rfl, hat, hbel, hoth⟩; rw [bc_app, S_app, L_S, List.append_assoc, ← HSU.out] at hat; have HI6 := Lib.hid (show Lib.IsBuilderF 54 5 Bd Bd _ w6 from .inr hat); have HW6 := Lib.hid (HW5.out.trans hbel); clear hat hbel hoth))
          go_roundg k1
          case measure => omega
          case rel => exact ⟨i + 1, by simp, by omega, HI6, HW6⟩
        · rw [if_neg h0, List.append_nil] at hsu
          have d0 : decide ((0 : Int) < (q.length : Int)) = false := decide_eq_false (by omega)
          have HI6 : Hid (Lib.IsBuilderF 54 5 Bd Bd (Lib.byteCells ([27, 91, 109, 27, 91, 72, 27, 91, 74] ++ rowsP rs (i + 1))) wr) := Lib.hid (by rw [hsu]; exact HI.out)
          clear hsu
          go_wp2
          go_roundg k1
          case measure => omega
          case rel => exact ⟨i + 1, by simp, by omega, HI6, HW⟩
end U
end Go.Proofs.YtceomobdolkfgaaDoor
