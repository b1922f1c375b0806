/- Merge, walked by cases. Printed by a program of this claim. -/
import Derived.Test.YtkpcnfchhnfpoaaDoorMrg
import Derived.Handy
import Derived.WalkSpells
import Derived.WalkLawsBesides
import Derived.Deep.RegionHeld3
import Derived.LoopTactic
import Derived.BigQuiet
import Derived.IntWalk
import Derived.StillTailTactics
set_option linter.unusedVariables false
namespace Go.Proofs.YtkpcnfchhnfpoaaDoor
open Go.RowKit Go.Proofs.YtkpcnfchhnfpoaaDoorW.PrintWords Go.Proofs.YtkpcnfchhnfpoaaDoor.Sep
namespace Log
set_option maxHeartbeats 6400000
theorem below_drew {B : Nat} {w w' : World} (h : Below B w w') : Below B w w'.drew := ⟨h.os, h.tape, h.output, h.size, h.block⟩
theorem below_far {B : Nat} {w w' : World} (h : Below B w w') (p : Addr) (u : Value) (hp : B ≤ p.block) : Below B w (w'.setCell p u) := h.setCell hp u
theorem merge_p_neg1 (w : World) (x : Int) (hx : x < 0) (ao ai : ByteArray) (b : Delta) : Calls Tryd.prog 14 #[.agg #[.int .i64 x, .string ao, .string ai], dagg b] w fun e w' => e = .returned (.tuple #[dagg D0, .bool false]) ∧ Below w.heap.size w w' := by
  obtain ⟨y, bo, bi⟩ := b
  unfold dagg
  dsimp only
  have b1 : decide (x < 0) = true := by simp [hx]
  go_enter Tryd.func14, Tryd.ntmps14
  go_wp2
  go_returns
  exact ⟨rfl, (by repeat' (first | with_reducible exact Below.refl _ _ | with_reducible refine Below.drewN' ?_ _ | with_reducible refine below_drew ?_ | with_reducible refine below_far ?_ _ _ (by first | (simp; done) | (simp; omega)) | (with_reducible refine Below.alloc ?_ (by first | (simp; done) | (simp; omega)) _)))⟩
theorem merge_p_neg2 (w : World) (x y : Int) (hx : ¬ x < 0) (hy : y < 0) (ao ai bo bi : ByteArray) : Calls Tryd.prog 14 #[.agg #[.int .i64 x, .string ao, .string ai], .agg #[.int .i64 y, .string bo, .string bi]] w fun e w' => e = .returned (.tuple #[dagg D0, .bool false]) ∧ Below w.heap.size w w' := by
  unfold dagg
  dsimp only
  have b1 : decide (x < 0) = false := by simp; omega
  have b2 : decide (y < 0) = true := by simp [hy]
  go_enter Tryd.func14, Tryd.ntmps14
  go_wp2
  go_returns
  exact ⟨rfl, (by repeat' (first | with_reducible exact Below.refl _ _ | with_reducible refine Below.drewN' ?_ _ | with_reducible refine below_drew ?_ | with_reducible refine below_far ?_ _ _ (by first | (simp; done) | (simp; omega)) | (with_reducible refine Below.alloc ?_ (by first | (simp; done) | (simp; omega)) _)))⟩

theorem merge_f_far (w : World) (x y d : Nat) (hx : x < 9223372036854775808) (hy : y < 9223372036854775808) (ao ai bo bi : ByteArray) (hsi : ai.size ≤ 1000000000000000) (hso : bo.size ≤ 1000000000000000) (hsao : ao.size ≤ 1000000000000000) (hsbi : bi.size ≤ 1000000000000000) (he : y = x + d) (hfar : ai.size < d) :
    Calls Tryd.prog 14 #[.agg #[.int .i64 (x : Int), .string ao, .string ai], .agg #[.int .i64 (y : Int), .string bo, .string bi]] w fun e w' => e = .returned (.tuple #[.agg #[.int .i64 0, .string ⟨#[]⟩, .string ⟨#[]⟩], .bool false]) ∧ Below w.heap.size w w' := by
  have p1 : decide ((x : Int) < 0) = false := by first | (simp; done) | (simp; omega)
  have p2 : decide ((y : Int) < 0) = false := by first | (simp; done) | (simp; omega)
  have z1 : IntKind.i64.wrap ((y : Int) - (x : Int)) = (d : Int) := by rw [IntKind.wrap_i64]; omega
  have z3 : IntKind.i64.wrap (-(d : Int)) = -(d : Int) := by rw [IntKind.wrap_i64]; omega
  have g1 : decide (ai.size < d) = true := by first | (simp; done) | (simp; omega)
  have g2 : decide ((ai.size : Int) < (d : Int)) = true := by first | (simp; done) | (simp; omega)
  clear hfar he
  go_enter Tryd.func14, Tryd.ntmps14
  go_wp2
  go_returns
  exact ⟨rfl, (by repeat' (first | with_reducible exact Below.refl _ _ | with_reducible refine Below.drewN' ?_ _ | with_reducible refine below_drew ?_ | with_reducible refine below_far ?_ _ _ (by first | (simp; done) | (simp; omega)) | (with_reducible refine Below.alloc ?_ (by first | (simp; done) | (simp; omega)) _)))⟩

theorem merge_b_far (w : World) (x y d : Nat) (hx : x < 9223372036854775808) (hy : y < 9223372036854775808) (ao ai bo bi : ByteArray) (hsi : ai.size ≤ 1000000000000000) (hso : bo.size ≤ 1000000000000000) (hsao : ao.size ≤ 1000000000000000) (hsbi : bi.size ≤ 1000000000000000) (he : x = y + d) (hd : 0 < d) (hfar : bo.size < d) :
    Calls Tryd.prog 14 #[.agg #[.int .i64 (x : Int), .string ao, .string ai], .agg #[.int .i64 (y : Int), .string bo, .string bi]] w fun e w' => e = .returned (.tuple #[.agg #[.int .i64 0, .string ⟨#[]⟩, .string ⟨#[]⟩], .bool false]) ∧ Below w.heap.size w w' := by
  have p1 : decide ((x : Int) < 0) = false := by first | (simp; done) | (simp; omega)
  have p2 : decide ((y : Int) < 0) = false := by first | (simp; done) | (simp; omega)
  have z1 : IntKind.i64.wrap ((y : Int) - (x : Int)) = -(d : Int) := by rw [IntKind.wrap_i64]; omega
  have z3 : IntKind.i64.wrap (d : Int) = (d : Int) := by rw [IntKind.wrap_i64]; omega
  have z3b : IntKind.i64.wrap (-(-(d : Int))) = (d : Int) := by rw [IntKind.wrap_i64]; omega
  have g1 : decide (bo.size < d) = true := by first | (simp; done) | (simp; omega)
  have g2 : decide ((bo.size : Int) < (d : Int)) = true := by first | (simp; done) | (simp; omega)
  have g3 : decide ((ai.size : Int) < -(d : Int)) = false := by first | (simp; done) | (simp; omega)
  clear hfar he
  go_enter Tryd.func14, Tryd.ntmps14
  go_wp2
  go_returns
  exact ⟨rfl, (by repeat' (first | with_reducible exact Below.refl _ _ | with_reducible refine Below.drewN' ?_ _ | with_reducible refine below_drew ?_ | with_reducible refine below_far ?_ _ _ (by first | (simp; done) | (simp; omega)) | (with_reducible refine Below.alloc ?_ (by first | (simp; done) | (simp; omega)) _)))⟩

theorem merge_f_C (w : World) (x y d : Nat) (hx : x < 9223372036854775808) (hy : y < 9223372036854775808) (ao ai bo bi : ByteArray) (hsi : ai.size ≤ 1000000000000000) (hso : bo.size ≤ 1000000000000000) (hsao : ao.size ≤ 1000000000000000) (hsbi : bi.size ≤ 1000000000000000) (he : y = x + d) (hnf : ¬ ai.size < d) (t : Nat) (ht : t = min ai.size (d + bo.size)) (hk : d < t) (heq : ((ai.extract d t).toList == (bo.extract 0 (t - d)).toList) = false) :
    Calls Tryd.prog 14 #[.agg #[.int .i64 (x : Int), .string ao, .string ai], .agg #[.int .i64 (y : Int), .string bo, .string bi]] w fun e w' => e = .returned (.tuple #[.agg #[.int .i64 0, .string ⟨#[]⟩, .string ⟨#[]⟩], .bool false]) ∧ Below w.heap.size w w' := by
  have p1 : decide ((x : Int) < 0) = false := by first | (simp; done) | (simp; omega)
  have p2 : decide ((y : Int) < 0) = false := by first | (simp; done) | (simp; omega)
  have z1 : IntKind.i64.wrap ((y : Int) - (x : Int)) = (d : Int) := by rw [IntKind.wrap_i64]; omega
  have z3 : IntKind.i64.wrap (-(d : Int)) = -(d : Int) := by rw [IntKind.wrap_i64]; omega
  have g1 : decide (ai.size < d) = false := by first | (simp; done) | (simp; omega)
  have g2 : decide ((ai.size : Int) < (d : Int)) = false := by first | (simp; done) | (simp; omega)
  have g3 : decide ((bo.size : Int) < -(d : Int)) = false := by first | (simp; done) | (simp; omega)
  have z4 : max (d : Int) 0 = (d : Int) := by omega
  obtain ⟨q, hq⟩ : ∃ q, q = d + bo.size := ⟨_, rfl⟩
  have z5 : IntKind.i64.wrap ((d : Int) + (bo.size : Int)) = (q : Int) := by rw [IntKind.wrap_i64]; omega
  have z6 : min (ai.size : Int) (q : Int) = (t : Int) := by omega
  have z7 : min ai.size q = t := by omega
  have z8 : IntKind.i64.wrap ((d : Int) - (d : Int)) = 0 := by rw [IntKind.wrap_i64]; omega
  have z8b : IntKind.i64.wrap 0 = 0 := by rw [IntKind.wrap_i64]; omega
  have zm : min x y = x := by omega
  have zm2 : min (x : Int) (y : Int) = (x : Int) := by omega
  have k1 : decide (d < t) = true := by first | (simp; done) | (simp; omega)
  have k2 : decide ((d : Int) < (t : Int)) = true := by first | (simp; done) | (simp; omega)
  obtain ⟨u, hu⟩ : ∃ u, u = t - d := ⟨_, rfl⟩
  have z9 : IntKind.i64.wrap ((t : Int) - (d : Int)) = (u : Int) := by rw [IntKind.wrap_i64]; omega
  have i1 : d ≤ t := by omega
  have i2 : t ≤ ai.size := by omega
  have i3 : u ≤ bo.size := by omega
  have i4 : (d : Int) ≤ (t : Int) := by omega
  have i5 : (0 : Int) ≤ (d : Int) := by omega
  rw [← hu] at heq
  have eq2 : ((ai.extract d t).toList != (bo.extract 0 u).toList) = true := by rw [bne, heq]; rfl
  clear hk he hnf ht hq hu
  go_enter Tryd.func14, Tryd.ntmps14
  go_wp2
  go_region
  go_wp2
  go_quiet (fail)
  go_wp2
  go_returns
  exact ⟨rfl, (by repeat' (first | with_reducible exact Below.refl _ _ | with_reducible refine Below.drewN' ?_ _ | with_reducible refine below_drew ?_ | with_reducible refine below_far ?_ _ _ (by first | (simp; done) | (simp; omega)) | (with_reducible refine Below.alloc ?_ (by first | (simp; done) | (simp; omega)) _)))⟩

theorem merge_b_C (w : World) (x y d : Nat) (hx : x < 9223372036854775808) (hy : y < 9223372036854775808) (ao ai bo bi : ByteArray) (hsi : ai.size ≤ 1000000000000000) (hso : bo.size ≤ 1000000000000000) (hsao : ao.size ≤ 1000000000000000) (hsbi : bi.size ≤ 1000000000000000) (he : x = y + d) (hd : 0 < d) (hnf : ¬ bo.size < d) (t : Nat) (ht : t = min ai.size (bo.size - d)) (hk : 0 < t) (heq : ((ai.extract 0 t).toList == (bo.extract d (t + d)).toList) = false) :
    Calls Tryd.prog 14 #[.agg #[.int .i64 (x : Int), .string ao, .string ai], .agg #[.int .i64 (y : Int), .string bo, .string bi]] w fun e w' => e = .returned (.tuple #[.agg #[.int .i64 0, .string ⟨#[]⟩, .string ⟨#[]⟩], .bool false]) ∧ Below w.heap.size w w' := by
  have p1 : decide ((x : Int) < 0) = false := by first | (simp; done) | (simp; omega)
  have p2 : decide ((y : Int) < 0) = false := by first | (simp; done) | (simp; omega)
  have z1 : IntKind.i64.wrap ((y : Int) - (x : Int)) = -(d : Int) := by rw [IntKind.wrap_i64]; omega
  have z3 : IntKind.i64.wrap (d : Int) = (d : Int) := by rw [IntKind.wrap_i64]; omega
  have z3b : IntKind.i64.wrap (-(-(d : Int))) = (d : Int) := by rw [IntKind.wrap_i64]; omega
  have g1 : decide (bo.size < d) = false := by first | (simp; done) | (simp; omega)
  have g2 : decide ((bo.size : Int) < (d : Int)) = false := by first | (simp; done) | (simp; omega)
  have g3 : decide ((ai.size : Int) < -(d : Int)) = false := by first | (simp; done) | (simp; omega)
  have z4 : max (-(d : Int)) 0 = 0 := by omega
  obtain ⟨q, hq⟩ : ∃ q, q = bo.size - d := ⟨_, rfl⟩
  have z5 : IntKind.i64.wrap (-(d : Int) + (bo.size : Int)) = (q : Int) := by rw [IntKind.wrap_i64]; omega
  have z6 : min (ai.size : Int) (q : Int) = (t : Int) := by omega
  have z7 : min ai.size q = t := by omega
  have z8 : IntKind.i64.wrap (0 - -(d : Int)) = (d : Int) := by rw [IntKind.wrap_i64]; omega
  have zm : min x y = y := by omega
  have zm2 : min (x : Int) (y : Int) = (y : Int) := by omega
  have k1 : decide (0 < t) = true := by first | (simp; done) | (simp; omega)
  have k2 : decide ((0 : Int) < (t : Int)) = true := by first | (simp; done) | (simp; omega)
  obtain ⟨u, hu⟩ : ∃ u, u = t + d := ⟨_, rfl⟩
  have z9 : IntKind.i64.wrap ((t : Int) - -(d : Int)) = (u : Int) := by rw [IntKind.wrap_i64]; omega
  have z9b : IntKind.i64.wrap ((t : Int) + (d : Int)) = (u : Int) := by rw [IntKind.wrap_i64]; omega
  have i1 : d ≤ u := by omega
  have i2 : t ≤ ai.size := by omega
  have i3 : u ≤ bo.size := by omega
  have i4 : (d : Int) ≤ (u : Int) := by omega
  have i5 : (0 : Int) ≤ (d : Int) := by omega
  rw [← hu] at heq
  have eq2 : ((ai.extract 0 t).toList != (bo.extract d u).toList) = true := by rw [bne, heq]; rfl
  clear hk he hnf ht hq hu
  go_enter Tryd.func14, Tryd.ntmps14
  go_wp2
  go_region
  go_wp2
  go_quiet (fail)
  go_wp2
  go_returns
  exact ⟨rfl, (by repeat' (first | with_reducible exact Below.refl _ _ | with_reducible refine Below.drewN' ?_ _ | with_reducible refine below_drew ?_ | with_reducible refine below_far ?_ _ _ (by first | (simp; done) | (simp; omega)) | (with_reducible refine Below.alloc ?_ (by first | (simp; done) | (simp; omega)) _)))⟩

theorem merge_f_A_lt_0 (w : World) (x y d : Nat) (hx : x < 9223372036854775808) (hy : y < 9223372036854775808) (ao ai bo bi : ByteArray) (hsi : ai.size ≤ 1000000000000000) (hso : bo.size ≤ 1000000000000000) (hsao : ao.size ≤ 1000000000000000) (hsbi : bi.size ≤ 1000000000000000) (he : y = x + d) (hnf : ¬ ai.size < d) (t : Nat) (ht : t = min ai.size (d + bo.size)) (hk : d < t) (heq : ((ai.extract d t).toList == (bo.extract 0 (t - d)).toList) = true) (htl : ai.size < d + bo.size) (hz : ¬ 0 < d) :
    Calls Tryd.prog 14 #[.agg #[.int .i64 (x : Int), .string ao, .string ai], .agg #[.int .i64 (y : Int), .string bo, .string bi]] w fun e w' => e = .returned (.tuple #[.agg #[.int .i64 (x : Int), .string (ao ++ bo.extract (ai.size - d) bo.size), .string (bi)], .bool true]) ∧ Below w.heap.size w w' := by
  have p1 : decide ((x : Int) < 0) = false := by first | (simp; done) | (simp; omega)
  have p2 : decide ((y : Int) < 0) = false := by first | (simp; done) | (simp; omega)
  have z1 : IntKind.i64.wrap ((y : Int) - (x : Int)) = (d : Int) := by rw [IntKind.wrap_i64]; omega
  have z3 : IntKind.i64.wrap (-(d : Int)) = -(d : Int) := by rw [IntKind.wrap_i64]; omega
  have g1 : decide (ai.size < d) = false := by first | (simp; done) | (simp; omega)
  have g2 : decide ((ai.size : Int) < (d : Int)) = false := by first | (simp; done) | (simp; omega)
  have g3 : decide ((bo.size : Int) < -(d : Int)) = false := by first | (simp; done) | (simp; omega)
  have z4 : max (d : Int) 0 = (d : Int) := by omega
  obtain ⟨q, hq⟩ : ∃ q, q = d + bo.size := ⟨_, rfl⟩
  have z5 : IntKind.i64.wrap ((d : Int) + (bo.size : Int)) = (q : Int) := by rw [IntKind.wrap_i64]; omega
  have z6 : min (ai.size : Int) (q : Int) = (t : Int) := by omega
  have z7 : min ai.size q = t := by omega
  have z8 : IntKind.i64.wrap ((d : Int) - (d : Int)) = 0 := by rw [IntKind.wrap_i64]; omega
  have z8b : IntKind.i64.wrap 0 = 0 := by rw [IntKind.wrap_i64]; omega
  have zm : min x y = x := by omega
  have zm2 : min (x : Int) (y : Int) = (x : Int) := by omega
  have k1 : decide (d < t) = true := by first | (simp; done) | (simp; omega)
  have k2 : decide ((d : Int) < (t : Int)) = true := by first | (simp; done) | (simp; omega)
  obtain ⟨u, hu⟩ : ∃ u, u = t - d := ⟨_, rfl⟩
  have z9 : IntKind.i64.wrap ((t : Int) - (d : Int)) = (u : Int) := by rw [IntKind.wrap_i64]; omega
  have i1 : d ≤ t := by omega
  have i2 : t ≤ ai.size := by omega
  have i3 : u ≤ bo.size := by omega
  have i4 : (d : Int) ≤ (t : Int) := by omega
  have i5 : (0 : Int) ≤ (d : Int) := by omega
  rw [← hu] at heq
  have eq2 : ((ai.extract d t).toList != (bo.extract 0 u).toList) = false := by rw [bne, heq]; rfl
  obtain ⟨l, hl⟩ : ∃ l, l = ai.size - d := ⟨_, rfl⟩
  have y1 : IntKind.i64.wrap ((ai.size : Int) - (d : Int)) = (l : Int) := by rw [IntKind.wrap_i64]; omega
  have y2 : decide ((d : Int) < 0) = false := by first | (simp; done) | (simp; omega)
  have y3 : decide (l < bo.size) = true := by first | (simp; done) | (simp; omega)
  have y3b : decide ((l : Int) < (bo.size : Int)) = true := by first | (simp; done) | (simp; omega)
  have y4 : decide (0 < d) = false := by first | (simp; done) | (simp; omega)
  have y4b : decide ((0 : Int) < (d : Int)) = false := by first | (simp; done) | (simp; omega)
  have y5 : decide (q < ai.size) = false := by first | (simp; done) | (simp; omega)
  have y5b : decide ((q : Int) < (ai.size : Int)) = false := by first | (simp; done) | (simp; omega)
  have s1 : l ≤ bo.size := by omega
  have s2 : d ≤ ai.size := by omega
  have m1 : ao.size + (bo.extract l bo.size).size ≤ 9223372036854775807 := by rw [ByteArray.size_extract]; omega
  rw [← hl]
  clear hu he hk hnf ht hq hl htl hz
  go_enter Tryd.func14, Tryd.ntmps14
  go_wp2
  go_region
  go_wp2
  go_quiet (fail)
  go_wp2
  go_region
  go_wp2
  go_returns
  exact ⟨rfl, (by repeat' (first | with_reducible exact Below.refl _ _ | with_reducible refine Below.drewN' ?_ _ | with_reducible refine below_drew ?_ | with_reducible refine below_far ?_ _ _ (by first | (simp; done) | (simp; omega)) | (with_reducible refine Below.alloc ?_ (by first | (simp; done) | (simp; omega)) _)))⟩

theorem merge_f_A_lt_p (w : World) (x y d : Nat) (hx : x < 9223372036854775808) (hy : y < 9223372036854775808) (ao ai bo bi : ByteArray) (hsi : ai.size ≤ 1000000000000000) (hso : bo.size ≤ 1000000000000000) (hsao : ao.size ≤ 1000000000000000) (hsbi : bi.size ≤ 1000000000000000) (he : y = x + d) (hnf : ¬ ai.size < d) (t : Nat) (ht : t = min ai.size (d + bo.size)) (hk : d < t) (heq : ((ai.extract d t).toList == (bo.extract 0 (t - d)).toList) = true) (htl : ai.size < d + bo.size) (hz : 0 < d) :
    Calls Tryd.prog 14 #[.agg #[.int .i64 (x : Int), .string ao, .string ai], .agg #[.int .i64 (y : Int), .string bo, .string bi]] w fun e w' => e = .returned (.tuple #[.agg #[.int .i64 (x : Int), .string (ao ++ bo.extract (ai.size - d) bo.size), .string (ai.extract 0 d ++ bi)], .bool true]) ∧ Below w.heap.size w w' := by
  have p1 : decide ((x : Int) < 0) = false := by first | (simp; done) | (simp; omega)
  have p2 : decide ((y : Int) < 0) = false := by first | (simp; done) | (simp; omega)
  have z1 : IntKind.i64.wrap ((y : Int) - (x : Int)) = (d : Int) := by rw [IntKind.wrap_i64]; omega
  have z3 : IntKind.i64.wrap (-(d : Int)) = -(d : Int) := by rw [IntKind.wrap_i64]; omega
  have g1 : decide (ai.size < d) = false := by first | (simp; done) | (simp; omega)
  have g2 : decide ((ai.size : Int) < (d : Int)) = false := by first | (simp; done) | (simp; omega)
  have g3 : decide ((bo.size : Int) < -(d : Int)) = false := by first | (simp; done) | (simp; omega)
  have z4 : max (d : Int) 0 = (d : Int) := by omega
  obtain ⟨q, hq⟩ : ∃ q, q = d + bo.size := ⟨_, rfl⟩
  have z5 : IntKind.i64.wrap ((d : Int) + (bo.size : Int)) = (q : Int) := by rw [IntKind.wrap_i64]; omega
  have z6 : min (ai.size : Int) (q : Int) = (t : Int) := by omega
  have z7 : min ai.size q = t := by omega
  have z8 : IntKind.i64.wrap ((d : Int) - (d : Int)) = 0 := by rw [IntKind.wrap_i64]; omega
  have z8b : IntKind.i64.wrap 0 = 0 := by rw [IntKind.wrap_i64]; omega
  have zm : min x y = x := by omega
  have zm2 : min (x : Int) (y : Int) = (x : Int) := by omega
  have k1 : decide (d < t) = true := by first | (simp; done) | (simp; omega)
  have k2 : decide ((d : Int) < (t : Int)) = true := by first | (simp; done) | (simp; omega)
  obtain ⟨u, hu⟩ : ∃ u, u = t - d := ⟨_, rfl⟩
  have z9 : IntKind.i64.wrap ((t : Int) - (d : Int)) = (u : Int) := by rw [IntKind.wrap_i64]; omega
  have i1 : d ≤ t := by omega
  have i2 : t ≤ ai.size := by omega
  have i3 : u ≤ bo.size := by omega
  have i4 : (d : Int) ≤ (t : Int) := by omega
  have i5 : (0 : Int) ≤ (d : Int) := by omega
  rw [← hu] at heq
  have eq2 : ((ai.extract d t).toList != (bo.extract 0 u).toList) = false := by rw [bne, heq]; rfl
  obtain ⟨l, hl⟩ : ∃ l, l = ai.size - d := ⟨_, rfl⟩
  have y1 : IntKind.i64.wrap ((ai.size : Int) - (d : Int)) = (l : Int) := by rw [IntKind.wrap_i64]; omega
  have y2 : decide ((d : Int) < 0) = false := by first | (simp; done) | (simp; omega)
  have y3 : decide (l < bo.size) = true := by first | (simp; done) | (simp; omega)
  have y3b : decide ((l : Int) < (bo.size : Int)) = true := by first | (simp; done) | (simp; omega)
  have y4 : decide (0 < d) = true := by first | (simp; done) | (simp; omega)
  have y4b : decide ((0 : Int) < (d : Int)) = true := by first | (simp; done) | (simp; omega)
  have y5 : decide (q < ai.size) = false := by first | (simp; done) | (simp; omega)
  have y5b : decide ((q : Int) < (ai.size : Int)) = false := by first | (simp; done) | (simp; omega)
  have s1 : l ≤ bo.size := by omega
  have s2 : d ≤ ai.size := by omega
  have m1 : ao.size + (bo.extract l bo.size).size ≤ 9223372036854775807 := by rw [ByteArray.size_extract]; omega
  have m2 : (ai.extract 0 d).size + bi.size ≤ 9223372036854775807 := by rw [ByteArray.size_extract]; omega
  rw [← hl]
  clear hu he hk hnf ht hq hl htl hz
  go_enter Tryd.func14, Tryd.ntmps14
  go_wp2
  go_region
  go_wp2
  go_quiet (fail)
  go_wp2
  go_region
  go_wp2
  go_region
  go_wp2
  go_returns
  exact ⟨rfl, (by repeat' (first | with_reducible exact Below.refl _ _ | with_reducible refine Below.drewN' ?_ _ | with_reducible refine below_drew ?_ | with_reducible refine below_far ?_ _ _ (by first | (simp; done) | (simp; omega)) | (with_reducible refine Below.alloc ?_ (by first | (simp; done) | (simp; omega)) _)))⟩

theorem merge_b_A_lt (w : World) (x y d : Nat) (hx : x < 9223372036854775808) (hy : y < 9223372036854775808) (ao ai bo bi : ByteArray) (hsi : ai.size ≤ 1000000000000000) (hso : bo.size ≤ 1000000000000000) (hsao : ao.size ≤ 1000000000000000) (hsbi : bi.size ≤ 1000000000000000) (he : x = y + d) (hd : 0 < d) (hnf : ¬ bo.size < d) (t : Nat) (ht : t = min ai.size (bo.size - d)) (hk : 0 < t) (heq : ((ai.extract 0 t).toList == (bo.extract d (t + d)).toList) = true) (htl : ai.size + d < bo.size) :
    Calls Tryd.prog 14 #[.agg #[.int .i64 (x : Int), .string ao, .string ai], .agg #[.int .i64 (y : Int), .string bo, .string bi]] w fun e w' => e = .returned (.tuple #[.agg #[.int .i64 (y : Int), .string (bo.extract 0 d ++ ao ++ bo.extract (ai.size + d) bo.size), .string (bi)], .bool true]) ∧ Below w.heap.size w w' := by
  have p1 : decide ((x : Int) < 0) = false := by first | (simp; done) | (simp; omega)
  have p2 : decide ((y : Int) < 0) = false := by first | (simp; done) | (simp; omega)
  have z1 : IntKind.i64.wrap ((y : Int) - (x : Int)) = -(d : Int) := by rw [IntKind.wrap_i64]; omega
  have z3 : IntKind.i64.wrap (d : Int) = (d : Int) := by rw [IntKind.wrap_i64]; omega
  have z3b : IntKind.i64.wrap (-(-(d : Int))) = (d : Int) := by rw [IntKind.wrap_i64]; omega
  have g1 : decide (bo.size < d) = false := by first | (simp; done) | (simp; omega)
  have g2 : decide ((bo.size : Int) < (d : Int)) = false := by first | (simp; done) | (simp; omega)
  have g3 : decide ((ai.size : Int) < -(d : Int)) = false := by first | (simp; done) | (simp; omega)
  have z4 : max (-(d : Int)) 0 = 0 := by omega
  obtain ⟨q, hq⟩ : ∃ q, q = bo.size - d := ⟨_, rfl⟩
  have z5 : IntKind.i64.wrap (-(d : Int) + (bo.size : Int)) = (q : Int) := by rw [IntKind.wrap_i64]; omega
  have z6 : min (ai.size : Int) (q : Int) = (t : Int) := by omega
  have z7 : min ai.size q = t := by omega
  have z8 : IntKind.i64.wrap (0 - -(d : Int)) = (d : Int) := by rw [IntKind.wrap_i64]; omega
  have zm : min x y = y := by omega
  have zm2 : min (x : Int) (y : Int) = (y : Int) := by omega
  have k1 : decide (0 < t) = true := by first | (simp; done) | (simp; omega)
  have k2 : decide ((0 : Int) < (t : Int)) = true := by first | (simp; done) | (simp; omega)
  obtain ⟨u, hu⟩ : ∃ u, u = t + d := ⟨_, rfl⟩
  have z9 : IntKind.i64.wrap ((t : Int) - -(d : Int)) = (u : Int) := by rw [IntKind.wrap_i64]; omega
  have z9b : IntKind.i64.wrap ((t : Int) + (d : Int)) = (u : Int) := by rw [IntKind.wrap_i64]; omega
  have i1 : d ≤ u := by omega
  have i2 : t ≤ ai.size := by omega
  have i3 : u ≤ bo.size := by omega
  have i4 : (d : Int) ≤ (u : Int) := by omega
  have i5 : (0 : Int) ≤ (d : Int) := by omega
  rw [← hu] at heq
  have eq2 : ((ai.extract 0 t).toList != (bo.extract d u).toList) = false := by rw [bne, heq]; rfl
  obtain ⟨l, hl⟩ : ∃ l, l = ai.size + d := ⟨_, rfl⟩
  have y1 : IntKind.i64.wrap ((ai.size : Int) - -(d : Int)) = (l : Int) := by rw [IntKind.wrap_i64]; omega
  have y1b : IntKind.i64.wrap ((ai.size : Int) + (d : Int)) = (l : Int) := by rw [IntKind.wrap_i64]; omega
  have y2 : decide (-(d : Int) < 0) = true := by first | (simp; done) | (simp; omega)
  have y2b : decide (0 < d) = true := by first | (simp; done) | (simp; omega)
  have y3 : decide (l < bo.size) = true := by first | (simp; done) | (simp; omega)
  have y3b : decide ((l : Int) < (bo.size : Int)) = true := by first | (simp; done) | (simp; omega)
  have y4b : decide ((0 : Int) < -(d : Int)) = false := by first | (simp; done) | (simp; omega)
  have y5 : decide (q < ai.size) = false := by first | (simp; done) | (simp; omega)
  have y5b : decide ((q : Int) < (ai.size : Int)) = false := by first | (simp; done) | (simp; omega)
  have s0 : d ≤ bo.size := by omega
  have s1 : l ≤ bo.size := by omega
  have m1 : (bo.extract 0 d).size + ao.size ≤ 9223372036854775807 := by rw [ByteArray.size_extract]; omega
  have m2 : (bo.extract 0 d ++ ao).size + (bo.extract l bo.size).size ≤ 9223372036854775807 := by rw [ByteArray.size_append, ByteArray.size_extract, ByteArray.size_extract]; omega
  rw [← hl]
  clear hu he hk hnf ht hq hl htl hd
  go_enter Tryd.func14, Tryd.ntmps14
  go_wp2
  go_region
  go_wp2
  go_quiet (fail)
  go_wp2
  go_region
  go_wp2
  go_region
  go_wp2
  go_returns
  exact ⟨rfl, (by repeat' (first | with_reducible exact Below.refl _ _ | with_reducible refine Below.drewN' ?_ _ | with_reducible refine below_drew ?_ | with_reducible refine below_far ?_ _ _ (by first | (simp; done) | (simp; omega)) | (with_reducible refine Below.alloc ?_ (by first | (simp; done) | (simp; omega)) _)))⟩

theorem merge_f_A_eq_0 (w : World) (x y d : Nat) (hx : x < 9223372036854775808) (hy : y < 9223372036854775808) (ao ai bo bi : ByteArray) (hsi : ai.size ≤ 1000000000000000) (hso : bo.size ≤ 1000000000000000) (hsao : ao.size ≤ 1000000000000000) (hsbi : bi.size ≤ 1000000000000000) (he : y = x + d) (hnf : ¬ ai.size < d) (t : Nat) (ht : t = min ai.size (d + bo.size)) (hk : d < t) (heq : ((ai.extract d t).toList == (bo.extract 0 (t - d)).toList) = true) (htl : ai.size = d + bo.size) (hz : ¬ 0 < d) :
    Calls Tryd.prog 14 #[.agg #[.int .i64 (x : Int), .string ao, .string ai], .agg #[.int .i64 (y : Int), .string bo, .string bi]] w fun e w' => e = .returned (.tuple #[.agg #[.int .i64 (x : Int), .string (ao), .string (bi)], .bool true]) ∧ Below w.heap.size w w' := by
  have p1 : decide ((x : Int) < 0) = false := by first | (simp; done) | (simp; omega)
  have p2 : decide ((y : Int) < 0) = false := by first | (simp; done) | (simp; omega)
  have z1 : IntKind.i64.wrap ((y : Int) - (x : Int)) = (d : Int) := by rw [IntKind.wrap_i64]; omega
  have z3 : IntKind.i64.wrap (-(d : Int)) = -(d : Int) := by rw [IntKind.wrap_i64]; omega
  have g1 : decide (ai.size < d) = false := by first | (simp; done) | (simp; omega)
  have g2 : decide ((ai.size : Int) < (d : Int)) = false := by first | (simp; done) | (simp; omega)
  have g3 : decide ((bo.size : Int) < -(d : Int)) = false := by first | (simp; done) | (simp; omega)
  have z4 : max (d : Int) 0 = (d : Int) := by omega
  obtain ⟨q, hq⟩ : ∃ q, q = d + bo.size := ⟨_, rfl⟩
  have z5 : IntKind.i64.wrap ((d : Int) + (bo.size : Int)) = (q : Int) := by rw [IntKind.wrap_i64]; omega
  have z6 : min (ai.size : Int) (q : Int) = (t : Int) := by omega
  have z7 : min ai.size q = t := by omega
  have z8 : IntKind.i64.wrap ((d : Int) - (d : Int)) = 0 := by rw [IntKind.wrap_i64]; omega
  have z8b : IntKind.i64.wrap 0 = 0 := by rw [IntKind.wrap_i64]; omega
  have zm : min x y = x := by omega
  have zm2 : min (x : Int) (y : Int) = (x : Int) := by omega
  have k1 : decide (d < t) = true := by first | (simp; done) | (simp; omega)
  have k2 : decide ((d : Int) < (t : Int)) = true := by first | (simp; done) | (simp; omega)
  obtain ⟨u, hu⟩ : ∃ u, u = t - d := ⟨_, rfl⟩
  have z9 : IntKind.i64.wrap ((t : Int) - (d : Int)) = (u : Int) := by rw [IntKind.wrap_i64]; omega
  have i1 : d ≤ t := by omega
  have i2 : t ≤ ai.size := by omega
  have i3 : u ≤ bo.size := by omega
  have i4 : (d : Int) ≤ (t : Int) := by omega
  have i5 : (0 : Int) ≤ (d : Int) := by omega
  rw [← hu] at heq
  have eq2 : ((ai.extract d t).toList != (bo.extract 0 u).toList) = false := by rw [bne, heq]; rfl
  obtain ⟨l, hl⟩ : ∃ l, l = ai.size - d := ⟨_, rfl⟩
  have y1 : IntKind.i64.wrap ((ai.size : Int) - (d : Int)) = (l : Int) := by rw [IntKind.wrap_i64]; omega
  have y2 : decide ((d : Int) < 0) = false := by first | (simp; done) | (simp; omega)
  have y3 : decide (l < bo.size) = false := by first | (simp; done) | (simp; omega)
  have y3b : decide ((l : Int) < (bo.size : Int)) = false := by first | (simp; done) | (simp; omega)
  have y4 : decide (0 < d) = false := by first | (simp; done) | (simp; omega)
  have y4b : decide ((0 : Int) < (d : Int)) = false := by first | (simp; done) | (simp; omega)
  have y5 : decide (q < ai.size) = false := by first | (simp; done) | (simp; omega)
  have y5b : decide ((q : Int) < (ai.size : Int)) = false := by first | (simp; done) | (simp; omega)
  have s1 : l ≤ bo.size := by omega
  have s2 : d ≤ ai.size := by omega
  have s3 : q ≤ ai.size := by omega
  clear hu he hk hnf ht hq hl htl hz
  go_enter Tryd.func14, Tryd.ntmps14
  go_wp2
  go_region
  go_wp2
  go_quiet (fail)
  go_wp2
  go_returns
  exact ⟨rfl, (by repeat' (first | with_reducible exact Below.refl _ _ | with_reducible refine Below.drewN' ?_ _ | with_reducible refine below_drew ?_ | with_reducible refine below_far ?_ _ _ (by first | (simp; done) | (simp; omega)) | (with_reducible refine Below.alloc ?_ (by first | (simp; done) | (simp; omega)) _)))⟩

theorem merge_f_A_eq_p (w : World) (x y d : Nat) (hx : x < 9223372036854775808) (hy : y < 9223372036854775808) (ao ai bo bi : ByteArray) (hsi : ai.size ≤ 1000000000000000) (hso : bo.size ≤ 1000000000000000) (hsao : ao.size ≤ 1000000000000000) (hsbi : bi.size ≤ 1000000000000000) (he : y = x + d) (hnf : ¬ ai.size < d) (t : Nat) (ht : t = min ai.size (d + bo.size)) (hk : d < t) (heq : ((ai.extract d t).toList == (bo.extract 0 (t - d)).toList) = true) (htl : ai.size = d + bo.size) (hz : 0 < d) :
    Calls Tryd.prog 14 #[.agg #[.int .i64 (x : Int), .string ao, .string ai], .agg #[.int .i64 (y : Int), .string bo, .string bi]] w fun e w' => e = .returned (.tuple #[.agg #[.int .i64 (x : Int), .string (ao), .string (ai.extract 0 d ++ bi)], .bool true]) ∧ Below w.heap.size w w' := by
  have p1 : decide ((x : Int) < 0) = false := by first | (simp; done) | (simp; omega)
  have p2 : decide ((y : Int) < 0) = false := by first | (simp; done) | (simp; omega)
  have z1 : IntKind.i64.wrap ((y : Int) - (x : Int)) = (d : Int) := by rw [IntKind.wrap_i64]; omega
  have z3 : IntKind.i64.wrap (-(d : Int)) = -(d : Int) := by rw [IntKind.wrap_i64]; omega
  have g1 : decide (ai.size < d) = false := by first | (simp; done) | (simp; omega)
  have g2 : decide ((ai.size : Int) < (d : Int)) = false := by first | (simp; done) | (simp; omega)
  have g3 : decide ((bo.size : Int) < -(d : Int)) = false := by first | (simp; done) | (simp; omega)
  have z4 : max (d : Int) 0 = (d : Int) := by omega
  obtain ⟨q, hq⟩ : ∃ q, q = d + bo.size := ⟨_, rfl⟩
  have z5 : IntKind.i64.wrap ((d : Int) + (bo.size : Int)) = (q : Int) := by rw [IntKind.wrap_i64]; omega
  have z6 : min (ai.size : Int) (q : Int) = (t : Int) := by omega
  have z7 : min ai.size q = t := by omega
  have z8 : IntKind.i64.wrap ((d : Int) - (d : Int)) = 0 := by rw [IntKind.wrap_i64]; omega
  have z8b : IntKind.i64.wrap 0 = 0 := by rw [IntKind.wrap_i64]; omega
  have zm : min x y = x := by omega
  have zm2 : min (x : Int) (y : Int) = (x : Int) := by omega
  have k1 : decide (d < t) = true := by first | (simp; done) | (simp; omega)
  have k2 : decide ((d : Int) < (t : Int)) = true := by first | (simp; done) | (simp; omega)
  obtain ⟨u, hu⟩ : ∃ u, u = t - d := ⟨_, rfl⟩
  have z9 : IntKind.i64.wrap ((t : Int) - (d : Int)) = (u : Int) := by rw [IntKind.wrap_i64]; omega
  have i1 : d ≤ t := by omega
  have i2 : t ≤ ai.size := by omega
  have i3 : u ≤ bo.size := by omega
  have i4 : (d : Int) ≤ (t : Int) := by omega
  have i5 : (0 : Int) ≤ (d : Int) := by omega
  rw [← hu] at heq
  have eq2 : ((ai.extract d t).toList != (bo.extract 0 u).toList) = false := by rw [bne, heq]; rfl
  obtain ⟨l, hl⟩ : ∃ l, l = ai.size - d := ⟨_, rfl⟩
  have y1 : IntKind.i64.wrap ((ai.size : Int) - (d : Int)) = (l : Int) := by rw [IntKind.wrap_i64]; omega
  have y2 : decide ((d : Int) < 0) = false := by first | (simp; done) | (simp; omega)
  have y3 : decide (l < bo.size) = false := by first | (simp; done) | (simp; omega)
  have y3b : decide ((l : Int) < (bo.size : Int)) = false := by first | (simp; done) | (simp; omega)
  have y4 : decide (0 < d) = true := by first | (simp; done) | (simp; omega)
  have y4b : decide ((0 : Int) < (d : Int)) = true := by first | (simp; done) | (simp; omega)
  have y5 : decide (q < ai.size) = false := by first | (simp; done) | (simp; omega)
  have y5b : decide ((q : Int) < (ai.size : Int)) = false := by first | (simp; done) | (simp; omega)
  have s1 : l ≤ bo.size := by omega
  have s2 : d ≤ ai.size := by omega
  have s3 : q ≤ ai.size := by omega
  have m2 : (ai.extract 0 d).size + bi.size ≤ 9223372036854775807 := by rw [ByteArray.size_extract]; omega
  clear hu he hk hnf ht hq hl htl hz
  go_enter Tryd.func14, Tryd.ntmps14
  go_wp2
  go_region
  go_wp2
  go_quiet (fail)
  go_wp2
  go_region
  go_wp2
  go_returns
  exact ⟨rfl, (by repeat' (first | with_reducible exact Below.refl _ _ | with_reducible refine Below.drewN' ?_ _ | with_reducible refine below_drew ?_ | with_reducible refine below_far ?_ _ _ (by first | (simp; done) | (simp; omega)) | (with_reducible refine Below.alloc ?_ (by first | (simp; done) | (simp; omega)) _)))⟩

theorem merge_b_A_eq (w : World) (x y d : Nat) (hx : x < 9223372036854775808) (hy : y < 9223372036854775808) (ao ai bo bi : ByteArray) (hsi : ai.size ≤ 1000000000000000) (hso : bo.size ≤ 1000000000000000) (hsao : ao.size ≤ 1000000000000000) (hsbi : bi.size ≤ 1000000000000000) (he : x = y + d) (hd : 0 < d) (hnf : ¬ bo.size < d) (t : Nat) (ht : t = min ai.size (bo.size - d)) (hk : 0 < t) (heq : ((ai.extract 0 t).toList == (bo.extract d (t + d)).toList) = true) (htl : ai.size + d = bo.size) :
    Calls Tryd.prog 14 #[.agg #[.int .i64 (x : Int), .string ao, .string ai], .agg #[.int .i64 (y : Int), .string bo, .string bi]] w fun e w' => e = .returned (.tuple #[.agg #[.int .i64 (y : Int), .string (bo.extract 0 d ++ ao), .string (bi)], .bool true]) ∧ Below w.heap.size w w' := by
  have p1 : decide ((x : Int) < 0) = false := by first | (simp; done) | (simp; omega)
  have p2 : decide ((y : Int) < 0) = false := by first | (simp; done) | (simp; omega)
  have z1 : IntKind.i64.wrap ((y : Int) - (x : Int)) = -(d : Int) := by rw [IntKind.wrap_i64]; omega
  have z3 : IntKind.i64.wrap (d : Int) = (d : Int) := by rw [IntKind.wrap_i64]; omega
  have z3b : IntKind.i64.wrap (-(-(d : Int))) = (d : Int) := by rw [IntKind.wrap_i64]; omega
  have g1 : decide (bo.size < d) = false := by first | (simp; done) | (simp; omega)
  have g2 : decide ((bo.size : Int) < (d : Int)) = false := by first | (simp; done) | (simp; omega)
  have g3 : decide ((ai.size : Int) < -(d : Int)) = false := by first | (simp; done) | (simp; omega)
  have z4 : max (-(d : Int)) 0 = 0 := by omega
  obtain ⟨q, hq⟩ : ∃ q, q = bo.size - d := ⟨_, rfl⟩
  have z5 : IntKind.i64.wrap (-(d : Int) + (bo.size : Int)) = (q : Int) := by rw [IntKind.wrap_i64]; omega
  have z6 : min (ai.size : Int) (q : Int) = (t : Int) := by omega
  have z7 : min ai.size q = t := by omega
  have z8 : IntKind.i64.wrap (0 - -(d : Int)) = (d : Int) := by rw [IntKind.wrap_i64]; omega
  have zm : min x y = y := by omega
  have zm2 : min (x : Int) (y : Int) = (y : Int) := by omega
  have k1 : decide (0 < t) = true := by first | (simp; done) | (simp; omega)
  have k2 : decide ((0 : Int) < (t : Int)) = true := by first | (simp; done) | (simp; omega)
  obtain ⟨u, hu⟩ : ∃ u, u = t + d := ⟨_, rfl⟩
  have z9 : IntKind.i64.wrap ((t : Int) - -(d : Int)) = (u : Int) := by rw [IntKind.wrap_i64]; omega
  have z9b : IntKind.i64.wrap ((t : Int) + (d : Int)) = (u : Int) := by rw [IntKind.wrap_i64]; omega
  have i1 : d ≤ u := by omega
  have i2 : t ≤ ai.size := by omega
  have i3 : u ≤ bo.size := by omega
  have i4 : (d : Int) ≤ (u : Int) := by omega
  have i5 : (0 : Int) ≤ (d : Int) := by omega
  rw [← hu] at heq
  have eq2 : ((ai.extract 0 t).toList != (bo.extract d u).toList) = false := by rw [bne, heq]; rfl
  obtain ⟨l, hl⟩ : ∃ l, l = ai.size + d := ⟨_, rfl⟩
  have y1 : IntKind.i64.wrap ((ai.size : Int) - -(d : Int)) = (l : Int) := by rw [IntKind.wrap_i64]; omega
  have y1b : IntKind.i64.wrap ((ai.size : Int) + (d : Int)) = (l : Int) := by rw [IntKind.wrap_i64]; omega
  have y2 : decide (-(d : Int) < 0) = true := by first | (simp; done) | (simp; omega)
  have y2b : decide (0 < d) = true := by first | (simp; done) | (simp; omega)
  have y3 : decide (l < bo.size) = false := by first | (simp; done) | (simp; omega)
  have y3b : decide ((l : Int) < (bo.size : Int)) = false := by first | (simp; done) | (simp; omega)
  have y4b : decide ((0 : Int) < -(d : Int)) = false := by first | (simp; done) | (simp; omega)
  have y5 : decide (q < ai.size) = false := by first | (simp; done) | (simp; omega)
  have y5b : decide ((q : Int) < (ai.size : Int)) = false := by first | (simp; done) | (simp; omega)
  have s0 : d ≤ bo.size := by omega
  have s1 : l ≤ bo.size := by omega
  have s3 : q ≤ ai.size := by omega
  have m1 : (bo.extract 0 d).size + ao.size ≤ 9223372036854775807 := by rw [ByteArray.size_extract]; omega
  clear hu he hk hnf ht hq hl htl hd
  go_enter Tryd.func14, Tryd.ntmps14
  go_wp2
  go_region
  go_wp2
  go_quiet (fail)
  go_wp2
  go_region
  go_wp2
  go_returns
  exact ⟨rfl, (by repeat' (first | with_reducible exact Below.refl _ _ | with_reducible refine Below.drewN' ?_ _ | with_reducible refine below_drew ?_ | with_reducible refine below_far ?_ _ _ (by first | (simp; done) | (simp; omega)) | (with_reducible refine Below.alloc ?_ (by first | (simp; done) | (simp; omega)) _)))⟩

theorem merge_f_A_gt_0 (w : World) (x y d : Nat) (hx : x < 9223372036854775808) (hy : y < 9223372036854775808) (ao ai bo bi : ByteArray) (hsi : ai.size ≤ 1000000000000000) (hso : bo.size ≤ 1000000000000000) (hsao : ao.size ≤ 1000000000000000) (hsbi : bi.size ≤ 1000000000000000) (he : y = x + d) (hnf : ¬ ai.size < d) (t : Nat) (ht : t = min ai.size (d + bo.size)) (hk : d < t) (heq : ((ai.extract d t).toList == (bo.extract 0 (t - d)).toList) = true) (htl : d + bo.size < ai.size) (hz : ¬ 0 < d) :
    Calls Tryd.prog 14 #[.agg #[.int .i64 (x : Int), .string ao, .string ai], .agg #[.int .i64 (y : Int), .string bo, .string bi]] w fun e w' => e = .returned (.tuple #[.agg #[.int .i64 (x : Int), .string (ao), .string (bi ++ ai.extract (d + bo.size) ai.size)], .bool true]) ∧ Below w.heap.size w w' := by
  have p1 : decide ((x : Int) < 0) = false := by first | (simp; done) | (simp; omega)
  have p2 : decide ((y : Int) < 0) = false := by first | (simp; done) | (simp; omega)
  have z1 : IntKind.i64.wrap ((y : Int) - (x : Int)) = (d : Int) := by rw [IntKind.wrap_i64]; omega
  have z3 : IntKind.i64.wrap (-(d : Int)) = -(d : Int) := by rw [IntKind.wrap_i64]; omega
  have g1 : decide (ai.size < d) = false := by first | (simp; done) | (simp; omega)
  have g2 : decide ((ai.size : Int) < (d : Int)) = false := by first | (simp; done) | (simp; omega)
  have g3 : decide ((bo.size : Int) < -(d : Int)) = false := by first | (simp; done) | (simp; omega)
  have z4 : max (d : Int) 0 = (d : Int) := by omega
  obtain ⟨q, hq⟩ : ∃ q, q = d + bo.size := ⟨_, rfl⟩
  have z5 : IntKind.i64.wrap ((d : Int) + (bo.size : Int)) = (q : Int) := by rw [IntKind.wrap_i64]; omega
  have z6 : min (ai.size : Int) (q : Int) = (t : Int) := by omega
  have z7 : min ai.size q = t := by omega
  have z8 : IntKind.i64.wrap ((d : Int) - (d : Int)) = 0 := by rw [IntKind.wrap_i64]; omega
  have z8b : IntKind.i64.wrap 0 = 0 := by rw [IntKind.wrap_i64]; omega
  have zm : min x y = x := by omega
  have zm2 : min (x : Int) (y : Int) = (x : Int) := by omega
  have k1 : decide (d < t) = true := by first | (simp; done) | (simp; omega)
  have k2 : decide ((d : Int) < (t : Int)) = true := by first | (simp; done) | (simp; omega)
  obtain ⟨u, hu⟩ : ∃ u, u = t - d := ⟨_, rfl⟩
  have z9 : IntKind.i64.wrap ((t : Int) - (d : Int)) = (u : Int) := by rw [IntKind.wrap_i64]; omega
  have i1 : d ≤ t := by omega
  have i2 : t ≤ ai.size := by omega
  have i3 : u ≤ bo.size := by omega
  have i4 : (d : Int) ≤ (t : Int) := by omega
  have i5 : (0 : Int) ≤ (d : Int) := by omega
  rw [← hu] at heq
  have eq2 : ((ai.extract d t).toList != (bo.extract 0 u).toList) = false := by rw [bne, heq]; rfl
  obtain ⟨l, hl⟩ : ∃ l, l = ai.size - d := ⟨_, rfl⟩
  have y1 : IntKind.i64.wrap ((ai.size : Int) - (d : Int)) = (l : Int) := by rw [IntKind.wrap_i64]; omega
  have y2 : decide ((d : Int) < 0) = false := by first | (simp; done) | (simp; omega)
  have y3 : decide (l < bo.size) = false := by first | (simp; done) | (simp; omega)
  have y3b : decide ((l : Int) < (bo.size : Int)) = false := by first | (simp; done) | (simp; omega)
  have y4 : decide (0 < d) = false := by first | (simp; done) | (simp; omega)
  have y4b : decide ((0 : Int) < (d : Int)) = false := by first | (simp; done) | (simp; omega)
  have y5 : decide (q < ai.size) = true := by first | (simp; done) | (simp; omega)
  have y5b : decide ((q : Int) < (ai.size : Int)) = true := by first | (simp; done) | (simp; omega)
  have s2 : d ≤ ai.size := by omega
  have s3 : q ≤ ai.size := by omega
  have m3 : (bi).size + (ai.extract q ai.size).size ≤ 9223372036854775807 := by rw [ByteArray.size_extract]; omega
  rw [← hq]
  clear hu he hk hnf ht hq hl htl hz
  go_enter Tryd.func14, Tryd.ntmps14
  go_wp2
  go_region
  go_wp2
  go_quiet (fail)
  go_wp2
  go_region
  go_wp2
  go_returns
  exact ⟨rfl, (by repeat' (first | with_reducible exact Below.refl _ _ | with_reducible refine Below.drewN' ?_ _ | with_reducible refine below_drew ?_ | with_reducible refine below_far ?_ _ _ (by first | (simp; done) | (simp; omega)) | (with_reducible refine Below.alloc ?_ (by first | (simp; done) | (simp; omega)) _)))⟩

theorem merge_f_A_gt_p (w : World) (x y d : Nat) (hx : x < 9223372036854775808) (hy : y < 9223372036854775808) (ao ai bo bi : ByteArray) (hsi : ai.size ≤ 1000000000000000) (hso : bo.size ≤ 1000000000000000) (hsao : ao.size ≤ 1000000000000000) (hsbi : bi.size ≤ 1000000000000000) (he : y = x + d) (hnf : ¬ ai.size < d) (t : Nat) (ht : t = min ai.size (d + bo.size)) (hk : d < t) (heq : ((ai.extract d t).toList == (bo.extract 0 (t - d)).toList) = true) (htl : d + bo.size < ai.size) (hz : 0 < d) :
    Calls Tryd.prog 14 #[.agg #[.int .i64 (x : Int), .string ao, .string ai], .agg #[.int .i64 (y : Int), .string bo, .string bi]] w fun e w' => e = .returned (.tuple #[.agg #[.int .i64 (x : Int), .string (ao), .string (ai.extract 0 d ++ bi ++ ai.extract (d + bo.size) ai.size)], .bool true]) ∧ Below w.heap.size w w' := by
  have p1 : decide ((x : Int) < 0) = false := by first | (simp; done) | (simp; omega)
  have p2 : decide ((y : Int) < 0) = false := by first | (simp; done) | (simp; omega)
  have z1 : IntKind.i64.wrap ((y : Int) - (x : Int)) = (d : Int) := by rw [IntKind.wrap_i64]; omega
  have z3 : IntKind.i64.wrap (-(d : Int)) = -(d : Int) := by rw [IntKind.wrap_i64]; omega
  have g1 : decide (ai.size < d) = false := by first | (simp; done) | (simp; omega)
  have g2 : decide ((ai.size : Int) < (d : Int)) = false := by first | (simp; done) | (simp; omega)
  have g3 : decide ((bo.size : Int) < -(d : Int)) = false := by first | (simp; done) | (simp; omega)
  have z4 : max (d : Int) 0 = (d : Int) := by omega
  obtain ⟨q, hq⟩ : ∃ q, q = d + bo.size := ⟨_, rfl⟩
  have z5 : IntKind.i64.wrap ((d : Int) + (bo.size : Int)) = (q : Int) := by rw [IntKind.wrap_i64]; omega
  have z6 : min (ai.size : Int) (q : Int) = (t : Int) := by omega
  have z7 : min ai.size q = t := by omega
  have z8 : IntKind.i64.wrap ((d : Int) - (d : Int)) = 0 := by rw [IntKind.wrap_i64]; omega
  have z8b : IntKind.i64.wrap 0 = 0 := by rw [IntKind.wrap_i64]; omega
  have zm : min x y = x := by omega
  have zm2 : min (x : Int) (y : Int) = (x : Int) := by omega
  have k1 : decide (d < t) = true := by first | (simp; done) | (simp; omega)
  have k2 : decide ((d : Int) < (t : Int)) = true := by first | (simp; done) | (simp; omega)
  obtain ⟨u, hu⟩ : ∃ u, u = t - d := ⟨_, rfl⟩
  have z9 : IntKind.i64.wrap ((t : Int) - (d : Int)) = (u : Int) := by rw [IntKind.wrap_i64]; omega
  have i1 : d ≤ t := by omega
  have i2 : t ≤ ai.size := by omega
  have i3 : u ≤ bo.size := by omega
  have i4 : (d : Int) ≤ (t : Int) := by omega
  have i5 : (0 : Int) ≤ (d : Int) := by omega
  rw [← hu] at heq
  have eq2 : ((ai.extract d t).toList != (bo.extract 0 u).toList) = false := by rw [bne, heq]; rfl
  obtain ⟨l, hl⟩ : ∃ l, l = ai.size - d := ⟨_, rfl⟩
  have y1 : IntKind.i64.wrap ((ai.size : Int) - (d : Int)) = (l : Int) := by rw [IntKind.wrap_i64]; omega
  have y2 : decide ((d : Int) < 0) = false := by first | (simp; done) | (simp; omega)
  have y3 : decide (l < bo.size) = false := by first | (simp; done) | (simp; omega)
  have y3b : decide ((l : Int) < (bo.size : Int)) = false := by first | (simp; done) | (simp; omega)
  have y4 : decide (0 < d) = true := by first | (simp; done) | (simp; omega)
  have y4b : decide ((0 : Int) < (d : Int)) = true := by first | (simp; done) | (simp; omega)
  have y5 : decide (q < ai.size) = true := by first | (simp; done) | (simp; omega)
  have y5b : decide ((q : Int) < (ai.size : Int)) = true := by first | (simp; done) | (simp; omega)
  have s2 : d ≤ ai.size := by omega
  have s3 : q ≤ ai.size := by omega
  have m2 : (ai.extract 0 d).size + bi.size ≤ 9223372036854775807 := by rw [ByteArray.size_extract]; omega
  have m3 : (ai.extract 0 d ++ bi).size + (ai.extract q ai.size).size ≤ 9223372036854775807 := by rw [ByteArray.size_append, ByteArray.size_extract]; rw [ByteArray.size_extract]; omega
  rw [← hq]
  clear hu he hk hnf ht hq hl htl hz
  go_enter Tryd.func14, Tryd.ntmps14
  go_wp2
  go_region
  go_wp2
  go_quiet (fail)
  go_wp2
  go_region
  go_wp2
  go_region
  go_wp2
  go_returns
  exact ⟨rfl, (by repeat' (first | with_reducible exact Below.refl _ _ | with_reducible refine Below.drewN' ?_ _ | with_reducible refine below_drew ?_ | with_reducible refine below_far ?_ _ _ (by first | (simp; done) | (simp; omega)) | (with_reducible refine Below.alloc ?_ (by first | (simp; done) | (simp; omega)) _)))⟩

theorem merge_b_A_gt (w : World) (x y d : Nat) (hx : x < 9223372036854775808) (hy : y < 9223372036854775808) (ao ai bo bi : ByteArray) (hsi : ai.size ≤ 1000000000000000) (hso : bo.size ≤ 1000000000000000) (hsao : ao.size ≤ 1000000000000000) (hsbi : bi.size ≤ 1000000000000000) (he : x = y + d) (hd : 0 < d) (hnf : ¬ bo.size < d) (t : Nat) (ht : t = min ai.size (bo.size - d)) (hk : 0 < t) (heq : ((ai.extract 0 t).toList == (bo.extract d (t + d)).toList) = true) (htl : bo.size < ai.size + d) :
    Calls Tryd.prog 14 #[.agg #[.int .i64 (x : Int), .string ao, .string ai], .agg #[.int .i64 (y : Int), .string bo, .string bi]] w fun e w' => e = .returned (.tuple #[.agg #[.int .i64 (y : Int), .string (bo.extract 0 d ++ ao), .string (bi ++ ai.extract (bo.size - d) ai.size)], .bool true]) ∧ Below w.heap.size w w' := by
  have p1 : decide ((x : Int) < 0) = false := by first | (simp; done) | (simp; omega)
  have p2 : decide ((y : Int) < 0) = false := by first | (simp; done) | (simp; omega)
  have z1 : IntKind.i64.wrap ((y : Int) - (x : Int)) = -(d : Int) := by rw [IntKind.wrap_i64]; omega
  have z3 : IntKind.i64.wrap (d : Int) = (d : Int) := by rw [IntKind.wrap_i64]; omega
  have z3b : IntKind.i64.wrap (-(-(d : Int))) = (d : Int) := by rw [IntKind.wrap_i64]; omega
  have g1 : decide (bo.size < d) = false := by first | (simp; done) | (simp; omega)
  have g2 : decide ((bo.size : Int) < (d : Int)) = false := by first | (simp; done) | (simp; omega)
  have g3 : decide ((ai.size : Int) < -(d : Int)) = false := by first | (simp; done) | (simp; omega)
  have z4 : max (-(d : Int)) 0 = 0 := by omega
  obtain ⟨q, hq⟩ : ∃ q, q = bo.size - d := ⟨_, rfl⟩
  have z5 : IntKind.i64.wrap (-(d : Int) + (bo.size : Int)) = (q : Int) := by rw [IntKind.wrap_i64]; omega
  have z6 : min (ai.size : Int) (q : Int) = (t : Int) := by omega
  have z7 : min ai.size q = t := by omega
  have z8 : IntKind.i64.wrap (0 - -(d : Int)) = (d : Int) := by rw [IntKind.wrap_i64]; omega
  have zm : min x y = y := by omega
  have zm2 : min (x : Int) (y : Int) = (y : Int) := by omega
  have k1 : decide (0 < t) = true := by first | (simp; done) | (simp; omega)
  have k2 : decide ((0 : Int) < (t : Int)) = true := by first | (simp; done) | (simp; omega)
  obtain ⟨u, hu⟩ : ∃ u, u = t + d := ⟨_, rfl⟩
  have z9 : IntKind.i64.wrap ((t : Int) - -(d : Int)) = (u : Int) := by rw [IntKind.wrap_i64]; omega
  have z9b : IntKind.i64.wrap ((t : Int) + (d : Int)) = (u : Int) := by rw [IntKind.wrap_i64]; omega
  have i1 : d ≤ u := by omega
  have i2 : t ≤ ai.size := by omega
  have i3 : u ≤ bo.size := by omega
  have i4 : (d : Int) ≤ (u : Int) := by omega
  have i5 : (0 : Int) ≤ (d : Int) := by omega
  rw [← hu] at heq
  have eq2 : ((ai.extract 0 t).toList != (bo.extract d u).toList) = false := by rw [bne, heq]; rfl
  obtain ⟨l, hl⟩ : ∃ l, l = ai.size + d := ⟨_, rfl⟩
  have y1 : IntKind.i64.wrap ((ai.size : Int) - -(d : Int)) = (l : Int) := by rw [IntKind.wrap_i64]; omega
  have y1b : IntKind.i64.wrap ((ai.size : Int) + (d : Int)) = (l : Int) := by rw [IntKind.wrap_i64]; omega
  have y2 : decide (-(d : Int) < 0) = true := by first | (simp; done) | (simp; omega)
  have y2b : decide (0 < d) = true := by first | (simp; done) | (simp; omega)
  have y3 : decide (l < bo.size) = false := by first | (simp; done) | (simp; omega)
  have y3b : decide ((l : Int) < (bo.size : Int)) = false := by first | (simp; done) | (simp; omega)
  have y4b : decide ((0 : Int) < -(d : Int)) = false := by first | (simp; done) | (simp; omega)
  have y5 : decide (q < ai.size) = true := by first | (simp; done) | (simp; omega)
  have y5b : decide ((q : Int) < (ai.size : Int)) = true := by first | (simp; done) | (simp; omega)
  have s0 : d ≤ bo.size := by omega
  have s3 : q ≤ ai.size := by omega
  have m1 : (bo.extract 0 d).size + ao.size ≤ 9223372036854775807 := by rw [ByteArray.size_extract]; omega
  have m3 : bi.size + (ai.extract q ai.size).size ≤ 9223372036854775807 := by rw [ByteArray.size_extract]; omega
  rw [← hq]
  clear hu he hk hnf ht hq hl htl hd
  go_enter Tryd.func14, Tryd.ntmps14
  go_wp2
  go_region
  go_wp2
  go_quiet (fail)
  go_wp2
  go_region
  go_wp2
  go_region
  go_wp2
  go_returns
  exact ⟨rfl, (by repeat' (first | with_reducible exact Below.refl _ _ | with_reducible refine Below.drewN' ?_ _ | with_reducible refine below_drew ?_ | with_reducible refine below_far ?_ _ _ (by first | (simp; done) | (simp; omega)) | (with_reducible refine Below.alloc ?_ (by first | (simp; done) | (simp; omega)) _)))⟩

theorem merge_f_B_lt_0 (w : World) (x y d : Nat) (hx : x < 9223372036854775808) (hy : y < 9223372036854775808) (ao ai bo bi : ByteArray) (hsi : ai.size ≤ 1000000000000000) (hso : bo.size ≤ 1000000000000000) (hsao : ao.size ≤ 1000000000000000) (hsbi : bi.size ≤ 1000000000000000) (he : y = x + d) (hnf : ¬ ai.size < d) (t : Nat) (ht : t = min ai.size (d + bo.size)) (hk : ¬ d < t) (htl : ai.size < d + bo.size) (hz : ¬ 0 < d) :
    Calls Tryd.prog 14 #[.agg #[.int .i64 (x : Int), .string ao, .string ai], .agg #[.int .i64 (y : Int), .string bo, .string bi]] w fun e w' => e = .returned (.tuple #[.agg #[.int .i64 (x : Int), .string (ao ++ bo.extract (ai.size - d) bo.size), .string (bi)], .bool true]) ∧ Below w.heap.size w w' := by
  have p1 : decide ((x : Int) < 0) = false := by first | (simp; done) | (simp; omega)
  have p2 : decide ((y : Int) < 0) = false := by first | (simp; done) | (simp; omega)
  have z1 : IntKind.i64.wrap ((y : Int) - (x : Int)) = (d : Int) := by rw [IntKind.wrap_i64]; omega
  have z3 : IntKind.i64.wrap (-(d : Int)) = -(d : Int) := by rw [IntKind.wrap_i64]; omega
  have g1 : decide (ai.size < d) = false := by first | (simp; done) | (simp; omega)
  have g2 : decide ((ai.size : Int) < (d : Int)) = false := by first | (simp; done) | (simp; omega)
  have g3 : decide ((bo.size : Int) < -(d : Int)) = false := by first | (simp; done) | (simp; omega)
  have z4 : max (d : Int) 0 = (d : Int) := by omega
  obtain ⟨q, hq⟩ : ∃ q, q = d + bo.size := ⟨_, rfl⟩
  have z5 : IntKind.i64.wrap ((d : Int) + (bo.size : Int)) = (q : Int) := by rw [IntKind.wrap_i64]; omega
  have z6 : min (ai.size : Int) (q : Int) = (t : Int) := by omega
  have z7 : min ai.size q = t := by omega
  have z8 : IntKind.i64.wrap ((d : Int) - (d : Int)) = 0 := by rw [IntKind.wrap_i64]; omega
  have z8b : IntKind.i64.wrap 0 = 0 := by rw [IntKind.wrap_i64]; omega
  have zm : min x y = x := by omega
  have zm2 : min (x : Int) (y : Int) = (x : Int) := by omega
  have k1 : decide (d < t) = false := by first | (simp; done) | (simp; omega)
  have k2 : decide ((d : Int) < (t : Int)) = false := by first | (simp; done) | (simp; omega)
  obtain ⟨l, hl⟩ : ∃ l, l = ai.size - d := ⟨_, rfl⟩
  have y1 : IntKind.i64.wrap ((ai.size : Int) - (d : Int)) = (l : Int) := by rw [IntKind.wrap_i64]; omega
  have y2 : decide ((d : Int) < 0) = false := by first | (simp; done) | (simp; omega)
  have y3 : decide (l < bo.size) = true := by first | (simp; done) | (simp; omega)
  have y3b : decide ((l : Int) < (bo.size : Int)) = true := by first | (simp; done) | (simp; omega)
  have y4 : decide (0 < d) = false := by first | (simp; done) | (simp; omega)
  have y4b : decide ((0 : Int) < (d : Int)) = false := by first | (simp; done) | (simp; omega)
  have y5 : decide (q < ai.size) = false := by first | (simp; done) | (simp; omega)
  have y5b : decide ((q : Int) < (ai.size : Int)) = false := by first | (simp; done) | (simp; omega)
  have s1 : l ≤ bo.size := by omega
  have s2 : d ≤ ai.size := by omega
  have m1 : ao.size + (bo.extract l bo.size).size ≤ 9223372036854775807 := by rw [ByteArray.size_extract]; omega
  rw [← hl]
  clear he hk hnf ht hq hl htl hz
  go_enter Tryd.func14, Tryd.ntmps14
  go_wp2
  go_region
  go_wp2
  go_quiet (fail)
  go_wp2
  go_region
  go_wp2
  go_returns
  exact ⟨rfl, (by repeat' (first | with_reducible exact Below.refl _ _ | with_reducible refine Below.drewN' ?_ _ | with_reducible refine below_drew ?_ | with_reducible refine below_far ?_ _ _ (by first | (simp; done) | (simp; omega)) | (with_reducible refine Below.alloc ?_ (by first | (simp; done) | (simp; omega)) _)))⟩

theorem merge_f_B_lt_p (w : World) (x y d : Nat) (hx : x < 9223372036854775808) (hy : y < 9223372036854775808) (ao ai bo bi : ByteArray) (hsi : ai.size ≤ 1000000000000000) (hso : bo.size ≤ 1000000000000000) (hsao : ao.size ≤ 1000000000000000) (hsbi : bi.size ≤ 1000000000000000) (he : y = x + d) (hnf : ¬ ai.size < d) (t : Nat) (ht : t = min ai.size (d + bo.size)) (hk : ¬ d < t) (htl : ai.size < d + bo.size) (hz : 0 < d) :
    Calls Tryd.prog 14 #[.agg #[.int .i64 (x : Int), .string ao, .string ai], .agg #[.int .i64 (y : Int), .string bo, .string bi]] w fun e w' => e = .returned (.tuple #[.agg #[.int .i64 (x : Int), .string (ao ++ bo.extract (ai.size - d) bo.size), .string (ai.extract 0 d ++ bi)], .bool true]) ∧ Below w.heap.size w w' := by
  have p1 : decide ((x : Int) < 0) = false := by first | (simp; done) | (simp; omega)
  have p2 : decide ((y : Int) < 0) = false := by first | (simp; done) | (simp; omega)
  have z1 : IntKind.i64.wrap ((y : Int) - (x : Int)) = (d : Int) := by rw [IntKind.wrap_i64]; omega
  have z3 : IntKind.i64.wrap (-(d : Int)) = -(d : Int) := by rw [IntKind.wrap_i64]; omega
  have g1 : decide (ai.size < d) = false := by first | (simp; done) | (simp; omega)
  have g2 : decide ((ai.size : Int) < (d : Int)) = false := by first | (simp; done) | (simp; omega)
  have g3 : decide ((bo.size : Int) < -(d : Int)) = false := by first | (simp; done) | (simp; omega)
  have z4 : max (d : Int) 0 = (d : Int) := by omega
  obtain ⟨q, hq⟩ : ∃ q, q = d + bo.size := ⟨_, rfl⟩
  have z5 : IntKind.i64.wrap ((d : Int) + (bo.size : Int)) = (q : Int) := by rw [IntKind.wrap_i64]; omega
  have z6 : min (ai.size : Int) (q : Int) = (t : Int) := by omega
  have z7 : min ai.size q = t := by omega
  have z8 : IntKind.i64.wrap ((d : Int) - (d : Int)) = 0 := by rw [IntKind.wrap_i64]; omega
  have z8b : IntKind.i64.wrap 0 = 0 := by rw [IntKind.wrap_i64]; omega
  have zm : min x y = x := by omega
  have zm2 : min (x : Int) (y : Int) = (x : Int) := by omega
  have k1 : decide (d < t) = false := by first | (simp; done) | (simp; omega)
  have k2 : decide ((d : Int) < (t : Int)) = false := by first | (simp; done) | (simp; omega)
  obtain ⟨l, hl⟩ : ∃ l, l = ai.size - d := ⟨_, rfl⟩
  have y1 : IntKind.i64.wrap ((ai.size : Int) - (d : Int)) = (l : Int) := by rw [IntKind.wrap_i64]; omega
  have y2 : decide ((d : Int) < 0) = false := by first | (simp; done) | (simp; omega)
  have y3 : decide (l < bo.size) = true := by first | (simp; done) | (simp; omega)
  have y3b : decide ((l : Int) < (bo.size : Int)) = true := by first | (simp; done) | (simp; omega)
  have y4 : decide (0 < d) = true := by first | (simp; done) | (simp; omega)
  have y4b : decide ((0 : Int) < (d : Int)) = true := by first | (simp; done) | (simp; omega)
  have y5 : decide (q < ai.size) = false := by first | (simp; done) | (simp; omega)
  have y5b : decide ((q : Int) < (ai.size : Int)) = false := by first | (simp; done) | (simp; omega)
  have s1 : l ≤ bo.size := by omega
  have s2 : d ≤ ai.size := by omega
  have m1 : ao.size + (bo.extract l bo.size).size ≤ 9223372036854775807 := by rw [ByteArray.size_extract]; omega
  have m2 : (ai.extract 0 d).size + bi.size ≤ 9223372036854775807 := by rw [ByteArray.size_extract]; omega
  rw [← hl]
  clear he hk hnf ht hq hl htl hz
  go_enter Tryd.func14, Tryd.ntmps14
  go_wp2
  go_region
  go_wp2
  go_quiet (fail)
  go_wp2
  go_region
  go_wp2
  go_region
  go_wp2
  go_returns
  exact ⟨rfl, (by repeat' (first | with_reducible exact Below.refl _ _ | with_reducible refine Below.drewN' ?_ _ | with_reducible refine below_drew ?_ | with_reducible refine below_far ?_ _ _ (by first | (simp; done) | (simp; omega)) | (with_reducible refine Below.alloc ?_ (by first | (simp; done) | (simp; omega)) _)))⟩

theorem merge_b_B_lt (w : World) (x y d : Nat) (hx : x < 9223372036854775808) (hy : y < 9223372036854775808) (ao ai bo bi : ByteArray) (hsi : ai.size ≤ 1000000000000000) (hso : bo.size ≤ 1000000000000000) (hsao : ao.size ≤ 1000000000000000) (hsbi : bi.size ≤ 1000000000000000) (he : x = y + d) (hd : 0 < d) (hnf : ¬ bo.size < d) (t : Nat) (ht : t = min ai.size (bo.size - d)) (hk : ¬ 0 < t) (htl : ai.size + d < bo.size) :
    Calls Tryd.prog 14 #[.agg #[.int .i64 (x : Int), .string ao, .string ai], .agg #[.int .i64 (y : Int), .string bo, .string bi]] w fun e w' => e = .returned (.tuple #[.agg #[.int .i64 (y : Int), .string (bo.extract 0 d ++ ao ++ bo.extract (ai.size + d) bo.size), .string (bi)], .bool true]) ∧ Below w.heap.size w w' := by
  have p1 : decide ((x : Int) < 0) = false := by first | (simp; done) | (simp; omega)
  have p2 : decide ((y : Int) < 0) = false := by first | (simp; done) | (simp; omega)
  have z1 : IntKind.i64.wrap ((y : Int) - (x : Int)) = -(d : Int) := by rw [IntKind.wrap_i64]; omega
  have z3 : IntKind.i64.wrap (d : Int) = (d : Int) := by rw [IntKind.wrap_i64]; omega
  have z3b : IntKind.i64.wrap (-(-(d : Int))) = (d : Int) := by rw [IntKind.wrap_i64]; omega
  have g1 : decide (bo.size < d) = false := by first | (simp; done) | (simp; omega)
  have g2 : decide ((bo.size : Int) < (d : Int)) = false := by first | (simp; done) | (simp; omega)
  have g3 : decide ((ai.size : Int) < -(d : Int)) = false := by first | (simp; done) | (simp; omega)
  have z4 : max (-(d : Int)) 0 = 0 := by omega
  obtain ⟨q, hq⟩ : ∃ q, q = bo.size - d := ⟨_, rfl⟩
  have z5 : IntKind.i64.wrap (-(d : Int) + (bo.size : Int)) = (q : Int) := by rw [IntKind.wrap_i64]; omega
  have z6 : min (ai.size : Int) (q : Int) = (t : Int) := by omega
  have z7 : min ai.size q = t := by omega
  have z8 : IntKind.i64.wrap (0 - -(d : Int)) = (d : Int) := by rw [IntKind.wrap_i64]; omega
  have zm : min x y = y := by omega
  have zm2 : min (x : Int) (y : Int) = (y : Int) := by omega
  have k1 : decide (0 < t) = false := by first | (simp; done) | (simp; omega)
  have k2 : decide ((0 : Int) < (t : Int)) = false := by first | (simp; done) | (simp; omega)
  obtain ⟨l, hl⟩ : ∃ l, l = ai.size + d := ⟨_, rfl⟩
  have y1 : IntKind.i64.wrap ((ai.size : Int) - -(d : Int)) = (l : Int) := by rw [IntKind.wrap_i64]; omega
  have y1b : IntKind.i64.wrap ((ai.size : Int) + (d : Int)) = (l : Int) := by rw [IntKind.wrap_i64]; omega
  have y2 : decide (-(d : Int) < 0) = true := by first | (simp; done) | (simp; omega)
  have y2b : decide (0 < d) = true := by first | (simp; done) | (simp; omega)
  have y3 : decide (l < bo.size) = true := by first | (simp; done) | (simp; omega)
  have y3b : decide ((l : Int) < (bo.size : Int)) = true := by first | (simp; done) | (simp; omega)
  have y4b : decide ((0 : Int) < -(d : Int)) = false := by first | (simp; done) | (simp; omega)
  have y5 : decide (q < ai.size) = false := by first | (simp; done) | (simp; omega)
  have y5b : decide ((q : Int) < (ai.size : Int)) = false := by first | (simp; done) | (simp; omega)
  have s0 : d ≤ bo.size := by omega
  have s1 : l ≤ bo.size := by omega
  have m1 : (bo.extract 0 d).size + ao.size ≤ 9223372036854775807 := by rw [ByteArray.size_extract]; omega
  have m2 : (bo.extract 0 d ++ ao).size + (bo.extract l bo.size).size ≤ 9223372036854775807 := by rw [ByteArray.size_append, ByteArray.size_extract, ByteArray.size_extract]; omega
  rw [← hl]
  clear he hk hnf ht hq hl htl hd
  go_enter Tryd.func14, Tryd.ntmps14
  go_wp2
  go_region
  go_wp2
  go_quiet (fail)
  go_wp2
  go_region
  go_wp2
  go_region
  go_wp2
  go_returns
  exact ⟨rfl, (by repeat' (first | with_reducible exact Below.refl _ _ | with_reducible refine Below.drewN' ?_ _ | with_reducible refine below_drew ?_ | with_reducible refine below_far ?_ _ _ (by first | (simp; done) | (simp; omega)) | (with_reducible refine Below.alloc ?_ (by first | (simp; done) | (simp; omega)) _)))⟩

theorem merge_f_B_eq_0 (w : World) (x y d : Nat) (hx : x < 9223372036854775808) (hy : y < 9223372036854775808) (ao ai bo bi : ByteArray) (hsi : ai.size ≤ 1000000000000000) (hso : bo.size ≤ 1000000000000000) (hsao : ao.size ≤ 1000000000000000) (hsbi : bi.size ≤ 1000000000000000) (he : y = x + d) (hnf : ¬ ai.size < d) (t : Nat) (ht : t = min ai.size (d + bo.size)) (hk : ¬ d < t) (htl : ai.size = d + bo.size) (hz : ¬ 0 < d) :
    Calls Tryd.prog 14 #[.agg #[.int .i64 (x : Int), .string ao, .string ai], .agg #[.int .i64 (y : Int), .string bo, .string bi]] w fun e w' => e = .returned (.tuple #[.agg #[.int .i64 (x : Int), .string (ao), .string (bi)], .bool true]) ∧ Below w.heap.size w w' := by
  have p1 : decide ((x : Int) < 0) = false := by first | (simp; done) | (simp; omega)
  have p2 : decide ((y : Int) < 0) = false := by first | (simp; done) | (simp; omega)
  have z1 : IntKind.i64.wrap ((y : Int) - (x : Int)) = (d : Int) := by rw [IntKind.wrap_i64]; omega
  have z3 : IntKind.i64.wrap (-(d : Int)) = -(d : Int) := by rw [IntKind.wrap_i64]; omega
  have g1 : decide (ai.size < d) = false := by first | (simp; done) | (simp; omega)
  have g2 : decide ((ai.size : Int) < (d : Int)) = false := by first | (simp; done) | (simp; omega)
  have g3 : decide ((bo.size : Int) < -(d : Int)) = false := by first | (simp; done) | (simp; omega)
  have z4 : max (d : Int) 0 = (d : Int) := by omega
  obtain ⟨q, hq⟩ : ∃ q, q = d + bo.size := ⟨_, rfl⟩
  have z5 : IntKind.i64.wrap ((d : Int) + (bo.size : Int)) = (q : Int) := by rw [IntKind.wrap_i64]; omega
  have z6 : min (ai.size : Int) (q : Int) = (t : Int) := by omega
  have z7 : min ai.size q = t := by omega
  have z8 : IntKind.i64.wrap ((d : Int) - (d : Int)) = 0 := by rw [IntKind.wrap_i64]; omega
  have z8b : IntKind.i64.wrap 0 = 0 := by rw [IntKind.wrap_i64]; omega
  have zm : min x y = x := by omega
  have zm2 : min (x : Int) (y : Int) = (x : Int) := by omega
  have k1 : decide (d < t) = false := by first | (simp; done) | (simp; omega)
  have k2 : decide ((d : Int) < (t : Int)) = false := by first | (simp; done) | (simp; omega)
  obtain ⟨l, hl⟩ : ∃ l, l = ai.size - d := ⟨_, rfl⟩
  have y1 : IntKind.i64.wrap ((ai.size : Int) - (d : Int)) = (l : Int) := by rw [IntKind.wrap_i64]; omega
  have y2 : decide ((d : Int) < 0) = false := by first | (simp; done) | (simp; omega)
  have y3 : decide (l < bo.size) = false := by first | (simp; done) | (simp; omega)
  have y3b : decide ((l : Int) < (bo.size : Int)) = false := by first | (simp; done) | (simp; omega)
  have y4 : decide (0 < d) = false := by first | (simp; done) | (simp; omega)
  have y4b : decide ((0 : Int) < (d : Int)) = false := by first | (simp; done) | (simp; omega)
  have y5 : decide (q < ai.size) = false := by first | (simp; done) | (simp; omega)
  have y5b : decide ((q : Int) < (ai.size : Int)) = false := by first | (simp; done) | (simp; omega)
  have s1 : l ≤ bo.size := by omega
  have s2 : d ≤ ai.size := by omega
  have s3 : q ≤ ai.size := by omega
  clear he hk hnf ht hq hl htl hz
  go_enter Tryd.func14, Tryd.ntmps14
  go_wp2
  go_region
  go_wp2
  go_quiet (fail)
  go_wp2
  go_returns
  exact ⟨rfl, (by repeat' (first | with_reducible exact Below.refl _ _ | with_reducible refine Below.drewN' ?_ _ | with_reducible refine below_drew ?_ | with_reducible refine below_far ?_ _ _ (by first | (simp; done) | (simp; omega)) | (with_reducible refine Below.alloc ?_ (by first | (simp; done) | (simp; omega)) _)))⟩

theorem merge_f_B_eq_p (w : World) (x y d : Nat) (hx : x < 9223372036854775808) (hy : y < 9223372036854775808) (ao ai bo bi : ByteArray) (hsi : ai.size ≤ 1000000000000000) (hso : bo.size ≤ 1000000000000000) (hsao : ao.size ≤ 1000000000000000) (hsbi : bi.size ≤ 1000000000000000) (he : y = x + d) (hnf : ¬ ai.size < d) (t : Nat) (ht : t = min ai.size (d + bo.size)) (hk : ¬ d < t) (htl : ai.size = d + bo.size) (hz : 0 < d) :
    Calls Tryd.prog 14 #[.agg #[.int .i64 (x : Int), .string ao, .string ai], .agg #[.int .i64 (y : Int), .string bo, .string bi]] w fun e w' => e = .returned (.tuple #[.agg #[.int .i64 (x : Int), .string (ao), .string (ai.extract 0 d ++ bi)], .bool true]) ∧ Below w.heap.size w w' := by
  have p1 : decide ((x : Int) < 0) = false := by first | (simp; done) | (simp; omega)
  have p2 : decide ((y : Int) < 0) = false := by first | (simp; done) | (simp; omega)
  have z1 : IntKind.i64.wrap ((y : Int) - (x : Int)) = (d : Int) := by rw [IntKind.wrap_i64]; omega
  have z3 : IntKind.i64.wrap (-(d : Int)) = -(d : Int) := by rw [IntKind.wrap_i64]; omega
  have g1 : decide (ai.size < d) = false := by first | (simp; done) | (simp; omega)
  have g2 : decide ((ai.size : Int) < (d : Int)) = false := by first | (simp; done) | (simp; omega)
  have g3 : decide ((bo.size : Int) < -(d : Int)) = false := by first | (simp; done) | (simp; omega)
  have z4 : max (d : Int) 0 = (d : Int) := by omega
  obtain ⟨q, hq⟩ : ∃ q, q = d + bo.size := ⟨_, rfl⟩
  have z5 : IntKind.i64.wrap ((d : Int) + (bo.size : Int)) = (q : Int) := by rw [IntKind.wrap_i64]; omega
  have z6 : min (ai.size : Int) (q : Int) = (t : Int) := by omega
  have z7 : min ai.size q = t := by omega
  have z8 : IntKind.i64.wrap ((d : Int) - (d : Int)) = 0 := by rw [IntKind.wrap_i64]; omega
  have z8b : IntKind.i64.wrap 0 = 0 := by rw [IntKind.wrap_i64]; omega
  have zm : min x y = x := by omega
  have zm2 : min (x : Int) (y : Int) = (x : Int) := by omega
  have k1 : decide (d < t) = false := by first | (simp; done) | (simp; omega)
  have k2 : decide ((d : Int) < (t : Int)) = false := by first | (simp; done) | (simp; omega)
  obtain ⟨l, hl⟩ : ∃ l, l = ai.size - d := ⟨_, rfl⟩
  have y1 : IntKind.i64.wrap ((ai.size : Int) - (d : Int)) = (l : Int) := by rw [IntKind.wrap_i64]; omega
  have y2 : decide ((d : Int) < 0) = false := by first | (simp; done) | (simp; omega)
  have y3 : decide (l < bo.size) = false := by first | (simp; done) | (simp; omega)
  have y3b : decide ((l : Int) < (bo.size : Int)) = false := by first | (simp; done) | (simp; omega)
  have y4 : decide (0 < d) = true := by first | (simp; done) | (simp; omega)
  have y4b : decide ((0 : Int) < (d : Int)) = true := by first | (simp; done) | (simp; omega)
  have y5 : decide (q < ai.size) = false := by first | (simp; done) | (simp; omega)
  have y5b : decide ((q : Int) < (ai.size : Int)) = false := by first | (simp; done) | (simp; omega)
  have s1 : l ≤ bo.size := by omega
  have s2 : d ≤ ai.size := by omega
  have s3 : q ≤ ai.size := by omega
  have m2 : (ai.extract 0 d).size + bi.size ≤ 9223372036854775807 := by rw [ByteArray.size_extract]; omega
  clear he hk hnf ht hq hl htl hz
  go_enter Tryd.func14, Tryd.ntmps14
  go_wp2
  go_region
  go_wp2
  go_quiet (fail)
  go_wp2
  go_region
  go_wp2
  go_returns
  exact ⟨rfl, (by repeat' (first | with_reducible exact Below.refl _ _ | with_reducible refine Below.drewN' ?_ _ | with_reducible refine below_drew ?_ | with_reducible refine below_far ?_ _ _ (by first | (simp; done) | (simp; omega)) | (with_reducible refine Below.alloc ?_ (by first | (simp; done) | (simp; omega)) _)))⟩

theorem merge_b_B_eq (w : World) (x y d : Nat) (hx : x < 9223372036854775808) (hy : y < 9223372036854775808) (ao ai bo bi : ByteArray) (hsi : ai.size ≤ 1000000000000000) (hso : bo.size ≤ 1000000000000000) (hsao : ao.size ≤ 1000000000000000) (hsbi : bi.size ≤ 1000000000000000) (he : x = y + d) (hd : 0 < d) (hnf : ¬ bo.size < d) (t : Nat) (ht : t = min ai.size (bo.size - d)) (hk : ¬ 0 < t) (htl : ai.size + d = bo.size) :
    Calls Tryd.prog 14 #[.agg #[.int .i64 (x : Int), .string ao, .string ai], .agg #[.int .i64 (y : Int), .string bo, .string bi]] w fun e w' => e = .returned (.tuple #[.agg #[.int .i64 (y : Int), .string (bo.extract 0 d ++ ao), .string (bi)], .bool true]) ∧ Below w.heap.size w w' := by
  have p1 : decide ((x : Int) < 0) = false := by first | (simp; done) | (simp; omega)
  have p2 : decide ((y : Int) < 0) = false := by first | (simp; done) | (simp; omega)
  have z1 : IntKind.i64.wrap ((y : Int) - (x : Int)) = -(d : Int) := by rw [IntKind.wrap_i64]; omega
  have z3 : IntKind.i64.wrap (d : Int) = (d : Int) := by rw [IntKind.wrap_i64]; omega
  have z3b : IntKind.i64.wrap (-(-(d : Int))) = (d : Int) := by rw [IntKind.wrap_i64]; omega
  have g1 : decide (bo.size < d) = false := by first | (simp; done) | (simp; omega)
  have g2 : decide ((bo.size : Int) < (d : Int)) = false := by first | (simp; done) | (simp; omega)
  have g3 : decide ((ai.size : Int) < -(d : Int)) = false := by first | (simp; done) | (simp; omega)
  have z4 : max (-(d : Int)) 0 = 0 := by omega
  obtain ⟨q, hq⟩ : ∃ q, q = bo.size - d := ⟨_, rfl⟩
  have z5 : IntKind.i64.wrap (-(d : Int) + (bo.size : Int)) = (q : Int) := by rw [IntKind.wrap_i64]; omega
  have z6 : min (ai.size : Int) (q : Int) = (t : Int) := by omega
  have z7 : min ai.size q = t := by omega
  have z8 : IntKind.i64.wrap (0 - -(d : Int)) = (d : Int) := by rw [IntKind.wrap_i64]; omega
  have zm : min x y = y := by omega
  have zm2 : min (x : Int) (y : Int) = (y : Int) := by omega
  have k1 : decide (0 < t) = false := by first | (simp; done) | (simp; omega)
  have k2 : decide ((0 : Int) < (t : Int)) = false := by first | (simp; done) | (simp; omega)
  obtain ⟨l, hl⟩ : ∃ l, l = ai.size + d := ⟨_, rfl⟩
  have y1 : IntKind.i64.wrap ((ai.size : Int) - -(d : Int)) = (l : Int) := by rw [IntKind.wrap_i64]; omega
  have y1b : IntKind.i64.wrap ((ai.size : Int) + (d : Int)) = (l : Int) := by rw [IntKind.wrap_i64]; omega
  have y2 : decide (-(d : Int) < 0) = true := by first | (simp; done) | (simp; omega)
  have y2b : decide (0 < d) = true := by first | (simp; done) | (simp; omega)
  have y3 : decide (l < bo.size) = false := by first | (simp; done) | (simp; omega)
  have y3b : decide ((l : Int) < (bo.size : Int)) = false := by first | (simp; done) | (simp; omega)
  have y4b : decide ((0 : Int) < -(d : Int)) = false := by first | (simp; done) | (simp; omega)
  have y5 : decide (q < ai.size) = false := by first | (simp; done) | (simp; omega)
  have y5b : decide ((q : Int) < (ai.size : Int)) = false := by first | (simp; done) | (simp; omega)
  have s0 : d ≤ bo.size := by omega
  have s1 : l ≤ bo.size := by omega
  have s3 : q ≤ ai.size := by omega
  have m1 : (bo.extract 0 d).size + ao.size ≤ 9223372036854775807 := by rw [ByteArray.size_extract]; omega
  clear he hk hnf ht hq hl htl hd
  go_enter Tryd.func14, Tryd.ntmps14
  go_wp2
  go_region
  go_wp2
  go_quiet (fail)
  go_wp2
  go_region
  go_wp2
  go_returns
  exact ⟨rfl, (by repeat' (first | with_reducible exact Below.refl _ _ | with_reducible refine Below.drewN' ?_ _ | with_reducible refine below_drew ?_ | with_reducible refine below_far ?_ _ _ (by first | (simp; done) | (simp; omega)) | (with_reducible refine Below.alloc ?_ (by first | (simp; done) | (simp; omega)) _)))⟩

theorem merge_f_B_gt_0 (w : World) (x y d : Nat) (hx : x < 9223372036854775808) (hy : y < 9223372036854775808) (ao ai bo bi : ByteArray) (hsi : ai.size ≤ 1000000000000000) (hso : bo.size ≤ 1000000000000000) (hsao : ao.size ≤ 1000000000000000) (hsbi : bi.size ≤ 1000000000000000) (he : y = x + d) (hnf : ¬ ai.size < d) (t : Nat) (ht : t = min ai.size (d + bo.size)) (hk : ¬ d < t) (htl : d + bo.size < ai.size) (hz : ¬ 0 < d) :
    Calls Tryd.prog 14 #[.agg #[.int .i64 (x : Int), .string ao, .string ai], .agg #[.int .i64 (y : Int), .string bo, .string bi]] w fun e w' => e = .returned (.tuple #[.agg #[.int .i64 (x : Int), .string (ao), .string (bi ++ ai.extract (d + bo.size) ai.size)], .bool true]) ∧ Below w.heap.size w w' := by
  have p1 : decide ((x : Int) < 0) = false := by first | (simp; done) | (simp; omega)
  have p2 : decide ((y : Int) < 0) = false := by first | (simp; done) | (simp; omega)
  have z1 : IntKind.i64.wrap ((y : Int) - (x : Int)) = (d : Int) := by rw [IntKind.wrap_i64]; omega
  have z3 : IntKind.i64.wrap (-(d : Int)) = -(d : Int) := by rw [IntKind.wrap_i64]; omega
  have g1 : decide (ai.size < d) = false := by first | (simp; done) | (simp; omega)
  have g2 : decide ((ai.size : Int) < (d : Int)) = false := by first | (simp; done) | (simp; omega)
  have g3 : decide ((bo.size : Int) < -(d : Int)) = false := by first | (simp; done) | (simp; omega)
  have z4 : max (d : Int) 0 = (d : Int) := by omega
  obtain ⟨q, hq⟩ : ∃ q, q = d + bo.size := ⟨_, rfl⟩
  have z5 : IntKind.i64.wrap ((d : Int) + (bo.size : Int)) = (q : Int) := by rw [IntKind.wrap_i64]; omega
  have z6 : min (ai.size : Int) (q : Int) = (t : Int) := by omega
  have z7 : min ai.size q = t := by omega
  have z8 : IntKind.i64.wrap ((d : Int) - (d : Int)) = 0 := by rw [IntKind.wrap_i64]; omega
  have z8b : IntKind.i64.wrap 0 = 0 := by rw [IntKind.wrap_i64]; omega
  have zm : min x y = x := by omega
  have zm2 : min (x : Int) (y : Int) = (x : Int) := by omega
  have k1 : decide (d < t) = false := by first | (simp; done) | (simp; omega)
  have k2 : decide ((d : Int) < (t : Int)) = false := by first | (simp; done) | (simp; omega)
  obtain ⟨l, hl⟩ : ∃ l, l = ai.size - d := ⟨_, rfl⟩
  have y1 : IntKind.i64.wrap ((ai.size : Int) - (d : Int)) = (l : Int) := by rw [IntKind.wrap_i64]; omega
  have y2 : decide ((d : Int) < 0) = false := by first | (simp; done) | (simp; omega)
  have y3 : decide (l < bo.size) = false := by first | (simp; done) | (simp; omega)
  have y3b : decide ((l : Int) < (bo.size : Int)) = false := by first | (simp; done) | (simp; omega)
  have y4 : decide (0 < d) = false := by first | (simp; done) | (simp; omega)
  have y4b : decide ((0 : Int) < (d : Int)) = false := by first | (simp; done) | (simp; omega)
  have y5 : decide (q < ai.size) = true := by first | (simp; done) | (simp; omega)
  have y5b : decide ((q : Int) < (ai.size : Int)) = true := by first | (simp; done) | (simp; omega)
  have s2 : d ≤ ai.size := by omega
  have s3 : q ≤ ai.size := by omega
  have m3 : (bi).size + (ai.extract q ai.size).size ≤ 9223372036854775807 := by rw [ByteArray.size_extract]; omega
  rw [← hq]
  clear he hk hnf ht hq hl htl hz
  go_enter Tryd.func14, Tryd.ntmps14
  go_wp2
  go_region
  go_wp2
  go_quiet (fail)
  go_wp2
  go_region
  go_wp2
  go_returns
  exact ⟨rfl, (by repeat' (first | with_reducible exact Below.refl _ _ | with_reducible refine Below.drewN' ?_ _ | with_reducible refine below_drew ?_ | with_reducible refine below_far ?_ _ _ (by first | (simp; done) | (simp; omega)) | (with_reducible refine Below.alloc ?_ (by first | (simp; done) | (simp; omega)) _)))⟩

theorem merge_f_B_gt_p (w : World) (x y d : Nat) (hx : x < 9223372036854775808) (hy : y < 9223372036854775808) (ao ai bo bi : ByteArray) (hsi : ai.size ≤ 1000000000000000) (hso : bo.size ≤ 1000000000000000) (hsao : ao.size ≤ 1000000000000000) (hsbi : bi.size ≤ 1000000000000000) (he : y = x + d) (hnf : ¬ ai.size < d) (t : Nat) (ht : t = min ai.size (d + bo.size)) (hk : ¬ d < t) (htl : d + bo.size < ai.size) (hz : 0 < d) :
    Calls Tryd.prog 14 #[.agg #[.int .i64 (x : Int), .string ao, .string ai], .agg #[.int .i64 (y : Int), .string bo, .string bi]] w fun e w' => e = .returned (.tuple #[.agg #[.int .i64 (x : Int), .string (ao), .string (ai.extract 0 d ++ bi ++ ai.extract (d + bo.size) ai.size)], .bool true]) ∧ Below w.heap.size w w' := by
  have p1 : decide ((x : Int) < 0) = false := by first | (simp; done) | (simp; omega)
  have p2 : decide ((y : Int) < 0) = false := by first | (simp; done) | (simp; omega)
  have z1 : IntKind.i64.wrap ((y : Int) - (x : Int)) = (d : Int) := by rw [IntKind.wrap_i64]; omega
  have z3 : IntKind.i64.wrap (-(d : Int)) = -(d : Int) := by rw [IntKind.wrap_i64]; omega
  have g1 : decide (ai.size < d) = false := by first | (simp; done) | (simp; omega)
  have g2 : decide ((ai.size : Int) < (d : Int)) = false := by first | (simp; done) | (simp; omega)
  have g3 : decide ((bo.size : Int) < -(d : Int)) = false := by first | (simp; done) | (simp; omega)
  have z4 : max (d : Int) 0 = (d : Int) := by omega
  obtain ⟨q, hq⟩ : ∃ q, q = d + bo.size := ⟨_, rfl⟩
  have z5 : IntKind.i64.wrap ((d : Int) + (bo.size : Int)) = (q : Int) := by rw [IntKind.wrap_i64]; omega
  have z6 : min (ai.size : Int) (q : Int) = (t : Int) := by omega
  have z7 : min ai.size q = t := by omega
  have z8 : IntKind.i64.wrap ((d : Int) - (d : Int)) = 0 := by rw [IntKind.wrap_i64]; omega
  have z8b : IntKind.i64.wrap 0 = 0 := by rw [IntKind.wrap_i64]; omega
  have zm : min x y = x := by omega
  have zm2 : min (x : Int) (y : Int) = (x : Int) := by omega
  have k1 : decide (d < t) = false := by first | (simp; done) | (simp; omega)
  have k2 : decide ((d : Int) < (t : Int)) = false := by first | (simp; done) | (simp; omega)
  obtain ⟨l, hl⟩ : ∃ l, l = ai.size - d := ⟨_, rfl⟩
  have y1 : IntKind.i64.wrap ((ai.size : Int) - (d : Int)) = (l : Int) := by rw [IntKind.wrap_i64]; omega
  have y2 : decide ((d : Int) < 0) = false := by first | (simp; done) | (simp; omega)
  have y3 : decide (l < bo.size) = false := by first | (simp; done) | (simp; omega)
  have y3b : decide ((l : Int) < (bo.size : Int)) = false := by first | (simp; done) | (simp; omega)
  have y4 : decide (0 < d) = true := by first | (simp; done) | (simp; omega)
  have y4b : decide ((0 : Int) < (d : Int)) = true := by first | (simp; done) | (simp; omega)
  have y5 : decide (q < ai.size) = true := by first | (simp; done) | (simp; omega)
  have y5b : decide ((q : Int) < (ai.size : Int)) = true := by first | (simp; done) | (simp; omega)
  have s2 : d ≤ ai.size := by omega
  have s3 : q ≤ ai.size := by omega
  have m2 : (ai.extract 0 d).size + bi.size ≤ 9223372036854775807 := by rw [ByteArray.size_extract]; omega
  have m3 : (ai.extract 0 d ++ bi).size + (ai.extract q ai.size).size ≤ 9223372036854775807 := by rw [ByteArray.size_append, ByteArray.size_extract]; rw [ByteArray.size_extract]; omega
  rw [← hq]
  clear he hk hnf ht hq hl htl hz
  go_enter Tryd.func14, Tryd.ntmps14
  go_wp2
  go_region
  go_wp2
  go_quiet (fail)
  go_wp2
  go_region
  go_wp2
  go_region
  go_wp2
  go_returns
  exact ⟨rfl, (by repeat' (first | with_reducible exact Below.refl _ _ | with_reducible refine Below.drewN' ?_ _ | with_reducible refine below_drew ?_ | with_reducible refine below_far ?_ _ _ (by first | (simp; done) | (simp; omega)) | (with_reducible refine Below.alloc ?_ (by first | (simp; done) | (simp; omega)) _)))⟩

theorem merge_b_B_gt (w : World) (x y d : Nat) (hx : x < 9223372036854775808) (hy : y < 9223372036854775808) (ao ai bo bi : ByteArray) (hsi : ai.size ≤ 1000000000000000) (hso : bo.size ≤ 1000000000000000) (hsao : ao.size ≤ 1000000000000000) (hsbi : bi.size ≤ 1000000000000000) (he : x = y + d) (hd : 0 < d) (hnf : ¬ bo.size < d) (t : Nat) (ht : t = min ai.size (bo.size - d)) (hk : ¬ 0 < t) (htl : bo.size < ai.size + d) :
    Calls Tryd.prog 14 #[.agg #[.int .i64 (x : Int), .string ao, .string ai], .agg #[.int .i64 (y : Int), .string bo, .string bi]] w fun e w' => e = .returned (.tuple #[.agg #[.int .i64 (y : Int), .string (bo.extract 0 d ++ ao), .string (bi ++ ai.extract (bo.size - d) ai.size)], .bool true]) ∧ Below w.heap.size w w' := by
  have p1 : decide ((x : Int) < 0) = false := by first | (simp; done) | (simp; omega)
  have p2 : decide ((y : Int) < 0) = false := by first | (simp; done) | (simp; omega)
  have z1 : IntKind.i64.wrap ((y : Int) - (x : Int)) = -(d : Int) := by rw [IntKind.wrap_i64]; omega
  have z3 : IntKind.i64.wrap (d : Int) = (d : Int) := by rw [IntKind.wrap_i64]; omega
  have z3b : IntKind.i64.wrap (-(-(d : Int))) = (d : Int) := by rw [IntKind.wrap_i64]; omega
  have g1 : decide (bo.size < d) = false := by first | (simp; done) | (simp; omega)
  have g2 : decide ((bo.size : Int) < (d : Int)) = false := by first | (simp; done) | (simp; omega)
  have g3 : decide ((ai.size : Int) < -(d : Int)) = false := by first | (simp; done) | (simp; omega)
  have z4 : max (-(d : Int)) 0 = 0 := by omega
  obtain ⟨q, hq⟩ : ∃ q, q = bo.size - d := ⟨_, rfl⟩
  have z5 : IntKind.i64.wrap (-(d : Int) + (bo.size : Int)) = (q : Int) := by rw [IntKind.wrap_i64]; omega
  have z6 : min (ai.size : Int) (q : Int) = (t : Int) := by omega
  have z7 : min ai.size q = t := by omega
  have z8 : IntKind.i64.wrap (0 - -(d : Int)) = (d : Int) := by rw [IntKind.wrap_i64]; omega
  have zm : min x y = y := by omega
  have zm2 : min (x : Int) (y : Int) = (y : Int) := by omega
  have k1 : decide (0 < t) = false := by first | (simp; done) | (simp; omega)
  have k2 : decide ((0 : Int) < (t : Int)) = false := by first | (simp; done) | (simp; omega)
  obtain ⟨l, hl⟩ : ∃ l, l = ai.size + d := ⟨_, rfl⟩
  have y1 : IntKind.i64.wrap ((ai.size : Int) - -(d : Int)) = (l : Int) := by rw [IntKind.wrap_i64]; omega
  have y1b : IntKind.i64.wrap ((ai.size : Int) + (d : Int)) = (l : Int) := by rw [IntKind.wrap_i64]; omega
  have y2 : decide (-(d : Int) < 0) = true := by first | (simp; done) | (simp; omega)
  have y2b : decide (0 < d) = true := by first | (simp; done) | (simp; omega)
  have y3 : decide (l < bo.size) = false := by first | (simp; done) | (simp; omega)
  have y3b : decide ((l : Int) < (bo.size : Int)) = false := by first | (simp; done) | (simp; omega)
  have y4b : decide ((0 : Int) < -(d : Int)) = false := by first | (simp; done) | (simp; omega)
  have y5 : decide (q < ai.size) = true := by first | (simp; done) | (simp; omega)
  have y5b : decide ((q : Int) < (ai.size : Int)) = true := by first | (simp; done) | (simp; omega)
  have s0 : d ≤ bo.size := by omega
  have s3 : q ≤ ai.size := by omega
  have m1 : (bo.extract 0 d).size + ao.size ≤ 9223372036854775807 := by rw [ByteArray.size_extract]; omega
  have m3 : bi.size + (ai.extract q ai.size).size ≤ 9223372036854775807 := by rw [ByteArray.size_extract]; omega
  rw [← hq]
  clear he hk hnf ht hq hl htl hd
  go_enter Tryd.func14, Tryd.ntmps14
  go_wp2
  go_region
  go_wp2
  go_quiet (fail)
  go_wp2
  go_region
  go_wp2
  go_region
  go_wp2
  go_returns
  exact ⟨rfl, (by repeat' (first | with_reducible exact Below.refl _ _ | with_reducible refine Below.drewN' ?_ _ | with_reducible refine below_drew ?_ | with_reducible refine below_far ?_ _ _ (by first | (simp; done) | (simp; omega)) | (with_reducible refine Below.alloc ?_ (by first | (simp; done) | (simp; omega)) _)))⟩

end Log
end Go.Proofs.YtkpcnfchhnfpoaaDoor