/- Merge told on texts. Plain, no program. -/
import Derived.Test.YtkpcnfchhnfpoaaDoorPlain
set_option linter.unusedVariables false
namespace Go.Proofs.YtkpcnfchhnfpoaaDoor
namespace Log
/-- b begins d behind a's beginning. -/
def mOkF (d : Nat) (ai bo : ByteArray) : Bool := decide (d ≤ ai.size) && (decide (min ai.size (d + bo.size) ≤ d) || (ai.extract d (min ai.size (d + bo.size))).toList == (bo.extract 0 (min ai.size (d + bo.size) - d)).toList)
def mDoF (x d : Nat) (ao ai bo bi : ByteArray) : Delta := ((x : Int), ao ++ bo.extract (ai.size - d) bo.size, ai.extract 0 d ++ bi ++ ai.extract (d + bo.size) ai.size)
/-- a begins e behind b's beginning. -/
def mOkB (e : Nat) (ai bo : ByteArray) : Bool := decide (e ≤ bo.size) && (decide (min ai.size (bo.size - e) ≤ 0) || (ai.extract 0 (min ai.size (bo.size - e))).toList == (bo.extract e (min ai.size (bo.size - e) + e)).toList)
def mDoB (y e : Nat) (ao ai bo bi : ByteArray) : Delta := ((y : Int), bo.extract 0 e ++ ao ++ bo.extract (ai.size + e) bo.size, bi ++ ai.extract (bo.size - e) ai.size)
def merge (a b : Delta) : Option Delta :=
  if a.1 < 0 ∨ b.1 < 0 then none
  else if a.1 ≤ b.1 then (if mOkF (b.1 - a.1).toNat a.2.2 b.2.1 = true then some (mDoF a.1.toNat (b.1 - a.1).toNat a.2.1 a.2.2 b.2.1 b.2.2) else none)
  else (if mOkB (a.1 - b.1).toNat a.2.2 b.2.1 = true then some (mDoB b.1.toNat (a.1 - b.1).toNat a.2.1 a.2.2 b.2.1 b.2.2) else none)
def mD (a b : Delta) : Delta := (merge a b).getD D0
def mB (a b : Delta) : Bool := (merge a b).isSome
theorem merge_neg {a b : Delta} (h : a.1 < 0 ∨ b.1 < 0) : merge a b = none := if_pos h
theorem merge_f (x d : Nat) (ao ai bo bi : ByteArray) : merge ((x : Int), ao, ai) (((x + d : Nat) : Int), bo, bi) = if mOkF d ai bo = true then some (mDoF x d ao ai bo bi) else none := by
  unfold merge
  dsimp only
  rw [if_neg (by omega), if_pos (by omega), show (((x + d : Nat) : Int) - (x : Int)).toNat = d by omega, Int.toNat_natCast]
theorem merge_b (y e : Nat) (he : 0 < e) (ao ai bo bi : ByteArray) : merge (((y + e : Nat) : Int), ao, ai) ((y : Int), bo, bi) = if mOkB e ai bo = true then some (mDoB y e ao ai bo bi) else none := by
  unfold merge
  dsimp only
  rw [if_neg (by omega), if_neg (by omega), show (((y + e : Nat) : Int) - (y : Int)).toNat = e by omega, Int.toNat_natCast]
theorem ext_none {a : ByteArray} {i j : Nat} (h : j ≤ i) : a.extract i j = ByteArray.empty := by
  apply ByteArray.ext
  simp only [ByteArray.data_extract]
  rw [Array.extract_eq_empty_iff.2 (by omega)]
  rfl
theorem emp_app (a : ByteArray) : ByteArray.empty ++ a = a := by apply ByteArray.ext; simp
theorem app_emp (a : ByteArray) : a ++ ByteArray.empty = a := by apply ByteArray.ext; simp
end Log
end Go.Proofs.YtkpcnfchhnfpoaaDoor
