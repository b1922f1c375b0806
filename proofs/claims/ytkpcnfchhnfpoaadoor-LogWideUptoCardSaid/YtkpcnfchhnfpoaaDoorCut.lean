/- cutAt: a delta that fits a text. -/
import Derived.Test.YtkpcnfchhnfpoaaDoorFixed
import Derived.Test.YtkpcnfchhnfpoaaDoorMrgLaw
set_option linter.unusedVariables false
namespace Go.Proofs.YtkpcnfchhnfpoaaDoor
open Go.RowKit Go.Proofs.YtkpcnfchhnfpoaaDoorW.PrintWords Go.Proofs.YtkpcnfchhnfpoaaDoor.Sep Log
namespace Log
/-- An edit: where, how many, what. -/
abbrev Edit := Int × Int × ByteArray
def cI (t : ByteArray) (e : Edit) : Nat := (e.1 % 18446744073709551616).toNat % (t.size + 1)
def cN (t : ByteArray) (e : Edit) : Nat := (e.2.1 % 18446744073709551616).toNat % (t.size - cI t e + 1)
def cutD (t : ByteArray) (e : Edit) : Delta := ((cI t e : Int), t.extract (cI t e) (cI t e + cN t e), e.2.2)
theorem cut_le (t : ByteArray) (e : Edit) : cI t e ≤ t.size ∧ cI t e + cN t e ≤ t.size := by
  have h1 : cI t e ≤ t.size := Nat.le_of_lt_succ (Nat.mod_lt _ (Nat.succ_pos _))
  have h2 : cN t e ≤ t.size - cI t e := Nat.le_of_lt_succ (Nat.mod_lt _ (Nat.succ_pos _))
  omega
theorem cut_ok (t : ByteArray) (e : Edit) : apOk t (cutD t e) = true := by
  obtain ⟨h1, h2⟩ := cut_le t e
  have hs : (t.extract (cI t e) (cI t e + cN t e)).size = cN t e := by rw [ext_size (by omega) h2]; omega
  refine (apOk_iff _ _).2 ⟨cI t e, rfl, ?_, ?_⟩
  · unfold cutD
    dsimp only
    rw [hs]
    exact h2
  · unfold cutD
    dsimp only
    rw [hs]
theorem u64_mod (x : Int) : IntKind.u64.wrap x = ((x % 18446744073709551616).toNat : Int) := by
  rw [IntKind.wrap_u64]
  omega
set_option maxHeartbeats 3200000
theorem cut_c (w : World) (t : ByteArray) (e : Edit) (hz : t.size ≤ 1000000000000000) : Calls Tryd.prog 18 #[.string t, .agg #[.int .i64 e.1, .int .i64 e.2.1, .string e.2.2]] w fun x w' => x = .returned (dagg (cutD t e)) ∧ Below w.heap.size w w' := by
  obtain ⟨hl1, hl2⟩ := cut_le t e
  have hI : cI t e = (e.1 % 18446744073709551616).toNat % (t.size + 1) := rfl
  have hN : cN t e = (e.2.1 % 18446744073709551616).toNat % (t.size - cI t e + 1) := rfl
  have hres : dagg (cutD t e) = .agg #[.int .i64 (cI t e : Int), .string (t.extract (cI t e) (cI t e + cN t e)), .string e.2.2] := rfl
  rw [hres]
  generalize cI t e = i at *
  generalize cN t e = n at *
  obtain ⟨x, y, p⟩ := e
  dsimp only at *
  have hx := u64_mod x
  have hy := u64_mod y
  generalize (x % 18446744073709551616).toNat = X at *
  generalize (y % 18446744073709551616).toNat = Y at *
  obtain ⟨m, hm⟩ : ∃ m, m = t.size + 1 := ⟨_, rfl⟩
  obtain ⟨k, hk⟩ : ∃ k, k = t.size - i + 1 := ⟨_, rfl⟩
  obtain ⟨r, hr⟩ : ∃ r, r = t.size - i := ⟨_, rfl⟩
  obtain ⟨q, hq⟩ : ∃ q, q = i + n := ⟨_, rfl⟩
  rw [← hm] at hI
  rw [← hk] at hN
  rw [← hq]
  have z1 : IntKind.i64.wrap ((t.size : Int) + 1) = (m : Int) := by rw [IntKind.wrap_i64]; omega
  have z2 : IntKind.u64.wrap (m : Int) = (m : Int) := by rw [IntKind.wrap_u64]; omega
  have z3 : ((X : Int)).tmod (m : Int) = (i : Int) := by rw [hI]; exact (Int.ofNat_tmod X m).symm
  have z4 : IntKind.u64.wrap (i : Int) = (i : Int) := by rw [IntKind.wrap_u64]; omega
  have z5 : IntKind.i64.wrap (i : Int) = (i : Int) := by rw [IntKind.wrap_i64]; omega
  have z6 : IntKind.i64.wrap ((t.size : Int) - (i : Int)) = (r : Int) := by rw [IntKind.wrap_i64]; omega
  have z7 : IntKind.i64.wrap ((r : Int) + 1) = (k : Int) := by rw [IntKind.wrap_i64]; omega
  have z8 : IntKind.u64.wrap (k : Int) = (k : Int) := by rw [IntKind.wrap_u64]; omega
  have z9 : ((Y : Int)).tmod (k : Int) = (n : Int) := by rw [hN]; exact (Int.ofNat_tmod Y k).symm
  have z10 : IntKind.u64.wrap (n : Int) = (n : Int) := by rw [IntKind.wrap_u64]; omega
  have z11 : IntKind.i64.wrap (n : Int) = (n : Int) := by rw [IntKind.wrap_i64]; omega
  have z12 : IntKind.i64.wrap ((i : Int) + (n : Int)) = (q : Int) := by rw [IntKind.wrap_i64]; omega
  have m0 : ((m : Int) == 0) = false := by rw [beq_eq_false_iff_ne]; omega
  have k0 : ((k : Int) == 0) = false := by rw [beq_eq_false_iff_ne]; omega
  have m1 : ¬ m = 0 := by omega
  have k1 : ¬ k = 0 := by omega
  have i1 : i ≤ q := by omega
  have i2 : q ≤ t.size := by omega
  have i3 : (i : Int) ≤ (q : Int) := by omega
  have i4 : (0 : Int) ≤ (i : Int) := by omega
  clear hI hN hm hk hr hq hl1 hl2
  go_enter Tryd.func18, Tryd.ntmps18
  go_wp2
  go_region
  go_wp2
  go_returns
  exact ⟨rfl, by repeat' (first | with_reducible exact Below.refl _ _ | with_reducible refine Below.drewN' ?_ _ | with_reducible refine below_drew ?_ | with_reducible refine below_far ?_ _ _ (by first | (simp; done) | (simp; omega)) | (with_reducible refine Below.alloc ?_ (by first | (simp; done) | (simp; omega)) _))⟩
end Log
end Go.Proofs.YtkpcnfchhnfpoaaDoor
