/- Deltas done to texts: what is taken back, what two after one another do. Plain lemmas, no program. -/
import Derived.Test.YtkpcnfchhnfpoaaDoorLists
import Derived.Test.YtkpcnfchhnfpoaaDoorAbs
set_option linter.unusedVariables false
namespace Go.Proofs.YtkpcnfchhnfpoaaDoor
namespace Log
theorem apply_cons (t : ByteArray) (d : Delta) (ds : List Delta) : apply t (d :: ds) = if apOk t d = true then apply (apDo t d) ds else (⟨#[]⟩, false) := rfl
theorem apply_append (b : List Delta) : ∀ (a : List Delta) (t : ByteArray), apply t (a ++ b) = if (apply t a).2 = true then apply (apply t a).1 b else (⟨#[]⟩, false)
  | [], t => rfl
  | d :: ds, t => by
    rw [List.cons_append, apply_cons]
    by_cases h : apOk t d = true
    · have e : apply t (d :: ds) = apply (apDo t d) ds := by rw [apply_cons, if_pos h]
      rw [if_pos h, apply_append b ds, e]
    · have e : apply t (d :: ds) = (⟨#[]⟩, false) := by rw [apply_cons, if_neg h]
      rw [if_neg h, e]
      rfl
theorem apply_two {t u v : ByteArray} {a b : List Delta} (ha : apply t a = (u, true)) (hb : apply u b = (v, true)) : apply t (a ++ b) = (v, true) := by
  rw [apply_append, ha]
  simpa using hb
theorem ext_size {a : ByteArray} {i j : Nat} (h : i ≤ j) (hj : j ≤ a.size) : (a.extract i j).size = j - i := by
  rw [ByteArray.size_extract]; omega
theorem ext_app_left {a b : ByteArray} {i j : Nat} (hj : j ≤ a.size) : (a ++ b).extract i j = a.extract i j := by
  apply ByteArray.ext
  simp only [ByteArray.data_extract, ByteArray.data_append]
  rw [Array.extract_append]
  have hs : a.data.size = a.size := rfl
  rw [hs, show j - a.size = 0 by omega]
  simp
theorem ext_app_right {a b : ByteArray} {i j : Nat} (hi : a.size ≤ i) : (a ++ b).extract i j = b.extract (i - a.size) (j - a.size) := by
  apply ByteArray.ext
  simp only [ByteArray.data_extract, ByteArray.data_append]
  rw [Array.extract_append]
  have hs : a.data.size = a.size := rfl
  rw [hs, Array.extract_empty_of_size_le_start (by omega)]
  simp
theorem ext_ext {a : ByteArray} {i j k l : Nat} (h : i + l ≤ j) : (a.extract i j).extract k l = a.extract (i + k) (i + l) := by
  apply ByteArray.ext
  simp only [ByteArray.data_extract, Array.extract_extract]
  rw [Nat.min_eq_left h]
theorem ext_all (a : ByteArray) : a.extract 0 a.size = a := by
  apply ByteArray.ext
  simp only [ByteArray.data_extract]
  have hs : a.data.size = a.size := rfl
  rw [← hs]
  simp
theorem ext_join {a : ByteArray} {i j k : Nat} (h : i ≤ j) (h2 : j ≤ k) : a.extract i j ++ a.extract j k = a.extract i k := by
  apply ByteArray.ext
  simp only [ByteArray.data_extract, ByteArray.data_append, Array.extract_append_extract]
  rw [Nat.min_eq_left h, Nat.max_eq_right h2]
theorem apOk_iff (t : ByteArray) (d : Delta) : apOk t d = true ↔ ∃ k : Nat, d.1 = (k : Int) ∧ k + d.2.1.size ≤ t.size ∧ t.extract k (k + d.2.1.size) = d.2.1 := by
  unfold apOk
  simp only [Bool.and_eq_true, decide_eq_true_eq, beq_iff_eq, toList_inj]
  constructor
  · rintro ⟨⟨⟨h1, h2⟩, h3⟩, h4⟩
    obtain ⟨k, hk⟩ : ∃ k : Nat, d.1 = (k : Int) := ⟨d.1.toNat, by omega⟩
    rw [hk] at h4
    simp only [Int.toNat_natCast] at h4
    exact ⟨k, hk, by omega, h4⟩
  · rintro ⟨k, hk, h1, h2⟩
    rw [hk]
    simp only [Int.toNat_natCast]
    exact ⟨⟨⟨by omega, by omega⟩, by omega⟩, h2⟩
theorem apDo_nat (t : ByteArray) (k : Nat) (o i : ByteArray) : apDo t ((k : Int), o, i) = t.extract 0 k ++ i ++ t.extract (k + o.size) t.size := by
  unfold apDo
  simp
theorem apDo_inv {t : ByteArray} {d : Delta} (h : apOk t d = true) : apOk (apDo t d) (inv d) = true ∧ apDo (apDo t d) (inv d) = t := by
  obtain ⟨k, hk, h1, h2⟩ := (apOk_iff t d).1 h
  obtain ⟨a, o, i⟩ := d
  dsimp only at hk h1 h2
  subst hk
  rw [apDo_nat]
  unfold inv
  dsimp only
  have s1 : (t.extract 0 k).size = k := by rw [ext_size (Nat.zero_le _) (by omega)]; omega
  have s2 : (t.extract (k + o.size) t.size).size = t.size - (k + o.size) := ext_size h1 (Nat.le_refl _)
  have s3 : (t.extract 0 k ++ i ++ t.extract (k + o.size) t.size).size = k + i.size + (t.size - (k + o.size)) := by rw [ByteArray.size_append, ByteArray.size_append, s1, s2]
  refine ⟨(apOk_iff _ _).2 ⟨k, rfl, by rw [s3]; dsimp only; omega, ?_⟩, ?_⟩
  · dsimp only
    rw [ext_app_left (by rw [ByteArray.size_append, s1]; omega), ext_app_right (by rw [s1]; omega), s1]
    rw [show k - k = 0 by omega, show k + i.size - k = i.size by omega, ext_all]
  · rw [apDo_nat, s3]
    rw [ext_app_left (by rw [ByteArray.size_append, s1]; omega), ext_app_left (by rw [s1]; omega), ext_ext (by omega)]
    rw [ext_app_right (by rw [ByteArray.size_append, s1]; omega), ByteArray.size_append, s1, ext_ext (by omega)]
    rw [Nat.zero_add, Nat.zero_add, show k + o.size + (k + i.size - (k + i.size)) = k + o.size by omega, show k + o.size + (k + i.size + (t.size - (k + o.size)) - (k + i.size)) = t.size by omega]
    rw [← h2]
    conv => lhs; arg 1; arg 2; rw [h2]
    rw [h2, ← h2]
    rw [ext_join (Nat.zero_le _) (by omega)]
    rw [h2, ext_join (Nat.zero_le _) h1, ext_all]
theorem apply_back : ∀ (ds : List Delta) {t u : ByteArray}, apply t ds = (u, true) → apply u (back ds) = (t, true)
  | [], t, u, h => by
    have : t = u := by simpa [apply] using h
    subst this
    rfl
  | d :: ds, t, u, h => by
    unfold apply at h
    by_cases hd : apOk t d = true
    · rw [if_pos hd] at h
      have h1 := apply_back ds h
      obtain ⟨h2, h3⟩ := apDo_inv hd
      have : back (d :: ds) = back ds ++ [inv d] := by simp [back]
      rw [this]
      refine apply_two h1 ?_
      unfold apply
      rw [if_pos h2, h3]
      rfl
    · rw [if_neg hd] at h
      simp at h
end Log
end Go.Proofs.YtkpcnfchhnfpoaaDoor
