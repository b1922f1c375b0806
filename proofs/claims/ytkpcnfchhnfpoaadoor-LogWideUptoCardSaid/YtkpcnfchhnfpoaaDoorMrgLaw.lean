/- What a merged delta does: the plain law. No program. -/
import Derived.Test.YtkpcnfchhnfpoaaDoorMrg
set_option linter.unusedVariables false
namespace Go.Proofs.YtkpcnfchhnfpoaaDoor
namespace Log
section
variable {t : ByteArray} {i j : Nat} {ao ai bo bi mid : ByteArray}
theorem mid_size (h1 : i + ao.size ≤ t.size) (hm : mid = t.extract 0 i ++ ai ++ t.extract (i + ao.size) t.size) : mid.size = i + ai.size + (t.size - (i + ao.size)) := by
  rw [hm, ByteArray.size_append, ByteArray.size_append, ext_size (Nat.zero_le _) (by omega), ext_size h1 (Nat.le_refl _)]
  omega
theorem mid_head (h1 : i + ao.size ≤ t.size) (hm : mid = t.extract 0 i ++ ai ++ t.extract (i + ao.size) t.size) (p q : Nat) (hq : q ≤ i) : mid.extract p q = t.extract p q := by
  have s1 : (t.extract 0 i).size = i := by rw [ext_size (Nat.zero_le _) (by omega)]; omega
  rw [hm, ext_app_left (by rw [ByteArray.size_append, s1]; omega), ext_app_left (by rw [s1]; omega), ext_ext (by omega), Nat.zero_add, Nat.zero_add]
theorem mid_mid (h1 : i + ao.size ≤ t.size) (hm : mid = t.extract 0 i ++ ai ++ t.extract (i + ao.size) t.size) (p q : Nat) (hq : q ≤ ai.size) : ai.extract p q = mid.extract (i + p) (i + q) := by
  have s1 : (t.extract 0 i).size = i := by rw [ext_size (Nat.zero_le _) (by omega)]; omega
  rw [hm, ext_app_left (by rw [ByteArray.size_append, s1]; omega), ext_app_right (by rw [s1]; omega), s1, show i + p - i = p by omega, show i + q - i = q by omega]
theorem mid_tail (h1 : i + ao.size ≤ t.size) (hm : mid = t.extract 0 i ++ ai ++ t.extract (i + ao.size) t.size) (p q : Nat) (hp : i + ai.size ≤ p) (hq : q ≤ mid.size) : mid.extract p q = t.extract (p + ao.size - ai.size) (q + ao.size - ai.size) := by
  have s1 : (t.extract 0 i).size = i := by rw [ext_size (Nat.zero_le _) (by omega)]; omega
  have s2 := mid_size h1 hm
  by_cases hpq : q ≤ p
  · rw [ext_none hpq, ext_none (by omega)]
  · rw [hm, ext_app_right (by rw [ByteArray.size_append, s1]; omega), ByteArray.size_append, s1, ext_ext (by omega)]
    congr 1 <;> omega
theorem sub_ext (hb : mid.extract j (j + bo.size) = bo) (p q : Nat) (hq : q ≤ bo.size) : bo.extract p q = mid.extract (j + p) (j + q) := by
  conv => lhs; rw [← hb]
  rw [ext_ext (by omega)]
theorem law_f (d : Nat) (h1 : i + ao.size ≤ t.size) (hao : t.extract i (i + ao.size) = ao) (hm : mid = t.extract 0 i ++ ai ++ t.extract (i + ao.size) t.size)
    (h2 : i + d + bo.size ≤ mid.size) (hbo : mid.extract (i + d) (i + d + bo.size) = bo) (hd : d ≤ ai.size) :
    mOkF d ai bo = true ∧ mOkB d bo ai = true ∧ apOk t (mDoF i d ao ai bo bi) = true ∧ apDo t (mDoF i d ao ai bo bi) = mid.extract 0 (i + d) ++ bi ++ mid.extract (i + d + bo.size) mid.size := by
  have s2 := mid_size h1 hm
  refine ⟨?_, ?_, ?_⟩
  · unfold mOkF
    rw [decide_eq_true hd, Bool.true_and, Bool.or_eq_true]
    refine .inr ?_
    rw [mid_mid h1 hm _ _ (Nat.min_le_left _ _), sub_ext hbo _ _ (by omega)]
    rw [beq_iff_eq]
    by_cases h : min ai.size (d + bo.size) ≤ d
    · rw [ext_none (by omega), ext_none (by omega)]
    · congr 2 <;> omega
  · unfold mOkB
    rw [decide_eq_true hd, Bool.true_and, Bool.or_eq_true]
    refine .inr ?_
    rw [mid_mid h1 hm _ _ (by omega), sub_ext hbo _ _ (Nat.min_le_left _ _), beq_iff_eq]
    congr 2 <;> omega
  · have hout : ao ++ bo.extract (ai.size - d) bo.size = t.extract i (i + (ao.size + (bo.size - (ai.size - d)))) := by
      by_cases h : bo.size ≤ ai.size - d
      · rw [ext_none h, app_emp, show ao.size + (bo.size - (ai.size - d)) = ao.size by omega, hao]
      · rw [sub_ext hbo _ _ (Nat.le_refl _), mid_tail h1 hm _ _ (by omega) (by omega)]
        conv => lhs; arg 1; rw [← hao]
        rw [show i + d + (ai.size - d) + ao.size - ai.size = i + ao.size by omega, ext_join (by omega) (by omega)]
        congr 1
        omega
    have hsz : (ao ++ bo.extract (ai.size - d) bo.size).size = ao.size + (bo.size - (ai.size - d)) := by
      rw [ByteArray.size_append]
      by_cases h : bo.size ≤ ai.size - d
      · rw [ext_none h, show bo.size - (ai.size - d) = 0 by omega]
        rfl
      · rw [ext_size (by omega) (Nat.le_refl _)]
    refine ⟨(apOk_iff _ _).2 ⟨i, rfl, ?_, ?_⟩, ?_⟩
    · unfold mDoF
      dsimp only
      rw [hsz]
      omega
    · unfold mDoF
      dsimp only
      rw [hsz, hout]
    · unfold mDoF
      rw [apDo_nat, hsz]
      rw [← ext_join (a := mid) (i := 0) (j := i) (k := i + d) (by omega) (by omega), mid_head h1 hm 0 i (Nat.le_refl _), mid_mid h1 hm 0 d hd]
      have e2 : ai.extract (d + bo.size) ai.size ++ t.extract (i + (ao.size + (bo.size - (ai.size - d)))) t.size = mid.extract (i + d + bo.size) mid.size := by
        by_cases h : d + bo.size ≤ ai.size
        · rw [mid_mid h1 hm _ _ (Nat.le_refl _), show i + (ao.size + (bo.size - (ai.size - d))) = i + ai.size + ao.size - ai.size by omega, show t.size = mid.size + ao.size - ai.size by omega, ← mid_tail h1 hm _ _ (Nat.le_refl _) (Nat.le_refl _), ext_join (by omega) (by omega)]
          congr 1
          omega
        · rw [ext_none (by omega), emp_app, mid_tail h1 hm _ _ (by omega) (Nat.le_refl _)]
          congr 1 <;> omega
      rw [Nat.add_zero, ← e2]
      simp only [ByteArray.append_assoc]
theorem law_b (e : Nat) (he : 0 < e) (hi : i = j + e) (h1 : i + ao.size ≤ t.size) (hao : t.extract i (i + ao.size) = ao) (hm : mid = t.extract 0 i ++ ai ++ t.extract (i + ao.size) t.size)
    (h2 : j + bo.size ≤ mid.size) (hbo : mid.extract j (j + bo.size) = bo) (hd : e ≤ bo.size) :
    mOkB e ai bo = true ∧ mOkF e bo ai = true ∧ apOk t (mDoB j e ao ai bo bi) = true ∧ apDo t (mDoB j e ao ai bo bi) = mid.extract 0 j ++ bi ++ mid.extract (j + bo.size) mid.size := by
  have s2 := mid_size h1 hm
  refine ⟨?_, ?_, ?_⟩
  · unfold mOkB
    rw [decide_eq_true hd, Bool.true_and, Bool.or_eq_true]
    refine .inr ?_
    rw [mid_mid h1 hm _ _ (Nat.min_le_left _ _), sub_ext hbo _ _ (by omega), beq_iff_eq]
    congr 2 <;> omega
  · unfold mOkF
    rw [decide_eq_true hd, Bool.true_and, Bool.or_eq_true]
    refine .inr ?_
    rw [mid_mid h1 hm _ _ (by omega), sub_ext hbo _ _ (Nat.min_le_left _ _), beq_iff_eq]
    by_cases h : min bo.size (e + ai.size) ≤ e
    · rw [ext_none (by omega), ext_none (by omega)]
    · congr 2 <;> omega
  · have hb1 : bo.extract 0 e = t.extract j i := by rw [sub_ext hbo _ _ hd, mid_head h1 hm _ _ (by omega)]; congr 1; omega
    have hout : bo.extract 0 e ++ ao ++ bo.extract (ai.size + e) bo.size = t.extract j (j + (e + ao.size + (bo.size - (ai.size + e)))) := by
      rw [hb1]
      conv => lhs; arg 1; arg 2; rw [← hao]
      rw [ext_join (by omega) (by omega)]
      by_cases h : bo.size ≤ ai.size + e
      · rw [ext_none h, app_emp]
        congr 1
        omega
      · rw [sub_ext hbo _ _ (Nat.le_refl _), mid_tail h1 hm _ _ (by omega) (by omega), show j + (ai.size + e) + ao.size - ai.size = i + ao.size by omega, ext_join (by omega) (by omega)]
        congr 1
        omega
    have hsz : (bo.extract 0 e ++ ao ++ bo.extract (ai.size + e) bo.size).size = e + ao.size + (bo.size - (ai.size + e)) := by
      rw [ByteArray.size_append, ByteArray.size_append, ext_size (Nat.zero_le _) hd]
      by_cases h : bo.size ≤ ai.size + e
      · rw [ext_none h, show bo.size - (ai.size + e) = 0 by omega]
        rfl
      · rw [ext_size (by omega) (Nat.le_refl _)]
        omega
    refine ⟨(apOk_iff _ _).2 ⟨j, rfl, ?_, ?_⟩, ?_⟩
    · unfold mDoB
      dsimp only
      rw [hsz]
      omega
    · unfold mDoB
      dsimp only
      rw [hsz, hout]
    · unfold mDoB
      rw [apDo_nat, hsz]
      rw [mid_head h1 hm 0 j (by omega)]
      have e2 : ai.extract (bo.size - e) ai.size ++ t.extract (j + (e + ao.size + (bo.size - (ai.size + e)))) t.size = mid.extract (j + bo.size) mid.size := by
        by_cases h : bo.size - e ≤ ai.size
        · rw [mid_mid h1 hm _ _ (Nat.le_refl _), show j + (e + ao.size + (bo.size - (ai.size + e))) = i + ai.size + ao.size - ai.size by omega, show t.size = mid.size + ao.size - ai.size by omega, ← mid_tail h1 hm _ _ (Nat.le_refl _) (Nat.le_refl _), ext_join (by omega) (by omega)]
          congr 1
          omega
        · rw [ext_none (by omega), emp_app, mid_tail h1 hm _ _ (by omega) (Nat.le_refl _)]
          congr 1 <;> omega
      rw [← e2]
      simp only [ByteArray.append_assoc]
end
theorem mD_some' {a b c : Delta} (h : merge a b = some c) : mD a b = c ∧ mB a b = true := by unfold mD mB; rw [h]; exact ⟨rfl, rfl⟩
theorem mB_eq (a b : Delta) : mB a b = (merge a b).isSome := rfl
/-- All that LogMerges says of two deltas. -/
theorem merges {t : ByteArray} {a b : Delta} (ha : apOk t a = true) (hb : apOk (apDo t a) b = true) :
    (mB a b = false → a.1 + (a.2.2.size : Int) < b.1 ∨ b.1 + (b.2.1.size : Int) < a.1) ∧
    (mB a b = true → apply t [mD a b] = (apDo (apDo t a) b, true) ∧ mB (inv b) (inv a) = true ∧ mD (inv b) (inv a) = inv (mD a b) ∧ b.1 ≤ a.1 + (a.2.2.size : Int) ∧ a.1 ≤ b.1 + (b.2.1.size : Int)) := by
  obtain ⟨i, hi, h1, h2⟩ := (apOk_iff _ _).1 ha
  obtain ⟨j, hj, h3, h4⟩ := (apOk_iff _ _).1 hb
  obtain ⟨x, ao, ai⟩ := a
  obtain ⟨y, bo, bi⟩ := b
  dsimp only at hi hj h1 h2 h3 h4 ⊢
  subst hi
  subst hj
  obtain ⟨mid, hmid⟩ : ∃ m, m = apDo t ((i : Int), ao, ai) := ⟨_, rfl⟩
  rw [← hmid] at h3 h4 ⊢
  have hm := hmid.trans (apDo_nat t i ao ai)
  have hdo : apDo mid ((j : Int), bo, bi) = mid.extract 0 j ++ bi ++ mid.extract (j + bo.size) mid.size := apDo_nat _ _ _ _
  rcases Nat.lt_or_ge j i with hlt | hge
  · obtain ⟨e, rfl⟩ : ∃ e, i = j + e := ⟨i - j, by omega⟩
    have he : 0 < e := by omega
    have hmg := merge_b j e he ao ai bo bi
    by_cases hd : e ≤ bo.size
    · obtain ⟨o1, o2, o3, o4⟩ := law_b (bi := bi) e he rfl h1 h2 hm h3 h4 hd
      rw [if_pos o1] at hmg
      obtain ⟨g1, g2⟩ := mD_some' hmg
      have hmg2 := merge_f j e bi bo ai ao
      rw [if_pos o2] at hmg2
      obtain ⟨g3, g4⟩ := mD_some' hmg2
      refine ⟨fun h => (by rw [g2] at h; cases h), fun _ => ⟨?_, g4, ?_, by omega, by omega⟩⟩
      · rw [g1, apply_cons, if_pos o3, o4, hdo]
        rfl
      · unfold inv
        dsimp only
        rw [g1, g3]
        unfold mDoF mDoB
        dsimp only
        rw [Nat.add_comm ai.size e]
    · refine ⟨fun _ => .inr (by omega), fun h => ?_⟩
      rw [if_neg (by unfold mOkB; simp; omega)] at hmg
      rw [mB_eq, hmg] at h
      cases h
  · obtain ⟨d, rfl⟩ : ∃ d, j = i + d := ⟨j - i, by omega⟩
    have hmg := merge_f i d ao ai bo bi
    by_cases hd : d ≤ ai.size
    · obtain ⟨o1, o2, o3, o4⟩ := law_f (bi := bi) d h1 h2 hm h3 h4 hd
      rw [if_pos o1] at hmg
      obtain ⟨g1, g2⟩ := mD_some' hmg
      have fin : mB (((i + d : Nat) : Int), bi, bo) ((i : Int), ai, ao) = true ∧ mD (((i + d : Nat) : Int), bi, bo) ((i : Int), ai, ao) = inv (mDoF i d ao ai bo bi) := by
        rcases Nat.eq_zero_or_pos d with h0 | h0
        · subst h0
          have hmg2 := merge_f i 0 bi bo ai ao
          have o5 : mOkF 0 bo ai = true := by
            have hz := o2
            unfold mOkB at hz
            unfold mOkF
            simp only [Nat.zero_add, Nat.sub_zero, Nat.add_zero] at hz ⊢
            simpa using hz
          rw [if_pos o5] at hmg2
          obtain ⟨g3, g4⟩ := mD_some' hmg2
          refine ⟨g4, ?_⟩
          rw [Nat.add_zero] at g3 ⊢
          rw [g3]
          unfold inv mDoF
          dsimp only
          rw [ext_none (a := bo) (Nat.le_refl 0), ext_none (a := ai) (Nat.le_refl 0), emp_app, emp_app, Nat.zero_add, Nat.zero_add, Nat.sub_zero, Nat.sub_zero]
        · have hmg2 := merge_b i d h0 bi bo ai ao
          rw [if_pos o2] at hmg2
          obtain ⟨g3, g4⟩ := mD_some' hmg2
          refine ⟨g4, ?_⟩
          rw [g3]
          unfold inv mDoF mDoB
          dsimp only
          rw [Nat.add_comm bo.size d]
      refine ⟨fun h => (by rw [g2] at h; cases h), fun _ => ⟨?_, fin.1, ?_, by omega, by omega⟩⟩
      · rw [g1, apply_cons, if_pos o3, o4, hdo]
        rfl
      · rw [g1]
        exact fin.2
    · refine ⟨fun _ => .inl (by omega), fun h => ?_⟩
      rw [if_neg (by unfold mOkF; simp; omega)] at hmg
      rw [mB_eq, hmg] at h
      cases h
end Log
end Go.Proofs.YtkpcnfchhnfpoaaDoor
