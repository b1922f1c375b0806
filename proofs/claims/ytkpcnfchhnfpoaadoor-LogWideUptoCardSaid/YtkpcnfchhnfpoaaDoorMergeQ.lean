/- Merge, its cases joined. -/
import Derived.Test.YtkpcnfchhnfpoaaDoorMergeP
set_option linter.unusedVariables false
namespace Go.Proofs.YtkpcnfchhnfpoaaDoor
open Go.RowKit Go.Proofs.YtkpcnfchhnfpoaaDoorW.PrintWords Go.Proofs.YtkpcnfchhnfpoaaDoor.Sep
namespace Log
theorem mD_none {a b : Delta} (h : merge a b = none) : mD a b = D0 ∧ mB a b = false := by unfold mD mB; rw [h]; exact ⟨rfl, rfl⟩
theorem mD_some {a b c : Delta} (h : merge a b = some c) : mD a b = c ∧ mB a b = true := by unfold mD mB; rw [h]; exact ⟨rfl, rfl⟩
theorem merge_p (w : World) (a b : Delta) (ha : a.1 < 9223372036854775808) (hb : b.1 < 9223372036854775808) (h1 : a.2.2.size ≤ 1000000000000000) (h2 : b.2.1.size ≤ 1000000000000000) (h3 : a.2.1.size ≤ 1000000000000000) (h4 : b.2.2.size ≤ 1000000000000000) :
    Calls Tryd.prog 14 #[dagg a, dagg b] w fun e w' => e = .returned (.tuple #[dagg (mD a b), .bool (mB a b)]) ∧ Below w.heap.size w w' := by
  have none_ : merge a b = none → (Calls Tryd.prog 14 #[dagg a, dagg b] w fun e w' => e = .returned (.tuple #[dagg D0, .bool false]) ∧ Below w.heap.size w w') → Calls Tryd.prog 14 #[dagg a, dagg b] w fun e w' => e = .returned (.tuple #[dagg (mD a b), .bool (mB a b)]) ∧ Below w.heap.size w w' := fun e h => by
    obtain ⟨e1, e2⟩ := mD_none e
    rw [e1, e2]
    exact h
  have some_ : ∀ c, merge a b = some c → (Calls Tryd.prog 14 #[dagg a, dagg b] w fun e w' => e = .returned (.tuple #[dagg c, .bool true]) ∧ Below w.heap.size w w') → Calls Tryd.prog 14 #[dagg a, dagg b] w fun e w' => e = .returned (.tuple #[dagg (mD a b), .bool (mB a b)]) ∧ Below w.heap.size w w' := fun c e h => by
    obtain ⟨e1, e2⟩ := mD_some e
    rw [e1, e2]
    exact h
  obtain ⟨x, ao, ai⟩ := a
  obtain ⟨y, bo, bi⟩ := b
  dsimp only at ha hb h1 h2 h3 h4
  by_cases hx : x < 0
  · exact none_ (merge_neg (.inl hx)) (merge_p_neg1 w x hx ao ai (y, bo, bi))
  by_cases hy : y < 0
  · exact none_ (merge_neg (.inr hy)) (merge_p_neg2 w x y hx hy ao ai bo bi)
  obtain ⟨x, rfl⟩ : ∃ k : Nat, x = k := ⟨x.toNat, by omega⟩
  obtain ⟨y, rfl⟩ : ∃ k : Nat, y = k := ⟨y.toNat, by omega⟩
  have hx2 : x < 9223372036854775808 := by omega
  have hy2 : y < 9223372036854775808 := by omega
  rcases Nat.lt_or_ge y x with hlt | hge
  · obtain ⟨d, rfl⟩ : ∃ d, x = y + d := ⟨x - y, by omega⟩
    have hd : 0 < d := by omega
    have hm := merge_b y d hd ao ai bo bi
    by_cases hfar : bo.size < d
    · refine none_ (by rw [hm, if_neg (by unfold mOkB; simp; omega)]) (merge_b_far w _ y d hx2 hy2 ao ai bo bi h1 h2 h3 h4 rfl hd hfar)
    · obtain ⟨t, ht⟩ : ∃ t, t = min ai.size (bo.size - d) := ⟨_, rfl⟩
      have hok : mOkB d ai bo = (decide (t ≤ 0) || ((ai.extract 0 t).toList == (bo.extract d (t + d)).toList)) := by
        unfold mOkB
        rw [← ht, decide_eq_true (by omega : d ≤ bo.size), Bool.true_and]
      have hsome : mOkB d ai bo = true → ∀ c, c = mDoB y d ao ai bo bi → (Calls Tryd.prog 14 #[dagg (((y + d : Nat) : Int), ao, ai), dagg ((y : Int), bo, bi)] w fun e w' => e = .returned (.tuple #[dagg c, .bool true]) ∧ Below w.heap.size w w') → _ := fun h c hc hC => some_ c (by rw [hm, if_pos h, hc]) hC
      have lt_ : ai.size + d < bo.size → ((y : Int), bo.extract 0 d ++ ao ++ bo.extract (ai.size + d) bo.size, bi) = mDoB y d ao ai bo bi := fun h => by
        unfold mDoB
        rw [ext_none (a := ai) (by omega : ai.size ≤ bo.size - d), app_emp]
      have eq_ : ai.size + d = bo.size → ((y : Int), bo.extract 0 d ++ ao, bi) = mDoB y d ao ai bo bi := fun h => by
        unfold mDoB
        rw [ext_none (a := ai) (by omega : ai.size ≤ bo.size - d), app_emp, ext_none (a := bo) (by omega : bo.size ≤ ai.size + d), app_emp]
      have gt_ : bo.size < ai.size + d → ((y : Int), bo.extract 0 d ++ ao, bi ++ ai.extract (bo.size - d) ai.size) = mDoB y d ao ai bo bi := fun h => by
        unfold mDoB
        rw [ext_none (a := bo) (by omega : bo.size ≤ ai.size + d), app_emp]
      by_cases hk : 0 < t
      · cases heq : (ai.extract 0 t).toList == (bo.extract d (t + d)).toList with
        | false =>
          refine none_ (by rw [hm, if_neg (by rw [hok, heq]; simp; omega)]) (merge_b_C w _ y d hx2 hy2 ao ai bo bi h1 h2 h3 h4 rfl hd hfar t ht hk heq)
        | true =>
          have h : mOkB d ai bo = true := by rw [hok, heq]; simp
          rcases Nat.lt_trichotomy (ai.size + d) bo.size with h5 | h5 | h5
          · exact hsome h _ (lt_ h5) (merge_b_A_lt w _ y d hx2 hy2 ao ai bo bi h1 h2 h3 h4 rfl hd hfar t ht hk heq h5)
          · exact hsome h _ (eq_ h5) (merge_b_A_eq w _ y d hx2 hy2 ao ai bo bi h1 h2 h3 h4 rfl hd hfar t ht hk heq h5)
          · exact hsome h _ (gt_ h5) (merge_b_A_gt w _ y d hx2 hy2 ao ai bo bi h1 h2 h3 h4 rfl hd hfar t ht hk heq h5)
      · have h : mOkB d ai bo = true := by rw [hok]; simp; left; omega
        rcases Nat.lt_trichotomy (ai.size + d) bo.size with h5 | h5 | h5
        · exact hsome h _ (lt_ h5) (merge_b_B_lt w _ y d hx2 hy2 ao ai bo bi h1 h2 h3 h4 rfl hd hfar t ht hk h5)
        · exact hsome h _ (eq_ h5) (merge_b_B_eq w _ y d hx2 hy2 ao ai bo bi h1 h2 h3 h4 rfl hd hfar t ht hk h5)
        · exact hsome h _ (gt_ h5) (merge_b_B_gt w _ y d hx2 hy2 ao ai bo bi h1 h2 h3 h4 rfl hd hfar t ht hk h5)
  · obtain ⟨d, rfl⟩ : ∃ d, y = x + d := ⟨y - x, by omega⟩
    have hm := merge_f x d ao ai bo bi
    by_cases hfar : ai.size < d
    · refine none_ (by rw [hm, if_neg (by unfold mOkF; simp; omega)]) (merge_f_far w x _ d hx2 hy2 ao ai bo bi h1 h2 h3 h4 rfl hfar)
    · obtain ⟨t, ht⟩ : ∃ t, t = min ai.size (d + bo.size) := ⟨_, rfl⟩
      have hok : mOkF d ai bo = (decide (t ≤ d) || ((ai.extract d t).toList == (bo.extract 0 (t - d)).toList)) := by
        unfold mOkF
        rw [← ht, decide_eq_true (by omega : d ≤ ai.size), Bool.true_and]
      have hsome : mOkF d ai bo = true → ∀ c, c = mDoF x d ao ai bo bi → (Calls Tryd.prog 14 #[dagg ((x : Int), ao, ai), dagg (((x + d : Nat) : Int), bo, bi)] w fun e w' => e = .returned (.tuple #[dagg c, .bool true]) ∧ Below w.heap.size w w') → _ := fun h c hc hC => some_ c (by rw [hm, if_pos h, hc]) hC
      have zz : ¬ 0 < d → ai.extract 0 d ++ bi = bi := fun h => by rw [ext_none (by omega), emp_app]
      have lt0 : ¬ 0 < d → ai.size < d + bo.size → ((x : Int), ao ++ bo.extract (ai.size - d) bo.size, bi) = mDoF x d ao ai bo bi := fun h h' => by
        unfold mDoF
        rw [zz h, ext_none (a := ai) (by omega : ai.size ≤ d + bo.size), app_emp]
      have eq0 : ¬ 0 < d → ai.size = d + bo.size → ((x : Int), ao, bi) = mDoF x d ao ai bo bi := fun h h' => by
        unfold mDoF
        rw [zz h, ext_none (a := ai) (by omega : ai.size ≤ d + bo.size), app_emp, ext_none (a := bo) (by omega : bo.size ≤ ai.size - d), app_emp]
      have gt0 : ¬ 0 < d → d + bo.size < ai.size → ((x : Int), ao, bi ++ ai.extract (d + bo.size) ai.size) = mDoF x d ao ai bo bi := fun h h' => by
        unfold mDoF
        rw [zz h, ext_none (a := bo) (by omega : bo.size ≤ ai.size - d), app_emp]
      have ltp : ai.size < d + bo.size → ((x : Int), ao ++ bo.extract (ai.size - d) bo.size, ai.extract 0 d ++ bi) = mDoF x d ao ai bo bi := fun h' => by
        unfold mDoF
        rw [ext_none (a := ai) (by omega : ai.size ≤ d + bo.size), app_emp]
      have eqp : ai.size = d + bo.size → ((x : Int), ao, ai.extract 0 d ++ bi) = mDoF x d ao ai bo bi := fun h' => by
        unfold mDoF
        rw [ext_none (a := ai) (by omega : ai.size ≤ d + bo.size), app_emp, ext_none (a := bo) (by omega : bo.size ≤ ai.size - d), app_emp]
      have gtp : d + bo.size < ai.size → ((x : Int), ao, ai.extract 0 d ++ bi ++ ai.extract (d + bo.size) ai.size) = mDoF x d ao ai bo bi := fun h' => by
        unfold mDoF
        rw [ext_none (a := bo) (by omega : bo.size ≤ ai.size - d), app_emp]
      by_cases hk : d < t
      · cases heq : (ai.extract d t).toList == (bo.extract 0 (t - d)).toList with
        | false => refine none_ (by rw [hm, if_neg (by rw [hok, heq]; simp; omega)]) (merge_f_C w x _ d hx2 hy2 ao ai bo bi h1 h2 h3 h4 rfl hfar t ht hk heq)
        | true =>
          have h : mOkF d ai bo = true := by rw [hok, heq]; simp
          by_cases hz : 0 < d
          · rcases Nat.lt_trichotomy ai.size (d + bo.size) with h5 | h5 | h5
            · exact hsome h _ (ltp h5) (merge_f_A_lt_p w x _ d hx2 hy2 ao ai bo bi h1 h2 h3 h4 rfl hfar t ht hk heq h5 hz)
            · exact hsome h _ (eqp h5) (merge_f_A_eq_p w x _ d hx2 hy2 ao ai bo bi h1 h2 h3 h4 rfl hfar t ht hk heq h5 hz)
            · exact hsome h _ (gtp h5) (merge_f_A_gt_p w x _ d hx2 hy2 ao ai bo bi h1 h2 h3 h4 rfl hfar t ht hk heq h5 hz)
          · rcases Nat.lt_trichotomy ai.size (d + bo.size) with h5 | h5 | h5
            · exact hsome h _ (lt0 hz h5) (merge_f_A_lt_0 w x _ d hx2 hy2 ao ai bo bi h1 h2 h3 h4 rfl hfar t ht hk heq h5 hz)
            · exact hsome h _ (eq0 hz h5) (merge_f_A_eq_0 w x _ d hx2 hy2 ao ai bo bi h1 h2 h3 h4 rfl hfar t ht hk heq h5 hz)
            · exact hsome h _ (gt0 hz h5) (merge_f_A_gt_0 w x _ d hx2 hy2 ao ai bo bi h1 h2 h3 h4 rfl hfar t ht hk heq h5 hz)
      · have h : mOkF d ai bo = true := by rw [hok]; simp; left; omega
        by_cases hz : 0 < d
        · rcases Nat.lt_trichotomy ai.size (d + bo.size) with h5 | h5 | h5
          · exact hsome h _ (ltp h5) (merge_f_B_lt_p w x _ d hx2 hy2 ao ai bo bi h1 h2 h3 h4 rfl hfar t ht hk h5 hz)
          · exact hsome h _ (eqp h5) (merge_f_B_eq_p w x _ d hx2 hy2 ao ai bo bi h1 h2 h3 h4 rfl hfar t ht hk h5 hz)
          · exact hsome h _ (gtp h5) (merge_f_B_gt_p w x _ d hx2 hy2 ao ai bo bi h1 h2 h3 h4 rfl hfar t ht hk h5 hz)
        · rcases Nat.lt_trichotomy ai.size (d + bo.size) with h5 | h5 | h5
          · exact hsome h _ (lt0 hz h5) (merge_f_B_lt_0 w x _ d hx2 hy2 ao ai bo bi h1 h2 h3 h4 rfl hfar t ht hk h5 hz)
          · exact hsome h _ (eq0 hz h5) (merge_f_B_eq_0 w x _ d hx2 hy2 ao ai bo bi h1 h2 h3 h4 rfl hfar t ht hk h5 hz)
          · exact hsome h _ (gt0 hz h5) (merge_f_B_gt_0 w x _ d hx2 hy2 ao ai bo bi h1 h2 h3 h4 rfl hfar t ht hk h5 hz)
end Log
end Go.Proofs.YtkpcnfchhnfpoaaDoor
