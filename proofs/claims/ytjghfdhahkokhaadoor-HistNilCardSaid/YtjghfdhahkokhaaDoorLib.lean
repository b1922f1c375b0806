/- slices.Clone, told of rows that are wholly one's own. -/
import Derived.Test.YtjghfdhahkokhaaDoorSep
import Derived.Test.YtjghfdhahkokhaaDoorShelf
set_option linter.unusedVariables false
namespace Go.Proofs.YtjghfdhahkokhaaDoor.Libs
open Go.RowKit Go.Proofs.YtjghfdhahkokhaaDoorW.PrintWords Go.Proofs.YtjghfdhahkokhaaDoor.Sep

theorem one_map (xs : List ByteArray) : ∀ v ∈ xs.map Value.string, v.oneCell' = true := by
  intro v hv
  obtain ⟨x, _, rfl⟩ := List.mem_map.1 hv
  rfl
theorem get_map (xs : List ByteArray) (j : Nat) (u : Value) (h : (xs.map Value.string)[j]? = some u) : j < xs.length ∧ u = .string (xs.getD j ByteArray.empty) := by
  have hj : j < xs.length := by
    have := (List.getElem?_eq_some_iff.1 h).1
    simpa using this
  refine ⟨hj, ?_⟩
  simp [hj] at h
  rw [← h, List.getD_eq_getElem?_getD, List.getElem?_eq_getElem hj]
  rfl

/-- slices.Clone: nil of nil, else a row of its own. -/
theorem clone (v : Value) (xs : List ByteArray) (w : World) (hown : Own w v xs) (hn : xs.length ≤ 100000) :
    Calls Tryd.prog 33 #[v] w fun e w' => ∃ v', e = .returned v' ∧ Own w' v' xs ∧ (∀ k, v'.ownBlock = some k → w.heap.size ≤ k) ∧ Below w.heap.size w w' := by
  by_cases h0 : xs.length = 0
  · obtain rfl : xs = [] := List.eq_nil_of_length_eq_zero h0
    obtain ⟨A, c, rfl, hc⟩ := hown.form
    cases A with
    | none =>
      refine (show Calls Tryd.prog 33 _ _ _ from Any.slices_Clone_string_nil cloneLays 0 c w).mono ?_
      rintro e w' ⟨rfl, rfl⟩
      exact ⟨_, rfl, Own.nil _, fun k hk => by simp [Value.ownBlock] at hk, Below.refl _ _⟩
    | some a =>
      refine (show Calls Tryd.prog 33 _ _ _ from Any.slices_Clone_string_zero cloneLays a c w).mono ?_
      rintro e w' ⟨v', rfl, h1, _, h2⟩
      exact ⟨_, rfl, Own.of_base h1, own_ge h1, h2⟩
  · obtain ⟨g, c, rfl, hc, hcells, hfr⟩ := hown.some_ (by omega)
    refine (show Calls Tryd.prog 33 _ _ _ from Any.slices_Clone_string cloneLays g 0 xs.length c xs w (Nat.le_refl _) (by omega) (fun j hj => by rw [Nat.zero_add]; exact hcells j hj)).mono ?_
    rintro e w' ⟨v', rfl, h1, _, h2⟩
    rw [List.take_length] at h1
    exact ⟨_, rfl, Own.of_base h1, own_ge h1, h2⟩
/-- slices.Clone of all but the first of a row. -/
theorem clone1 (g m c : Nat) (x : ByteArray) (xs : List ByteArray) (w : World) (hm : xs.length = m) (h0 : 0 < m) (hn : m ≤ 100000) (hcell : ∀ j, j < m → w.cell? ⟨g, 1 + j, none⟩ = some (.string (xs.getD j ByteArray.empty))) :
    Calls Tryd.prog 33 #[.slice (some ⟨g, 1, none⟩) m c] w fun e w' => ∃ v', e = .returned v' ∧ Own w' v' xs ∧ (∀ k, v'.ownBlock = some k → w.heap.size ≤ k) ∧ Below w.heap.size w w' := by
  subst hm
  refine (show Calls Tryd.prog 33 _ _ _ from Any.slices_Clone_string cloneLays g 1 xs.length c xs w (Nat.le_refl _) (by omega) hcell).mono ?_
  rintro e w' ⟨v', rfl, h1, _, h2⟩
  rw [List.take_length] at h1
  exact ⟨_, rfl, Own.of_base h1, own_ge h1, h2⟩
end Go.Proofs.YtjghfdhahkokhaaDoor.Libs
