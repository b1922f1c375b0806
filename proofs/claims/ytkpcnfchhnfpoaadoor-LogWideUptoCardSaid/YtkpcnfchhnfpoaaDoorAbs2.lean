/- A log told without memory stays small. -/
import Derived.Test.YtkpcnfchhnfpoaaDoorAbs
set_option linter.unusedVariables false
namespace Go.Proofs.YtkpcnfchhnfpoaaDoor
namespace Log
namespace AS
variable {α : Type} {a : AS α} {N : Nat}
theorem Inv.more {M : Nat} (h : Inv N a) (hm : N ≤ M) : Inv M a := ⟨h.b, h.n, fun g hg => Nat.le_trans (h.d g hg) hm, fun g r f hc => ⟨Nat.le_trans (h.c g r f hc).1 hm, (h.c g r f hc).2⟩⟩
theorem Inv.new (b : Nat) (hb : b ≤ 1000) (N : Nat) : Inv N (AS.new b : AS α) := ⟨hb, Nat.zero_le _, fun g hg => by simp [AS.new] at hg, fun g r f hc => by simp [AS.new] at hc⟩
theorem Inv.begin_ (h : Inv N a) (z x : α) : Inv N (a.begin_ z x) := by
  unfold AS.begin_
  cases hc : a.cur with
  | none =>
    have hn := h.n
    rw [hc] at hn
    exact ⟨h.b, hn, h.d, fun g r f e => by injection e with e; injection e with e1 e2; injection e2 with e2 e3; subst e1; subst e3; exact ⟨Nat.zero_le _, Nat.zero_le _⟩⟩
  | some x => exact h
theorem Inv.resume (h : Inv N a) : Inv N a.resume := by
  unfold AS.resume
  cases hg : a.resumeG with
  | none => exact h
  | some g =>
    unfold AS.resumeG at hg
    cases hc : a.cur with
    | some x => rw [hc] at hg; simp at hg
    | none =>
      rw [hc] at hg
      have hn := h.n
      rw [hc] at hn
      by_cases hr : a.redo.isEmpty = true
      · simp only [hr, if_true] at hg
        have hmem : g ∈ a.undo := List.mem_of_getLast? hg
        have hpos : 0 < a.undo.length := List.length_pos_of_mem hmem
        refine ⟨h.b, ?_, fun g' hg' => ?_, fun g' r f e => ?_⟩
        · dsimp only
          rw [List.length_dropLast]
          simp only at hn
          omega
        · refine h.d g' ?_
          rcases List.mem_append.1 hg' with h1 | h1
          · exact List.mem_append_left _ ((List.dropLast_sublist _).subset h1)
          · exact List.mem_append_right _ h1
        · injection e with e
          injection e with e1 e2
          injection e2 with e2 e3
          subst e1; subst e3
          exact ⟨h.d _ (List.mem_append_left _ hmem), Nat.le_refl _⟩
      · simp only [hr] at hg
        simp at hg
theorem Inv.add (h : Inv N a) (ds : List Delta) : Inv (N + ds.length) (a.add ds) := by
  unfold AS.add
  cases hc : a.cur with
  | none => exact h.more (Nat.le_add_right _ _)
  | some x =>
    obtain ⟨g, r, f⟩ := x
    have hn := h.n
    rw [hc] at hn
    obtain ⟨h1, h2⟩ := h.c g r f hc
    refine ⟨h.b, ?_, fun g' hg' => Nat.le_trans (h.d g' hg') (Nat.le_add_right _ _), fun g' r' f' e => ?_⟩
    · cases r <;> exact hn
    · injection e with e
      injection e with e1 e2
      injection e2 with e2 e3
      subst e1; subst e3
      dsimp only
      rw [List.length_append]
      have := List.length_filter_le live ds
      omega
theorem mem_trim {β : Type} {b : Nat} {l : List β} {x : β} (h : x ∈ trim b l) : x ∈ l := by
  unfold trim at h
  split at h
  · exact List.mem_of_mem_drop h
  · exact h
theorem len_trim {β : Type} {b : Nat} {l : List β} (h : l.length ≤ b + 1) : (trim b l).length ≤ b := by
  unfold trim
  split
  · rw [List.length_drop]; omega
  · omega
theorem Inv.commit (h : Inv N a) (x : α) : Inv N (a.commit x) := by
  unfold AS.commit
  cases hc : a.cur with
  | none => exact h
  | some y =>
    obtain ⟨g, r, f⟩ := y
    have hn := h.n
    rw [hc] at hn
    obtain ⟨h1, h2⟩ := h.c g r f hc
    dsimp only
    split
    · refine ⟨h.b, ?_, h.d, fun _ _ _ e => by cases e⟩
      dsimp only at hn ⊢
      omega
    · refine ⟨h.b, ?_, fun g' hg' => ?_, fun _ _ _ e => by cases e⟩
      · dsimp only at hn ⊢
        have := len_trim (b := a.bound) (l := a.undo ++ [{ g with be := x }]) (by rw [List.length_append]; simp; omega)
        simpa using this
      · simp only [List.append_nil] at hg'
        rcases List.mem_append.1 (mem_trim hg') with h3 | h3
        · exact h.d g' (List.mem_append_left _ h3)
        · simp at h3
          subst h3
          exact h1
theorem Inv.cancel (h : Inv N a) : Inv N a.cancel := by
  unfold AS.cancel
  cases hc : a.cur with
  | none => exact h
  | some y =>
    obtain ⟨g, r, f⟩ := y
    have hn := h.n
    rw [hc] at hn
    obtain ⟨h1, h2⟩ := h.c g r f hc
    dsimp only
    cases r with
    | false => exact ⟨h.b, hn, h.d, fun _ _ _ e => by cases e⟩
    | true =>
      refine ⟨h.b, ?_, fun g' hg' => ?_, fun _ _ _ e => by cases e⟩
      · dsimp only at hn ⊢
        simp
        omega
      · simp only [if_true] at hg'
        rcases List.mem_append.1 hg' with h3 | h3
        · rcases List.mem_append.1 h3 with h4 | h4
          · exact h.d g' (List.mem_append_left _ h4)
          · simp at h4
            subst h4
            dsimp only
            rw [List.length_take]
            omega
        · exact h.d g' (List.mem_append_right _ h3)
theorem Inv.undo_ (h : Inv N a) : Inv N a.undo_ := by
  unfold AS.undo_
  cases hg : a.undoG with
  | none => exact h
  | some g =>
    unfold AS.undoG at hg
    cases hc : a.cur with
    | some x => rw [hc] at hg; simp at hg
    | none =>
      rw [hc] at hg
      have hg : a.undo.getLast? = some g := hg
      have hn := h.n
      rw [hc] at hn
      have hmem : g ∈ a.undo := List.mem_of_getLast? hg
      have hpos : 0 < a.undo.length := List.length_pos_of_mem hmem
      refine ⟨h.b, ?_, fun g' hg' => ?_, fun g' r f e => by simp at e⟩
      · dsimp only at hn ⊢
        rw [List.length_dropLast, List.length_append]
        simp
        omega
      · simp only [List.mem_append, List.mem_singleton] at hg'
        rcases hg' with h1 | h1 | h1
        · exact h.d g' (List.mem_append_left _ ((List.dropLast_sublist _).subset h1))
        · exact h.d g' (List.mem_append_right _ h1)
        · subst h1
          exact h.d _ (List.mem_append_left _ hmem)
theorem Inv.redo_ (h : Inv N a) : Inv N a.redo_ := by
  unfold AS.redo_
  cases hg : a.redoG with
  | none => exact h
  | some g =>
    unfold AS.redoG at hg
    cases hc : a.cur with
    | some x => rw [hc] at hg; simp at hg
    | none =>
      rw [hc] at hg
      have hg : a.redo.getLast? = some g := hg
      have hn := h.n
      rw [hc] at hn
      have hmem : g ∈ a.redo := List.mem_of_getLast? hg
      have hpos : 0 < a.redo.length := List.length_pos_of_mem hmem
      refine ⟨h.b, ?_, fun g' hg' => ?_, fun g' r f e => by simp at e⟩
      · dsimp only at hn ⊢
        rw [List.length_dropLast, List.length_append]
        simp
        omega
      · simp only [List.mem_append, List.mem_singleton] at hg'
        rcases hg' with (h1 | h1) | h1
        · exact h.d g' (List.mem_append_left _ h1)
        · subst h1
          exact h.d _ (List.mem_append_right _ hmem)
        · exact h.d g' (List.mem_append_right _ ((List.dropLast_sublist _).subset h1))
theorem Inv.clear (h : Inv N a) : Inv N a.clear := ⟨h.b, Nat.zero_le _, fun g hg => by simp [AS.clear] at hg, fun g r f hc => by simp [AS.clear] at hc⟩
end AS
end Log
end Go.Proofs.YtkpcnfchhnfpoaaDoor
