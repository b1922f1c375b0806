/- Undone and done again: the states between, and how great the groups are. Plain, no program. -/
import Derived.Test.YtkpcnfchhnfpoaaDoorTextsW
set_option linter.unusedVariables false
namespace Go.Proofs.YtkpcnfchhnfpoaaDoor
open Log
namespace Log
def psum (es : List Edit) : Nat := (es.map fun e => e.2.2.size).sum
theorem run_bd : ∀ (es : List Edit) (t : ByteArray), ∀ d ∈ (run t es).2, d.2.1.size ≤ t.size + esum es ∧ d.2.2.size ≤ t.size + esum es
  | [], t, d, h => by cases h
  | e :: es, t, d, h => by
    have hs : (run t (e :: es)).2 = cutD t e :: (run (apDo t (cutD t e)) es).2 := rfl
    have he : esum (e :: es) = 1 + e.2.2.size + esum es := by unfold esum; rw [List.map_cons, List.sum_cons]
    rw [hs] at h
    rcases List.mem_cons.1 h with rfl | h
    · obtain ⟨k, e1, e2, e3⟩ := (apOk_iff _ _).1 (cut_ok t e)
      have e4 : (cutD t e).2.2 = e.2.2 := rfl
      refine ⟨by omega, ?_⟩
      rw [e4]
      omega
    · have h1 := run_bd es _ d h
      have h2 := apDo_size t _ (cut_ok t e)
      have e4 : (cutD t e).2.2 = e.2.2 := rfl
      rw [e4] at h2
      omega
def lsum (gs : List (List Edit)) : Nat := (gs.map esum).sum
def Sm (T : Nat) (G : List (AG Int)) : Prop := ∀ g ∈ G, g.ds.length ≤ T ∧ ∀ d ∈ g.ds, d.2.1.size ≤ T ∧ d.2.2.size ≤ T
theorem esum_len' (es : List Edit) : es.length ≤ esum es := esum_len es
theorem seq_bd (T : Nat) : ∀ (gs : List (List Edit)) (p : List ByteArray × List (AG Int)) (m : Nat), (lastT p.1).size ≤ m → m + lsum gs ≤ T → Sm T p.2 → Sm T (gs.foldl seq1 p).2 ∧ (lastT (gs.foldl seq1 p).1).size ≤ T
  | [], p, m, h1, h2, h3 => ⟨h3, by unfold lsum at h2; simp at h2; exact Nat.le_trans h1 h2⟩
  | es :: gs, p, m, h1, h2, h3 => by
    have hl : lsum (es :: gs) = esum es + lsum gs := by unfold lsum; rw [List.map_cons, List.sum_cons]
    rw [hl] at h2
    refine seq_bd T gs (seq1 p es) (m + esum es) ?_ (by omega) ?_
    · rw [seq_text]
      have := esum_run (lastT p.1) es
      omega
    · unfold seq1
      split
      · exact h3
      · intro g hg
        dsimp only at hg
        rcases List.mem_append.1 hg with hg | hg
        · exact h3 g hg
        · simp at hg
          subst hg
          dsimp only
          have hb := run_bd es (lastT p.1)
          refine ⟨?_, fun d hd => ?_⟩
          · have h5 := List.length_filter_le live (run (lastT p.1) es).2
            rw [run_len] at h5
            have := esum_len es
            omega
          · have := hb d ((List.mem_filter.1 hd).1)
            omega
theorem seq_sm (t : ByteArray) (gs : List (List Edit)) (T : Nat) (h : t.size + lsum gs ≤ T) : Sm T (seq t gs).2 := (seq_bd T gs ([t], []) t.size (Nat.le_refl _) h (fun g hg => by cases hg)).1
theorem seq_all' (T : Nat) : ∀ (gs : List (List Edit)) (p : List ByteArray × List (AG Int)) (m : Nat), (lastT p.1).size ≤ m → m + lsum gs ≤ T → (∀ x ∈ p.1, x.size ≤ T) → ∀ x ∈ (gs.foldl seq1 p).1, x.size ≤ T
  | [], p, m, h1, h2, h3 => h3
  | es :: gs, p, m, h1, h2, h3 => by
    have hl : lsum (es :: gs) = esum es + lsum gs := by unfold lsum; rw [List.map_cons, List.sum_cons]
    rw [hl] at h2
    have h5 := esum_run (lastT p.1) es
    refine seq_all' T gs (seq1 p es) (m + esum es) (by rw [seq_text]; omega) (by omega) ?_
    unfold seq1
    split
    · exact h3
    · intro x hx
      dsimp only at hx
      rcases List.mem_append.1 hx with hx | hx
      · exact h3 x hx
      · simp at hx
        subst hx
        omega
theorem seq_all (t : ByteArray) (gs : List (List Edit)) (T : Nat) (h : t.size + lsum gs ≤ T) : ∀ x ∈ (seq t gs).1, x.size ≤ T :=
  seq_all' T gs ([t], []) t.size (Nat.le_refl _) h (fun x hx => by simp at hx; subst hx; omega)
theorem seq_len' : ∀ (gs : List (List Edit)) (p : List ByteArray × List (AG Int)), (gs.foldl seq1 p).2.length ≤ p.2.length + gs.length
  | [], p => Nat.le_refl _
  | es :: gs, p => by
    have h1 := seq_len' gs (seq1 p es)
    have h2 : (seq1 p es).2.length ≤ p.2.length + 1 := by
      unfold seq1
      split
      · omega
      · simp
    rw [List.length_cons]
    show (gs.foldl seq1 (seq1 p es)).2.length ≤ _
    omega
theorem seq_len (t : ByteArray) (gs : List (List Edit)) : (seq t gs).2.length ≤ gs.length := by
  have := seq_len' gs ([t], [])
  simpa [seq] using this
theorem insum_le (ds : List Delta) (T : Nat) (h : ∀ d ∈ ds, d.2.2.size ≤ T) : insum ds ≤ ds.length * T := by
  unfold insum
  induction ds with
  | nil => simp
  | cons d ds ih =>
    have h1 := ih (fun x hx => h x (List.mem_cons_of_mem _ hx))
    have h2 := h d (List.mem_cons_self ..)
    rw [List.map_cons, List.sum_cons, List.length_cons, Nat.succ_mul]
    omega
theorem back_mem {ds : List Delta} {d : Delta} (h : d ∈ back ds) : inv d ∈ ds := by
  unfold back at h
  obtain ⟨x, hx, rfl⟩ := List.mem_map.1 h
  have : inv (inv x) = x := rfl
  rw [this]
  exact List.mem_reverse.1 hx
theorem back_len (ds : List Delta) : (back ds).length = ds.length := by unfold back; rw [List.length_map, List.length_reverse]
/-- So many of the groups are done. -/
def st (b : Nat) (G : List (AG Int)) (j : Nat) : AS Int := ⟨b, (G.take j).drop (G.length - b), (G.drop j).reverse, none⟩
theorem st_full (b : Nat) (G : List (AG Int)) : st b G G.length = shut b (und b G) := by
  unfold st shut und
  rw [List.take_length, List.drop_length]
  rfl
theorem take_succ_drop (b : Nat) (G : List (AG Int)) (j : Nat) (hj : j < G.length) (hb : G.length - b ≤ j) : (G.take (j + 1)).drop (G.length - b) = (G.take j).drop (G.length - b) ++ [G.getD j gN] := by
  rw [List.take_add_one, List.getElem?_eq_getElem hj, List.drop_append_of_le_length (by rw [List.length_take]; omega)]
  simp [List.getD, hj]
theorem drop_rev' (G : List (AG Int)) (j : Nat) (hj : j < G.length) : (G.drop j).reverse = (G.drop (j + 1)).reverse ++ [G.getD j gN] := by
  rw [List.drop_eq_getElem_cons hj, List.reverse_cons]
  simp [List.getD, hj]
theorem st_undoG (b : Nat) (G : List (AG Int)) (j : Nat) (hj : j < G.length) (hb : G.length - b ≤ j) : (st b G (j + 1)).undoG = some (G.getD j gN) := by
  unfold AS.undoG st
  dsimp only
  rw [take_succ_drop b G j hj hb]
  simp
theorem st_undo (b : Nat) (G : List (AG Int)) (j : Nat) (hj : j < G.length) (hb : G.length - b ≤ j) : (st b G (j + 1)).undo_ = st b G j := by
  unfold AS.undo_
  rw [st_undoG b G j hj hb]
  unfold st
  dsimp only
  rw [take_succ_drop b G j hj hb, drop_rev' G j hj]
  simp
theorem st_redoG (b : Nat) (G : List (AG Int)) (j : Nat) (hj : j < G.length) : (st b G j).redoG = some (G.getD j gN) := by
  unfold AS.redoG st
  dsimp only
  rw [drop_rev' G j hj]
  simp
theorem st_redo (b : Nat) (G : List (AG Int)) (j : Nat) (hj : j < G.length) (hb : G.length - b ≤ j) : (st b G j).redo_ = st b G (j + 1) := by
  unfold AS.redo_
  rw [st_redoG b G j hj]
  unfold st
  dsimp only
  rw [take_succ_drop b G j hj hb, drop_rev' G j hj]
  simp
theorem st_undoN (b : Nat) (G : List (AG Int)) : (st b G (G.length - b)).undoG = none := by
  unfold AS.undoG st
  dsimp only
  rw [List.drop_eq_nil_of_le (by rw [List.length_take]; omega)]
  rfl
theorem st_redoN (b : Nat) (G : List (AG Int)) : (st b G G.length).redoG = none := by
  unfold AS.redoG st
  dsimp only
  rw [List.drop_length]
  rfl
theorem st_undos (b : Nat) (G : List (AG Int)) : (st b G G.length).undo.length = min G.length b := by
  unfold st
  dsimp only
  rw [List.take_length, List.length_drop]
  omega
theorem st_redos (b : Nat) (G : List (AG Int)) : (st b G (G.length - b)).redo.length = min G.length b := by
  unfold st
  dsimp only
  rw [List.length_reverse, List.length_drop]
  omega
theorem undoN {a : AS Int} (h : a.undoG = none) : a.undoL = [] ∧ a.undoA LogI.zA = 0 ∧ a.undoE = 3 ∧ a.undo_ = a := by
  unfold AS.undoL AS.undoA AS.undoE AS.undo_
  rw [h]
  exact ⟨rfl, rfl, rfl, rfl⟩
theorem redoN {a : AS Int} (h : a.redoG = none) : a.redoL = [] ∧ a.redoA LogI.zA = 0 ∧ a.redoE = 4 ∧ a.redo_ = a := by
  unfold AS.redoL AS.redoA AS.redoE AS.redo_
  rw [h]
  exact ⟨rfl, rfl, rfl, rfl⟩
theorem undoS {a : AS Int} {g : AG Int} (h : a.undoG = some g) : a.undoL = back g.ds ∧ a.undoA LogI.zA = g.ah ∧ a.undoE = 0 := by
  unfold AS.undoL AS.undoA AS.undoE
  rw [h]
  exact ⟨rfl, rfl, rfl⟩
theorem redoS {a : AS Int} {g : AG Int} (h : a.redoG = some g) : a.redoL = g.ds ∧ a.redoA LogI.zA = g.be ∧ a.redoE = 0 := by
  unfold AS.redoL AS.redoA AS.redoE
  rw [h]
  exact ⟨rfl, rfl, rfl⟩
end Log
end Go.Proofs.YtkpcnfchhnfpoaaDoor
