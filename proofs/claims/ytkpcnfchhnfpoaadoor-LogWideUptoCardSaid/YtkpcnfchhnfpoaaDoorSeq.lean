/- Groups of edits done to a text: the texts between them, and the groups. Plain, no program. -/
import Derived.Test.YtkpcnfchhnfpoaaDoorCut
set_option linter.unusedVariables false
namespace Go.Proofs.YtkpcnfchhnfpoaaDoor
namespace Log
def run : ByteArray → List Edit → ByteArray × List Delta
  | t, [] => (t, [])
  | t, e :: es => ((run (apDo t (cutD t e)) es).1, cutD t e :: (run (apDo t (cutD t e)) es).2)
theorem run_snoc (e : Edit) : ∀ (es : List Edit) (t : ByteArray), run t (es ++ [e]) = (apDo (run t es).1 (cutD (run t es).1 e), (run t es).2 ++ [cutD (run t es).1 e])
  | [], t => rfl
  | x :: es, t => by
    rw [List.cons_append]
    unfold run
    rw [run_snoc e es]
    rfl
theorem run_ok : ∀ (es : List Edit) (t : ByteArray), apply t (run t es).2 = ((run t es).1, true)
  | [], t => rfl
  | e :: es, t => by
    show apply t (cutD t e :: (run (apDo t (cutD t e)) es).2) = ((run (apDo t (cutD t e)) es).1, true)
    rw [apply_cons, if_pos (cut_ok _ _)]
    exact run_ok es _
theorem run_len : ∀ (es : List Edit) (t : ByteArray), (run t es).2.length = es.length
  | [], t => rfl
  | e :: es, t => by
    show (cutD t e :: (run (apDo t (cutD t e)) es).2).length = _
    rw [List.length_cons, run_len es, List.length_cons]
theorem run_size : ∀ (es : List Edit) (t : ByteArray), (run t es).1.size ≤ t.size + (es.map fun e => e.2.2.size).sum
  | [], t => by simp [run]
  | e :: es, t => by
    show (run (apDo t (cutD t e)) es).1.size ≤ _
    have h1 := run_size es (apDo t (cutD t e))
    have h2 := apDo_size t _ (cut_ok t e)
    have h3 : (cutD t e).2.2 = e.2.2 := rfl
    rw [h3] at h2
    rw [List.map_cons, List.sum_cons]
    omega
theorem isEmpty_iff (a : ByteArray) : a.toList.isEmpty = true ↔ a = ByteArray.empty := by
  rw [ByteArray.toList_eq]
  constructor
  · intro h
    apply ByteArray.ext
    rw [Array.isEmpty_toList] at h
    simpa using h
  · rintro rfl
    rfl
theorem dead {t : ByteArray} {d : Delta} (h : apOk t d = true) (hd : live d = false) : apDo t d = t := by
  obtain ⟨k, hk, h1, h2⟩ := (apOk_iff t d).1 h
  obtain ⟨a, o, i⟩ := d
  dsimp only at hk h1 h2
  subst hk
  unfold live at hd
  dsimp only at hd
  have ho : o = ByteArray.empty := by rw [← isEmpty_iff]; cases hx : o.toList.isEmpty <;> simp_all
  have hi : i = ByteArray.empty := by rw [← isEmpty_iff]; cases hx : i.toList.isEmpty <;> simp_all
  subst ho; subst hi
  rw [apDo_nat, app_emp]
  show t.extract 0 k ++ t.extract (k + 0) t.size = t
  have h1 : k ≤ t.size := h1
  rw [Nat.add_zero, ext_join (Nat.zero_le _) h1, ext_all]
theorem apply_live : ∀ (ds : List Delta) {t u : ByteArray}, apply t ds = (u, true) → apply t (ds.filter live) = (u, true)
  | [], t, u, h => h
  | d :: ds, t, u, h => by
    rw [apply_cons] at h
    by_cases hd : apOk t d = true
    · rw [if_pos hd] at h
      have h1 := apply_live ds h
      cases hl : live d with
      | true => rw [List.filter_cons, if_pos hl, apply_cons, if_pos hd]; exact h1
      | false =>
        rw [List.filter_cons, if_neg (by rw [hl]; simp)]
        rw [dead hd hl] at h1
        exact h1
    · rw [if_neg hd] at h
      simp at h
abbrev gN : AG Int := ⟨[], 0, 0⟩
def lastT (all : List ByteArray) : ByteArray := all.getD (all.length - 1) E
def seq1 (p : List ByteArray × List (AG Int)) (es : List Edit) : List ByteArray × List (AG Int) :=
  if ((run (lastT p.1) es).2.filter live).isEmpty = true then p
  else (p.1 ++ [(run (lastT p.1) es).1], p.2 ++ [⟨(run (lastT p.1) es).2.filter live, ((p.1.length - 1 : Nat) : Int), (p.1.length : Int)⟩])
def seq (t : ByteArray) (gs : List (List Edit)) : List ByteArray × List (AG Int) := gs.foldl seq1 ([t], [])
theorem seq_snoc (t : ByteArray) (gs : List (List Edit)) (es : List Edit) : seq t (gs ++ [es]) = seq1 (seq t gs) es := by unfold seq; rw [List.foldl_append]; rfl
structure Hst (all : List ByteArray) (G : List (AG Int)) : Prop where
  len : all.length = G.length + 1
  ok : ∀ i, i < G.length → apply (all.getD i E) (G.getD i gN).ds = (all.getD (i + 1) E, true)
  ah : ∀ i, i < G.length → (G.getD i gN).ah = (i : Int)
  be : ∀ i, i < G.length → (G.getD i gN).be = ((i + 1 : Nat) : Int)
theorem getD_left {α : Type} (a b : List α) (i : Nat) (z : α) (h : i < a.length) : (a ++ b).getD i z = a.getD i z := by simp [List.getD, List.getElem?_append_left h]
theorem getD_last {α : Type} (a : List α) (x z : α) : (a ++ [x]).getD a.length z = x := by simp [List.getD]
theorem seq_text (p : List ByteArray × List (AG Int)) (es : List Edit) : (lastT (seq1 p es).1) = (run (lastT p.1) es).1 := by
  unfold seq1
  split
  · next h =>
    have h1 := apply_live _ (run_ok es (lastT p.1))
    have h2 : (run (lastT p.1) es).2.filter live = [] := by simpa using h
    rw [h2] at h1
    exact (congrArg Prod.fst h1)
  · show (p.1 ++ [(run (lastT p.1) es).1]).getD ((p.1 ++ [(run (lastT p.1) es).1]).length - 1) E = _
    rw [List.length_append, List.length_singleton, Nat.add_sub_cancel]
    exact getD_last _ _ _
theorem Hst.step {all : List ByteArray} {G : List (AG Int)} (h : Hst all G) (es : List Edit) : Hst (seq1 (all, G) es).1 (seq1 (all, G) es).2 := by
  unfold seq1
  dsimp only
  split
  · exact h
  · have hl := h.len
    have hok := apply_live _ (run_ok es (lastT all))
    refine ⟨by simp; omega, fun i hi => ?_, fun i hi => ?_, fun i hi => ?_⟩
    · dsimp only
      rw [List.length_append, List.length_singleton] at hi
      rcases Nat.lt_or_ge i G.length with h1 | h1
      · rw [getD_left _ _ _ _ (by omega), getD_left _ _ _ _ h1, getD_left _ _ _ _ (by omega)]
        exact h.ok i h1
      · have e1 : i = G.length := by omega
        subst e1
        rw [getD_left _ _ _ _ (by omega), getD_last, show G.length + 1 = all.length by omega, getD_last]
        have : all.getD G.length E = lastT all := by unfold lastT; rw [hl]; rfl
        rw [this]
        exact hok
    · dsimp only
      rw [List.length_append, List.length_singleton] at hi
      rcases Nat.lt_or_ge i G.length with h1 | h1
      · rw [getD_left _ _ _ _ h1]
        exact h.ah i h1
      · have e1 : i = G.length := by omega
        subst e1
        rw [getD_last]
        dsimp only
        omega
    · dsimp only
      rw [List.length_append, List.length_singleton] at hi
      rcases Nat.lt_or_ge i G.length with h1 | h1
      · rw [getD_left _ _ _ _ h1]
        exact h.be i h1
      · have e1 : i = G.length := by omega
        subst e1
        rw [getD_last]
        dsimp only
        omega
theorem seq_hst (t : ByteArray) (gs : List (List Edit)) : Hst (seq t gs).1 (seq t gs).2 := by
  suffices h : ∀ (gs : List (List Edit)) (p : List ByteArray × List (AG Int)), Hst p.1 p.2 → Hst (gs.foldl seq1 p).1 (gs.foldl seq1 p).2 from
    h gs ([t], []) ⟨rfl, fun i hi => by simp at hi, fun i hi => by simp at hi, fun i hi => by simp at hi⟩
  intro gs
  induction gs with
  | nil => intro p h; exact h
  | cons es gs ih => intro p h; exact ih _ (h.step es)
/-- The groups that a bound leaves. -/
def und (b : Nat) (G : List (AG Int)) : List (AG Int) := G.drop (G.length - b)
theorem und_len (b : Nat) (G : List (AG Int)) : (und b G).length = min G.length b := by unfold und; rw [List.length_drop]; omega
theorem und_push (b : Nat) (G : List (AG Int)) (g : AG Int) : trim b (und b G ++ [g]) = und b (G ++ [g]) := by
  have hl := und_len b G
  unfold trim
  rw [List.length_append, List.length_singleton, hl]
  unfold und
  rw [List.length_append, List.length_singleton]
  split
  · next h =>
    have h1 : b ≤ G.length := by omega
    rcases Nat.eq_zero_or_pos b with h0 | h0
    · subst h0
      rw [Nat.sub_zero, List.drop_eq_nil_of_le (Nat.le_refl _), Nat.sub_zero]
      simp
    · rw [List.drop_append_of_le_length (by rw [List.length_drop]; omega), List.drop_drop, List.drop_append_of_le_length (by omega), show G.length - b + 1 = G.length + 1 - b by omega]
  · next h =>
    have h1 : G.length < b := by omega
    rw [show G.length - b = 0 by omega, show G.length + 1 - b = 0 by omega]
    rfl
end Log
end Go.Proofs.YtkpcnfchhnfpoaaDoor
