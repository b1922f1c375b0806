/- Rows that are written over, told plainly. No program. -/
import Derived.Test.YtceomobdolkfgaaDoorED
import Derived.Test.YtceomobdolkfgaaDoorEC
import Derived.Test.YtceomobdolkfgaaDoorEE
set_option linter.unusedVariables false
namespace Go.Proofs.YtceomobdolkfgaaDoor.U
open Go.Lib
/-- What follows a cell that is written over. -/
def mend (a : C) (q : Row) : Row := if a.2 = 2 then (match q with | [] => [] | _ :: q2 => cb :: q2) else q
/-- What is left of a row's rest when one cell more is written over. -/
def cut1 : Row → Row
  | [] => []
  | a :: q => mend a q
def cutK : Nat → Row → Row
  | 0, q => q
  | k + 1, q => cutK k (cut1 q)
/-- Halves stand behind wide ones, and nowhere else. -/
def wh : Bool → Row → Prop
  | _, [] => True
  | b, a :: q => (a.2 = 0 ↔ b = true) ∧ wh (decide (a.2 = 2)) q
theorem wh_mend (a : C) (q : Row) (h : wh false (a :: q)) : wh false (mend a q) := by
  obtain ⟨_, h2⟩ := h
  unfold mend
  by_cases e : a.2 = 2
  · rw [if_pos e]
    rw [decide_eq_true e] at h2
    match q, h2 with
    | [], _ => trivial
    | b :: q2, h2 =>
      obtain ⟨h3, h4⟩ := h2
      have h0 : b.2 = 0 := h3.2 rfl
      rw [h0] at h4
      exact ⟨by simp, by simpa using h4⟩
  · rw [if_neg e]
    rwa [decide_eq_false e] at h2
theorem wh_cut1 (q : Row) (h : wh false q) : wh false (cut1 q) := by
  match q, h with
  | [], _ => trivial
  | a :: q, h => exact wh_mend a q h
theorem wh_cutK : ∀ (k : Nat) (q : Row), wh false q → wh false (cutK k q)
  | 0, q, h => h
  | k + 1, q, h => wh_cutK k _ (wh_cut1 q h)
theorem mend_len (a : C) (q : Row) : (mend a q).length = q.length := by
  unfold mend
  split
  · cases q <;> rfl
  · rfl
theorem cut1_len (q : Row) : (cut1 q).length = q.length - 1 := by
  cases q with
  | nil => rfl
  | cons a q => show (mend a q).length = _; rw [mend_len]; rfl
theorem cutK_nil : ∀ k, cutK k [] = []
  | 0 => rfl
  | k + 1 => cutK_nil k
theorem getD_mid (p : Row) (a : C) (q : Row) : (p ++ a :: q).getD p.length cz = a := by simp [List.getD]
theorem set_mid (p : Row) (a b : C) (q : Row) : (p ++ a :: q).set p.length b = p ++ b :: q := by simp [List.set_append]
theorem getD_mid1 (p : Row) (a b : C) (q : Row) : (p ++ a :: b :: q).getD (p.length + 1) cz = b := by simp [List.getD]
theorem set_mid1 (p : Row) (a b x : C) (q : Row) : (p ++ a :: b :: q).set (p.length + 1) x = p ++ a :: x :: q := by simp [List.set_append]
theorem half_mid (p : Row) (a : C) (q : Row) (h : a.2 ≠ 0) : half (p ++ a :: q) p.length = p ++ a :: mend a q := by
  unfold half
  rw [if_neg (by simp), getD_mid]
  dsimp only
  have h1 : (if a.2 = 0 ∧ 0 < p.length then (p ++ a :: q).set (p.length - 1) cb else p ++ a :: q) = p ++ a :: q := if_neg (fun e => h e.1)
  rw [h1, getD_mid]
  unfold mend
  by_cases e : a.2 = 2
  · rw [if_pos e]
    cases q with
    | nil => rw [if_neg (by simp)]
    | cons b q => rw [if_pos ⟨e, by simp⟩, set_mid1]
  · rw [if_neg e, if_neg (fun g => e g.1)]
theorem half_mid1 (p : Row) (a b : C) (q : Row) (h : b.2 ≠ 0) : half (p ++ a :: b :: q) (p.length + 1) = p ++ a :: b :: mend b q := by
  have := half_mid (p ++ [a]) b q h
  simpa using this
theorem putr_one (p q : Row) (h : wh false q) (s : ByteArray) : put (p ++ q) p.length s 1 = p ++ [(s, 1)] ++ cutK 1 q := by
  unfold put
  dsimp only
  rw [if_neg (by decide)]
  match q, h with
  | [], _ =>
    have e : padRow (p ++ []) (p.length + 1) = p ++ cb :: [] := by unfold padRow; simp
    rw [e, half_mid _ _ _ (by decide), set_mid, cutK_nil, List.append_nil]
    rfl
  | a :: q, h =>
    have e : padRow (p ++ a :: q) (p.length + 1) = p ++ a :: q := by unfold padRow; simp
    have h0 : a.2 ≠ 0 := fun x => by have := h.1.1 x; cases this
    rw [e, half_mid _ _ _ h0, set_mid]
    show _ = p ++ [(s, 1)] ++ mend a q
    simp
theorem putr_two (p q : Row) (h : wh false q) (s : ByteArray) : put (p ++ q) p.length s 2 = p ++ [(s, 2), cz] ++ cutK 2 q := by
  unfold put
  dsimp only
  rw [if_pos rfl]
  match q, h with
  | [], _ =>
    have e : padRow (p ++ []) (p.length + 2) = p ++ cb :: cb :: [] := by unfold padRow; simp
    rw [e, half_mid _ _ _ (by decide)]
    show ((half (p ++ cb :: cb :: []) _).set _ _).set _ _ = _
    rw [half_mid1 _ _ _ _ (by decide), set_mid]
    show (p ++ (s, 2) :: cb :: []).set _ _ = _
    rw [set_mid1, cutK_nil, List.append_nil]
  | [a], h =>
    have e : padRow (p ++ [a]) (p.length + 2) = p ++ a :: cb :: [] := by unfold padRow; simp
    have h0 : a.2 ≠ 0 := fun x => by have := h.1.1 x; cases this
    have em : mend a [cb] = [cb] := by unfold mend; split <;> rfl
    rw [e, half_mid _ _ _ h0, em, half_mid1 _ _ _ _ (by decide), set_mid]
    show (p ++ (s, 2) :: cb :: []).set _ _ = _
    rw [set_mid1]
    have e2 : cutK 2 [a] = [] := by
      show cut1 (mend a []) = []
      unfold mend; split <;> rfl
    rw [e2]
    simp
  | a :: b :: q, h =>
    have e : padRow (p ++ a :: b :: q) (p.length + 2) = p ++ a :: b :: q := by unfold padRow; simp
    have h0 : a.2 ≠ 0 := fun x => by have := h.1.1 x; cases this
    obtain ⟨b2, hb, hb0⟩ : ∃ b2, mend a (b :: q) = b2 :: q ∧ b2.2 ≠ 0 := by
      unfold mend
      by_cases e2 : a.2 = 2
      · rw [if_pos e2]; exact ⟨cb, rfl, by decide⟩
      · rw [if_neg e2]
        refine ⟨b, rfl, fun x => ?_⟩
        have := h.2.1.1 x
        rw [decide_eq_false e2] at this
        cases this
    rw [e, half_mid _ _ _ h0, hb, half_mid1 _ _ _ _ hb0, set_mid, set_mid1]
    show _ = p ++ [(s, 2), cz] ++ cut1 (mend a (b :: q))
    rw [hb]
    show _ = p ++ [(s, 2), cz] ++ mend b2 q
    simp
/-- A row that may be painted, cell by cell. -/
inductive FitR : Row → Prop
  | nil : FitR []
  | one (a : C) (r : Row) (h : a.2 = 1) (ht : takes (L a.1) = 1) (hr : FitR r) : FitR (a :: r)
  | two (a : C) (r : Row) (h : a.2 = 2) (ht : takes (L a.1) = 2) (hr : FitR r) : FitR (a :: cz :: r)
theorem drop_getD (r : Row) (k : Nat) (h : k < r.length) : r.drop k = r.getD k cz :: r.drop (k + 1) := by
  rw [List.drop_eq_getElem_cons h, List.getD_eq_getElem?_getD, List.getElem?_eq_getElem h]
  rfl
theorem fitR_of (r : Row) (W : Int) (h : fitRow r W = true) : FitR r ∧ (r.length : Int) ≤ W ∧ trim r = r := by
  unfold fitRow at h
  split at h
  · cases h
  · rename_i h1
    split at h
    · cases h
    · rename_i h2
      have h3 := of_decide_eq_true h
      refine ⟨?_, by omega, trim_stop r h2⟩
      have key : ∀ n k, r.length - k ≤ n → (k = 0 ∨ (r.getD (k - 1) cz).2 ≠ 2) → FitR (r.drop k) := by
        intro n
        induction n using Nat.strongRecOn with
        | _ n ih =>
        intro k hn hk
        by_cases hl : k < r.length
        · have ok := h3 k hl
          unfold okCell at ok
          rw [if_neg (by rintro ⟨a, b⟩; rcases hk with e | e; omega; exact e b)] at ok
          obtain ⟨o1, o2, o3, o4⟩ := of_decide_eq_true ok
          rw [drop_getD r k hl]
          rcases (by omega : (r.getD k cz).2 = 1 ∨ (r.getD k cz).2 = 2) with e | e
          · exact .one _ _ e (o3.trans e) (ih (r.length - (k + 1)) (by omega) (k + 1) (Nat.le_refl _) (.inr (by show (r.getD k cz).2 ≠ 2; omega)))
          · have hl2 : k + 1 < r.length := by
              rcases Nat.lt_or_ge (k + 1) r.length with x | x
              · exact x
              · exact absurd ⟨e, by omega⟩ o4
            have ok2 := h3 (k + 1) hl2
            unfold okCell at ok2
            rw [if_pos ⟨by omega, e⟩] at ok2
            have e2 := of_decide_eq_true ok2
            rw [drop_getD r (k + 1) hl2, e2]
            exact .two _ _ e (o3.trans e) (ih (r.length - (k + 2)) (by omega) (k + 2) (Nat.le_refl _) (.inr (by show (r.getD (k + 1) cz).2 ≠ 2; rw [e2]; decide)))
        · rw [List.drop_eq_nil_of_le (by omega)]
          exact .nil
      exact key _ 0 (Nat.le_refl _) (.inl rfl)
theorem wh_blank : ∀ k, wh false (List.replicate k cb)
  | 0 => trivial
  | k + 1 => ⟨by simp, wh_blank k⟩
theorem wh_fit {r : Row} (h : FitR r) (k : Nat) : wh false (r ++ List.replicate k cb) := by
  induction h with
  | nil => exact wh_blank k
  | one a r h ht hr ih =>
    refine ⟨by rw [h]; simp, ?_⟩
    rw [h]
    exact ih
  | two a r h ht hr ih =>
    refine ⟨by rw [h]; simp, ?_⟩
    rw [h]
    exact ⟨by simp, ih⟩
theorem trim_split : ∀ n (x : Row), x.length ≤ n → x = trim x ++ List.replicate (x.length - (trim x).length) cb := by
  intro n
  induction n with
  | zero =>
    intro x h
    obtain rfl : x = [] := List.length_eq_zero_iff.1 (by omega)
    rfl
  | succ n ih =>
    intro x h
    by_cases hc : 0 < x.length ∧ x.getD (x.length - 1) cz = cb
    · have h1 := ih (x.take (x.length - 1)) (by rw [List.length_take]; omega)
      rw [← trim_go x hc.1 hc.2] at h1
      have h2 : x = x.take (x.length - 1) ++ [cb] := by
        conv => lhs; rw [← List.take_append_drop (x.length - 1) x]
        rw [drop_getD x _ (by omega), hc.2, List.drop_eq_nil_of_le (by omega)]
      have h3 := trim_len (x.take (x.length - 1))
      rw [← trim_go x hc.1 hc.2, List.length_take] at h3
      rw [List.length_take] at h1
      conv => lhs; rw [h2, h1]
      rw [List.append_assoc, ← List.replicate_succ', show min (x.length - 1) x.length - (trim x).length + 1 = x.length - (trim x).length from by omega]
    · rw [trim_stop x hc]
      simp
theorem trim_blank : ∀ k, trim (List.replicate k cb) = []
  | 0 => rfl
  | k + 1 => by
    rw [trim_go _ (by simp) (by simp [List.getD])]
    have : (List.replicate (k + 1) cb).take ((List.replicate (k + 1) cb).length - 1) = List.replicate k cb := by simp
    rw [this]
    exact trim_blank k
theorem trim_app_blank (p : Row) : ∀ k, trim (p ++ List.replicate k cb) = trim p
  | 0 => by simp
  | k + 1 => by
    have h1 : p ++ List.replicate (k + 1) cb = (p ++ List.replicate k cb) ++ [cb] := by rw [List.replicate_succ', List.append_assoc]
    have h2 : (p ++ List.replicate (k + 1) cb).getD ((p ++ List.replicate (k + 1) cb).length - 1) cz = cb := by
      rw [h1]
      simp
    rw [trim_go _ (by simp; omega) h2]
    have : (p ++ List.replicate (k + 1) cb).take ((p ++ List.replicate (k + 1) cb).length - 1) = p ++ List.replicate k cb := by
      rw [h1, List.length_append, List.length_singleton, Nat.add_sub_cancel, List.take_left]
    rw [this]
    exact trim_app_blank p k
/-- What a shown row's cells are. -/
theorem wh_shown (x : Row) (h : FitR (trim x)) : wh false x := by
  rw [trim_split _ x (Nat.le_refl _)]
  exact wh_fit h _
theorem nrN_le (rows : List Row) (n : Nat) (h : ∀ j, n ≤ j → trim (rows.getD j []) = []) : ∀ m, nrN rows m ≤ n
  | 0 => Nat.zero_le _
  | m + 1 => by
    unfold nrN
    split
    · exact nrN_le rows n h m
    · rename_i hne
      rcases Nat.lt_or_ge m n with h2 | h2
      · omega
      · rw [h m h2] at hne; simp at hne
theorem nrN_up (rows : List Row) : ∀ m j, nrN rows m ≤ j → j < m → trim (rows.getD j []) = []
  | 0, j, _, h => by omega
  | m + 1, j, h, hj => by
    unfold nrN at h
    split at h
    · rename_i he
      rcases Nat.lt_or_ge j m with h2 | h2
      · exact nrN_up rows m j h h2
      · obtain rfl : j = m := by omega
        exact List.length_eq_zero_iff.1 he
    · omega
theorem rowL_cons (a : C) (r : Row) : rowL (a :: r) = L a.1 ++ rowL r := rfl
end Go.Proofs.YtceomobdolkfgaaDoor.U
/- What is painted makes any terminal that keeps some plain laws show the frame. No program. -/
set_option linter.unusedVariables false
namespace Go.Proofs.YtceomobdolkfgaaDoor.U
open Go.Lib
/-- A terminal: what it is asked, and what bytes do. -/
structure Term (σ : Type) where
  W : σ → Nat
  H : σ → Nat
  row : σ → Nat
  col : σ → Nat
  full : σ → Bool
  rows : σ → List Row
  held : σ → Bs
  Ok : σ → Prop
  F : σ → Bs → σ
  feed : σ → Bs → σ
section
variable {σ : Type} (T : Term σ)
/-- Bytes that do what they do whatever follows. -/
def Eats (t : σ) (a : Bs) (t' : σ) : Prop := ∀ X, T.F t (a ++ X) = T.F t' X
def Row' (t : σ) (i : Nat) : Row := (T.rows t).getD i []
/-- The same terminal in another state. -/
structure Same (t t' : σ) : Prop where
  ok : T.Ok t'
  W : T.W t' = T.W t
  H : T.H t' = T.H t
structure Laws : Prop where
  held : ∀ t X, T.held t = [] → T.feed t X = T.F t X
  junk : ∀ t X, T.Ok t → ∃ t', Same T t t' ∧ T.feed t (27 :: X) = T.F t' (27 :: X)
  nil : ∀ t, T.Ok t → Same T t (T.F t []) ∧ T.held (T.F t []) = [] ∧ T.row (T.F t []) = T.row t ∧ T.col (T.F t []) = T.col t ∧ T.rows (T.F t []) = T.rows t
  clear : ∀ t, T.Ok t → ∃ t', Same T t t' ∧ Eats T t [27, 91, 109, 27, 91, 72, 27, 91, 74] t' ∧ ∀ j, Row' T t' j = []
  goto : ∀ t (i c : Nat), T.Ok t → i < T.H t → c < T.W t → ∃ t', Same T t t' ∧ Eats T t (gotoL i c) t' ∧ T.row t' = i ∧ T.col t' = c ∧ T.full t' = false ∧ T.rows t' = T.rows t
  cell : ∀ t (p q : Row) (s : ByteArray) (n : Nat), T.Ok t → T.full t = false → (n = 1 ∨ n = 2) → takes (L s) = n → T.col t + n ≤ T.W t → Row' T t (T.row t) = p ++ q → p.length = T.col t → wh false q →
    ∃ t', Same T t t' ∧ Eats T t (L s) t' ∧ T.row t' = T.row t ∧ (T.col t + n < T.W t → T.col t' = T.col t + n ∧ T.full t' = false) ∧
      Row' T t' (T.row t) = p ++ (if n = 2 then [(s, 2), cz] else [(s, 1)]) ++ cutK n q ∧ ∀ j, j ≠ T.row t → Row' T t' j = Row' T t j
  right : ∀ t (p q : Row), T.Ok t → T.full t = false → Row' T t (T.row t) = p ++ q → p.length = T.col t → wh false q →
    ∃ t', Same T t t' ∧ Eats T t [27, 91, 75] t' ∧ (∃ k, Row' T t' (T.row t) = p ++ List.replicate k cb) ∧ ∀ j, j ≠ T.row t → Row' T t' j = Row' T t j
  below : ∀ t, T.Ok t → T.full t = false → T.col t = 0 → wh false (Row' T t (T.row t)) →
    ∃ t', Same T t t' ∧ Eats T t [27, 91, 74] t' ∧ (∀ j, j < T.row t → Row' T t' j = Row' T t j) ∧ ∀ j, T.row t ≤ j → ∃ k, Row' T t' j = List.replicate k cb
  len : ∀ t i, T.Ok t → (Row' T t i).length ≤ T.W t
end
section
variable {σ : Type} {T : Term σ} {t t' t2 : σ}
theorem Eats.nil : Eats T t [] t := fun X => rfl
theorem Eats.app {a b : Bs} (h : Eats T t a t') (g : Eats T t' b t2) : Eats T t (a ++ b) t2 := fun X => by rw [List.append_assoc, h, g]
theorem Same.refl (h : T.Ok t) : Same T t t := ⟨h, rfl, rfl⟩
theorem Same.trans (h : Same T t t') (g : Same T t' t2) : Same T t t2 := ⟨g.ok, g.W.trans h.W, g.H.trans h.H⟩
/-- Cells that are written one behind the other. -/
theorem cells_write (hL : Laws T) {r : Row} (hr : FitR r) : ∀ (t : σ) (p q : Row), T.Ok t → (r ≠ [] → T.full t = false) → Row' T t (T.row t) = p ++ q → p.length + r.length ≤ T.W t → (r ≠ [] → p.length = T.col t) → wh false q →
    ∃ t', Same T t t' ∧ Eats T t (rowL r) t' ∧ T.row t' = T.row t ∧ (p.length = T.col t → T.full t = false → p.length + r.length < T.W t → T.col t' = p.length + r.length ∧ T.full t' = false) ∧ (∃ y, Row' T t' (T.row t) = p ++ r ++ y ∧ wh false y ∧ y = cutK r.length q) ∧ ∀ j, j ≠ T.row t → Row' T t' j = Row' T t j := by
  induction hr with
  | nil => exact fun t p q hok hf hrow hl hp hq => ⟨t, Same.refl hok, Eats.nil, rfl, fun h1 h2 _ => ⟨h1.symm, h2⟩, ⟨q, by simpa using hrow, hq, rfl⟩, fun j _ => rfl⟩
  | one a r h ht hr ih =>
    intro t p q hok hf hrow hl hp hq
    have hp' := hp (by simp)
    rw [List.length_cons] at hl
    obtain ⟨t1, s1, e1, r1, c1, x1, o1⟩ := hL.cell t p q a.1 1 hok (hf (by simp)) (.inl rfl) ht (by omega) hrow hp' hq
    rw [if_neg (by decide)] at x1
    have ha : (a.1, (1 : Int)) = a := by rw [← h]
    rw [ha] at x1
    obtain ⟨t2, s2, e2, r2, c2, ⟨y, y1, y2, y3⟩, o2⟩ := ih t1 (p ++ [a]) (cutK 1 q) s1.ok (fun hne => (c1 (by have := List.length_pos_iff.2 hne; omega)).2) (by rw [r1]; exact x1) (by rw [s1.W]; simp; omega) (fun hne => by rw [(c1 (by have := List.length_pos_iff.2 hne; omega)).1]; simp; omega) (wh_cutK 1 q hq)
    refine ⟨t2, s1.trans s2, e1.app e2, r2.trans r1, fun _ _ hlt => ?_, ⟨y, by rw [← r1, y1]; simp, y2, y3⟩, fun j hj => (o2 j (by rw [r1]; exact hj)).trans (o1 j hj)⟩
    rw [List.length_cons] at hlt
    obtain ⟨d1, d2⟩ := c1 (by omega)
    obtain ⟨d3, d4⟩ := c2 (by rw [d1]; simp; omega) d2 (by rw [s1.W]; simp; omega)
    refine ⟨?_, d4⟩
    rw [d3]
    simp
    omega
  | two a r h ht hr ih =>
    intro t p q hok hf hrow hl hp hq
    have hp' := hp (by simp)
    rw [List.length_cons, List.length_cons] at hl
    obtain ⟨t1, s1, e1, r1, c1, x1, o1⟩ := hL.cell t p q a.1 2 hok (hf (by simp)) (.inr rfl) ht (by omega) hrow hp' hq
    rw [if_pos rfl] at x1
    have ha : (a.1, (2 : Int)) = a := by rw [← h]
    rw [ha] at x1
    obtain ⟨t2, s2, e2, r2, c2, ⟨y, y1, y2, y3⟩, o2⟩ := ih t1 (p ++ [a, cz]) (cutK 2 q) s1.ok (fun hne => (c1 (by have := List.length_pos_iff.2 hne; omega)).2) (by rw [r1]; exact x1) (by rw [s1.W]; simp; omega) (fun hne => by rw [(c1 (by have := List.length_pos_iff.2 hne; omega)).1]; simp; omega) (wh_cutK 2 q hq)
    refine ⟨t2, s1.trans s2, ?_, r2.trans r1, fun _ _ hlt => ?_, ⟨y, by rw [← r1, y1]; simp, y2, y3⟩, fun j hj => (o2 j (by rw [r1]; exact hj)).trans (o1 j hj)⟩
    · have : rowL (a :: cz :: r) = L a.1 ++ rowL r := by rw [rowL_cons, rowL_cons]; rfl
      rw [this]
      exact e1.app e2
    · rw [List.length_cons, List.length_cons] at hlt
      obtain ⟨d1, d2⟩ := c1 (by omega)
      obtain ⟨d3, d4⟩ := c2 (by rw [d1]; simp; omega) d2 (by rw [s1.W]; simp; omega)
      refine ⟨?_, d4⟩
      rw [d3]
      simp
      omega
/-- What a terminal shows. -/
def Sh (T : Term σ) (t : σ) (rs : List Row) : Prop := ∀ j, trim (Row' T t j) = rs.getD j []
theorem fit_parts {W : Int} {rs : List Row} {cr cc : Int} (h : fit W rs cr cc = true) : 1 ≤ W ∧ W ≤ 65535 ∧ 1 ≤ rs.length ∧ (∀ i, i < rs.length → fitRow (rs.getD i []) W = true) ∧ 0 ≤ cr ∧ cr < rs.length ∧ 0 ≤ cc ∧ cc < W := by
  unfold fit at h
  split at h
  · cases h
  · split at h
    · obtain ⟨a, b, c, d⟩ := of_decide_eq_true h
      exact ⟨by omega, by omega, by omega, by assumption, a, b, c, d⟩
    · cases h
theorem fit_row {W : Int} {rs : List Row} {cr cc : Int} (h : fit W rs cr cc = true) (i : Nat) : FitR (rs.getD i []) ∧ ((rs.getD i []).length : Int) ≤ W ∧ trim (rs.getD i []) = rs.getD i [] := by
  obtain ⟨a, b, c, d, _⟩ := fit_parts h
  by_cases hi : i < rs.length
  · exact fitR_of _ _ (d i hi)
  · rw [List.getD_eq_getElem?_getD, List.getElem?_eq_none (by omega)]
    exact ⟨.nil, by simp; omega, rfl⟩
/-- The rows of a whole painting. -/
theorem rows_full (hL : Laws T) {W : Int} {rs : List Row} {cr cc : Int} (h : fit W rs cr cc = true) (t : σ) (hok : T.Ok t) (hW : W = T.W t) (hH : rs.length ≤ T.H t) (he : ∀ j, Row' T t j = []) :
    ∀ n, n ≤ rs.length → ∃ t', Same T t t' ∧ Eats T t (rowsP rs n) t' ∧ (∀ j, j < n → Row' T t' j = rs.getD j []) ∧ ∀ j, n ≤ j → Row' T t' j = []
  | 0, _ => ⟨t, Same.refl hok, Eats.nil, fun j hj => by omega, fun j _ => he j⟩
  | n + 1, hn => by
    obtain ⟨t1, s1, e1, a1, b1⟩ := rows_full hL h t hok hW hH he n (by omega)
    obtain ⟨f1, f2, f3⟩ := fit_row h n
    obtain ⟨w1, w2, _⟩ := fit_parts h
    rw [rowsP_succ]
    by_cases h0 : 0 < (rs.getD n []).length
    · rw [if_pos h0]
      obtain ⟨t2, s2, e2, r2, c2, fu2, ro2⟩ := hL.goto t1 n 0 s1.ok (by rw [s1.H]; omega) (by rw [s1.W]; omega)
      have hr2 : ∀ j, Row' T t2 j = Row' T t1 j := fun j => by unfold Row'; rw [ro2]
      obtain ⟨t3, s3, e3, r3, -, ⟨y, y1, y2, y3⟩, o3⟩ := cells_write hL f1 t2 [] [] s2.ok (fun _ => fu2) (by rw [r2, hr2, b1 n (Nat.le_refl _)]; rfl) (by rw [s2.W, s1.W, List.length_nil]; omega) (fun _ => by rw [c2]; rfl) trivial
      rw [cutK_nil] at y3
      subst y3
      rw [r2] at y1 o3
      refine ⟨t3, (s1.trans s2).trans s3, e1.app (e2.app e3), fun j hj => ?_, fun j hj => ?_⟩
      · by_cases e : j = n
        · subst e; rw [y1]; simp
        · rw [o3 j e, hr2, a1 j (by omega)]
      · rw [o3 j (by omega), hr2, b1 j (by omega)]
    · rw [if_neg h0, List.append_nil]
      have h00 : rs.getD n [] = [] := List.length_eq_zero_iff.1 (by omega)
      refine ⟨t1, s1, e1, fun j hj => ?_, fun j hj => b1 j (by omega)⟩
      by_cases e : j = n
      · subst e; rw [h00, b1 j (Nat.le_refl _)]
      · exact a1 j (by omega)
theorem getD_out (rs : List Row) (j : Nat) (h : rs.length ≤ j) : rs.getD j [] = [] := by rw [List.getD_eq_getElem?_getD, List.getElem?_eq_none h]; rfl
/-- What a painting leaves. -/
structure Painted (T : Term σ) (t t' : σ) (rs : List Row) (cr cc : Int) : Prop where
  same : Same T t t'
  held : T.held t' = []
  sh : Sh T t' rs
  row : cr = T.row t'
  col : cc = T.col t'
theorem painted_end (hL : Laws T) {W : Int} {rs : List Row} {cr cc : Int} (h : fit W rs cr cc = true) {t t1 : σ} (s1 : Same T t t1) (hW : W = T.W t) (hH : rs.length ≤ T.H t) (hs : Sh T t1 rs) : ∃ t', T.F t1 (gotoL cr cc) = t' ∧ Painted T t t' rs cr cc := by
  obtain ⟨w1, w2, w3, w4, w5, w6, w7, w8⟩ := fit_parts h
  obtain ⟨i, hi⟩ : ∃ i : Nat, cr = i := ⟨cr.toNat, by omega⟩
  obtain ⟨c, hc⟩ : ∃ c : Nat, cc = c := ⟨cc.toNat, by omega⟩
  obtain ⟨t2, s2, e2, r2, c2, f2, ro2⟩ := hL.goto t1 i c s1.ok (by rw [s1.H]; omega) (by rw [s1.W]; omega)
  obtain ⟨n1, n2, n3, n4, n5⟩ := hL.nil t2 s2.ok
  refine ⟨_, rfl, ?_⟩
  have e : T.F t1 (gotoL cr cc) = T.F t2 [] := by rw [hi, hc]; simpa using e2 []
  rw [e]
  refine ⟨(s1.trans s2).trans n1, n2, fun j => ?_, by rw [n3, r2, hi], by rw [n4, c2, hc]⟩
  unfold Row'
  rw [n5, ro2]
  exact hs j
/-- A whole painting shows the frame, from whatever was there. -/
theorem full_painted (hL : Laws T) {W : Int} {rs : List Row} {cr cc : Int} (h : fit W rs cr cc = true) (t : σ) (hok : T.Ok t) (hW : W = T.W t) (hH : rs.length ≤ T.H t) : Painted T t (T.feed t (fullL W rs cr cc)) rs cr cc := by
  unfold fullL
  rw [if_pos h]
  obtain ⟨t0, s0, e0⟩ := hL.junk t ([91, 109, 27, 91, 72, 27, 91, 74] ++ rowsP rs rs.length ++ gotoL cr cc) hok
  obtain ⟨t1, s1, e1, b1⟩ := hL.clear t0 s0.ok
  obtain ⟨t2, s2, e2, a2, b2⟩ := rows_full hL h t1 s1.ok (by rw [s1.W, s0.W]; exact hW) (by rw [s1.H, s0.H]; exact hH) b1 rs.length (Nat.le_refl _)
  have hs : Sh T t2 rs := fun j => by
    rcases Nat.lt_or_ge j rs.length with hj | hj
    · rw [a2 j hj]; exact (fit_row h j).2.2
    · rw [b2 j hj, getD_out rs j hj]; rfl
  obtain ⟨t', e', p'⟩ := painted_end hL h ((s0.trans s1).trans s2) hW hH hs
  have : T.feed t ([27, 91, 109, 27, 91, 72, 27, 91, 74] ++ rowsP rs rs.length ++ gotoL cr cc) = t' := by
    rw [← e']
    refine e0.trans ?_
    have := (e1.app e2) (gotoL cr cc)
    rw [← this]
    rfl
  rw [this]
  exact p'
/-- The first n rows of a painting over what was there. -/
def nextP (old rs : List Row) (W : Int) (n : Nat) : Bs := (List.range n).flatMap fun i => if i < old.length ∧ rs.getD i [] = old.getD i [] then [] else gotoL i 0 ++ rowL (rs.getD i []) ++ (if ((rs.getD i []).length : Int) < W then [27, 91, 75] else [])
theorem nextP_succ (old rs : List Row) (W : Int) (n : Nat) : nextP old rs W (n + 1) = nextP old rs W n ++ (if n < old.length ∧ rs.getD n [] = old.getD n [] then [] else gotoL n 0 ++ rowL (rs.getD n []) ++ (if ((rs.getD n []).length : Int) < W then [27, 91, 75] else [])) := by
  unfold nextP
  rw [List.range_succ, List.flatMap_append]
  show _ ++ (_ ++ []) = _
  rw [List.append_nil]
def nextL (old : List Row) (W : Int) (rs : List Row) (cr cc : Int) : Bs := nextP old rs W rs.length ++ (if rs.length < old.length then gotoL rs.length 0 ++ [27, 91, 74] else []) ++ gotoL cr cc
theorem rows_next (hL : Laws T) {W : Int} {old rs : List Row} {cr cc or_ oc : Int} (h : fit W rs cr cc = true) (ho : fit W old or_ oc = true) (t : σ) (hok : T.Ok t) (hW : W = T.W t) (hH : rs.length ≤ T.H t) (hs : Sh T t old) :
    ∀ n, n ≤ rs.length → ∃ t', Same T t t' ∧ Eats T t (nextP old rs W n) t' ∧ (∀ j, j < n → trim (Row' T t' j) = rs.getD j []) ∧ ∀ j, n ≤ j → Row' T t' j = Row' T t j
  | 0, _ => ⟨t, Same.refl hok, Eats.nil, fun j hj => by omega, fun j _ => rfl⟩
  | n + 1, hn => by
    obtain ⟨t1, s1, e1, a1, b1⟩ := rows_next hL h ho t hok hW hH hs n (by omega)
    obtain ⟨f1, f2, f3⟩ := fit_row h n
    obtain ⟨w1, w2, _⟩ := fit_parts h
    rw [nextP_succ]
    by_cases h0 : n < old.length ∧ rs.getD n [] = old.getD n []
    · rw [if_pos h0, List.append_nil]
      refine ⟨t1, s1, e1, fun j hj => ?_, fun j hj => b1 j (by omega)⟩
      by_cases e : j = n
      · subst e; rw [b1 j (Nat.le_refl _), hs j, h0.2]
      · exact a1 j (by omega)
    · rw [if_neg h0]
      obtain ⟨t2, s2, e2, r2, c2, fu2, ro2⟩ := hL.goto t1 n 0 s1.ok (by rw [s1.H]; omega) (by rw [s1.W]; omega)
      have hr2 : ∀ j, Row' T t2 j = Row' T t1 j := fun j => by unfold Row'; rw [ro2]
      have hwh : wh false (Row' T t2 n) := by
        rw [hr2, b1 n (Nat.le_refl _)]
        exact wh_shown _ (by rw [hs n]; exact (fit_row ho n).1)
      obtain ⟨t3, s3, e3, r3, c3, ⟨y, y1, y2, y3⟩, o3⟩ := cells_write hL f1 t2 [] (Row' T t2 n) s2.ok (fun _ => fu2) (by rw [r2]; rfl) (by rw [s2.W, s1.W, List.length_nil]; omega) (fun _ => by rw [c2]; rfl) hwh
      rw [r2] at y1 o3 r3
      rw [List.nil_append] at y1
      by_cases hlt : ((rs.getD n []).length : Int) < W
      · rw [if_pos hlt]
        obtain ⟨d1, d2⟩ := c3 (by rw [c2]; rfl) fu2 (by rw [s2.W, s1.W, List.length_nil]; omega)
        obtain ⟨t4, s4, e4, ⟨k, x4⟩, o4⟩ := hL.right t3 (rs.getD n []) y s3.ok d2 (by rw [r3]; exact y1) (by rw [d1]; simp) y2
        rw [r3] at x4 o4
        refine ⟨t4, ((s1.trans s2).trans s3).trans s4, e1.app ((e2.app e3).app e4), fun j hj => ?_, fun j hj => ?_⟩
        · by_cases e : j = n
          · subst e; rw [x4, trim_app_blank, f3]
          · rw [o4 j e, o3 j e, hr2, a1 j (by omega)]
        · rw [o4 j (by omega), o3 j (by omega), hr2, b1 j (by omega)]
      · rw [if_neg hlt, List.append_nil]
        have hy : y = [] := by
          have := hL.len t3 n s3.ok
          rw [y1, List.length_append, s3.W, s2.W, s1.W] at this
          exact List.length_eq_zero_iff.1 (by omega)
        subst hy
        rw [List.append_nil] at y1
        refine ⟨t3, (s1.trans s2).trans s3, e1.app (e2.app e3), fun j hj => ?_, fun j hj => ?_⟩
        · by_cases e : j = n
          · subst e; rw [y1, f3]
          · rw [o3 j e, hr2, a1 j (by omega)]
        · rw [o3 j (by omega), hr2, b1 j (by omega)]
/-- A painting over the frame that is shown shows the next. -/
theorem next_painted (hL : Laws T) {W : Int} {old rs : List Row} {cr cc or_ oc : Int} (h : fit W rs cr cc = true) (ho : fit W old or_ oc = true) (t : σ) (hok : T.Ok t) (hW : W = T.W t) (hH : rs.length ≤ T.H t) (hoH : old.length ≤ T.H t) (hs : Sh T t old) (hh : T.held t = []) : Painted T t (T.feed t (nextL old W rs cr cc)) rs cr cc := by
  rw [hL.held t _ hh]
  unfold nextL
  obtain ⟨w1, w2, _⟩ := fit_parts h
  obtain ⟨t1, s1, e1, a1, b1⟩ := rows_next hL h ho t hok hW hH hs rs.length (Nat.le_refl _)
  by_cases hlt : rs.length < old.length
  · rw [if_pos hlt]
    obtain ⟨t2, s2, e2, r2, c2, fu2, ro2⟩ := hL.goto t1 rs.length 0 s1.ok (by rw [s1.H]; omega) (by rw [s1.W]; omega)
    have hr2 : ∀ j, Row' T t2 j = Row' T t1 j := fun j => by unfold Row'; rw [ro2]
    obtain ⟨t3, s3, e3, a3, b3⟩ := hL.below t2 s2.ok fu2 c2 (by
      rw [r2, hr2, b1 _ (Nat.le_refl _)]
      exact wh_shown _ (by rw [hs]; exact (fit_row ho _).1))
    rw [r2] at a3 b3
    have hs3 : Sh T t3 rs := fun j => by
      rcases Nat.lt_or_ge j rs.length with hj | hj
      · rw [a3 j hj, hr2, a1 j hj]
      · obtain ⟨k, hk⟩ := b3 j hj
        rw [hk, trim_blank, getD_out rs j hj]
    obtain ⟨t', e', p'⟩ := painted_end hL h ((s1.trans s2).trans s3) hW hH hs3
    have : T.F t (nextP old rs W rs.length ++ (gotoL rs.length 0 ++ [27, 91, 74]) ++ gotoL cr cc) = t' := by
      rw [← e']
      exact (e1.app (e2.app e3)) (gotoL cr cc)
    rw [this]
    exact p'
  · rw [if_neg hlt, List.append_nil]
    have hs1 : Sh T t1 rs := fun j => by
      rcases Nat.lt_or_ge j rs.length with hj | hj
      · exact a1 j hj
      · rw [b1 j hj, hs j, getD_out rs j hj, getD_out old j (by omega)]
    obtain ⟨t', e', p'⟩ := painted_end hL h s1 hW hH hs1
    have : T.F t (nextP old rs W rs.length ++ gotoL cr cc) = t' := by rw [← e']; exact e1 (gotoL cr cc)
    rw [this]
    exact p'
end
end Go.Proofs.YtceomobdolkfgaaDoor.U
/- The screen, told plainly, keeps a terminal's laws. No program. -/
set_option linter.unusedVariables false
namespace Go.Proofs.YtceomobdolkfgaaDoor.U
open Go.Lib
/-- All bytes of a text, fed to a screen that holds none. -/
def FF (t : TS) (l : Bs) : TS := TS.feedN l.length t l
theorem feedN_more : ∀ n m (t : TS) l, l.length ≤ n → n ≤ m → TS.feedN m t l = TS.feedN n t l
  | 0, m, t, l, h, _ => by
    obtain rfl : l = [] := List.length_eq_zero_iff.1 (by omega)
    cases m with
    | zero => rfl
    | succ m => unfold TS.feedN; rw [if_pos (.inl rfl)]
  | n + 1, 0, t, l, h, hm => by omega
  | n + 1, m + 1, t, l, h, hm => by
    unfold TS.feedN
    split
    · rfl
    · rename_i hc
      have h0 : (t.step l).1 ≠ 0 := fun e => hc (.inr e)
      exact feedN_more n m _ _ (by rw [List.length_drop]; omega) (by omega)
theorem FF_step (t : TS) (l : Bs) (hl : l ≠ []) (h : (t.step l).1 ≠ 0) : FF t l = FF (t.step l).2 (l.drop (t.step l).1) := by
  have hp := List.length_pos_iff.2 hl
  unfold FF
  conv => lhs; rw [show l.length = (l.length - 1) + 1 from by omega]; unfold TS.feedN
  rw [if_neg (fun e => e.elim hl h)]
  exact feedN_more _ _ _ _ (Nat.le_refl _) (by rw [List.length_drop]; omega)
theorem FF_chunk {t t' : TS} {a : Bs} (ha : a ≠ []) (h : ∀ X, t.step (a ++ X) = (a.length, t')) (X : Bs) : FF t (a ++ X) = FF t' X := by
  have hp := List.length_pos_iff.2 ha
  rw [FF_step t (a ++ X) (by simp [ha]) (by rw [h X]; show a.length ≠ 0; omega), h X]
  simp
/-! What does not change. -/
theorem down_WH (t : TS) : t.down.W = t.W ∧ t.down.H = t.H := by
  unfold TS.down
  repeat' split
  all_goals exact ⟨rfl, rfl⟩
theorem write_WH (t : TS) (s : ByteArray) (n : Nat) : (t.write s n).W = t.W ∧ (t.write s n).H = t.H := by
  have : (t.wrap n).W = t.W ∧ (t.wrap n).H = t.H := by
    unfold TS.wrap
    split
    · exact down_WH t
    · exact ⟨rfl, rfl⟩
  exact this
theorem carry_WH (t : TS) (e : Nat) (l : Bs) : (t.carry e l).W = t.W ∧ (t.carry e l).H = t.H := by
  unfold TS.carry
  repeat' split
  all_goals exact ⟨rfl, rfl⟩
theorem step_WH (t : TS) (l : Bs) : (t.step l).2.W = t.W ∧ (t.step l).2.H = t.H := by
  unfold TS.step
  split
  · unfold TS.escape
    repeat' split
    all_goals first | exact ⟨rfl, rfl⟩ | exact carry_WH t.unmark _ _
  · split
    · unfold TS.control
      repeat' split
      all_goals first | exact ⟨rfl, rfl⟩ | exact down_WH t.plain
    · split
      · exact ⟨rfl, rfl⟩
      · unfold TS.shown
        repeat' split
        all_goals first | exact ⟨rfl, rfl⟩ | exact write_WH t _ _
/-! Bytes that were held: they do something, and the escape behind them stays whole. -/
theorem ins_stop : ∀ (h X : Bs), ins (h ++ 27 :: X) ≤ h.length
  | [], X => by
    show ins (27 :: X) ≤ 0
    unfold ins
    rw [if_neg (by decide)]
    exact Nat.le_refl _
  | c :: h, X => by
    show ins (c :: (h ++ 27 :: X)) ≤ _
    unfold ins
    split
    · have := ins_stop h X
      simp; omega
    · exact Nat.zero_le _
theorem getD_esc (h X : Bs) : (h ++ 27 :: X).getD h.length 0 = 27 := by simp [List.getD]
theorem getD_in (h X : Bs) (k : Nat) (hk : k < h.length) : (h ++ 27 :: X).getD k 0 = h.getD k 0 := getD_append _ _ _ hk
theorem step_junk (t : TS) (h X : Bs) (hh : h ≠ []) : 1 ≤ (t.step (h ++ 27 :: X)).1 ∧ (t.step (h ++ 27 :: X)).1 ≤ h.length := by
  have hp := List.length_pos_iff.2 hh
  have hlen : (h ++ 27 :: X).length = h.length + 1 + X.length := by simp; omega
  have hne : h ++ 27 :: X ≠ [] := by simp
  unfold TS.step
  split
  · unfold TS.escape
    rw [if_neg (by omega)]
    split
    · exact ⟨Nat.le_refl _, hp⟩
    · rename_i h27
      have h2 : 2 ≤ h.length := by
        rcases Nat.lt_or_ge 1 h.length with x | x
        · exact x
        · have e1 : h.length = 1 := by omega
          have := getD_esc h X
          rw [e1] at this
          rw [this] at h27
          exact absurd rfl h27
      split
      · exact ⟨by show 1 ≤ 2; omega, h2⟩
      · have hd : (h ++ 27 :: X).drop 2 = h.drop 2 ++ 27 :: X := by rw [List.drop_append_of_le_length h2]
        have hi := ins_stop (h.drop 2) X
        rw [List.length_drop] at hi
        have he : escEnd (h ++ 27 :: X) ≤ h.length := by unfold escEnd; rw [hd]; omega
        have he2 : 2 ≤ escEnd (h ++ 27 :: X) := by unfold escEnd; omega
        rw [if_neg (by omega)]
        split
        · exact ⟨by show 1 ≤ escEnd _; omega, he⟩
        · rename_i hb
          have : escEnd (h ++ 27 :: X) ≠ h.length := by
            intro e
            rw [e, getD_esc] at hb
            exact hb (.inl (by decide))
          exact ⟨by show 1 ≤ escEnd _ + 1; omega, by show escEnd _ + 1 ≤ _; omega⟩
  · split
    · exact ⟨Nat.le_refl _, hp⟩
    · have hnc : ¬ Cont ((h ++ 27 :: X).getD h.length 0) := by rw [getD_esc]; unfold Cont; decide
      have hb : begun (h ++ 27 :: X) = false := by
        cases hb : begun (h ++ 27 :: X) with
        | false => rfl
        | true => exact absurd (begun_cont _ hb h.length hp (by omega)) hnc
      rw [hb]
      refine ⟨sz_pos _ hne, ?_⟩
      rcases Nat.lt_or_ge h.length (sz (h ++ 27 :: X)) with x | x
      · exact absurd (sz_cont _ _ hp x) hnc
      · exact x
theorem junk_ (X : Bs) : ∀ n (h : Bs) (t : TS), h.length ≤ n → t.Inv → ∃ t' : TS, t'.Inv ∧ t'.W = t.W ∧ t'.H = t.H ∧ FF t (h ++ 27 :: X) = FF t' (27 :: X)
  | 0, h, t, hn, hi => by
    obtain rfl : h = [] := List.length_eq_zero_iff.1 (by omega)
    exact ⟨t, hi, rfl, rfl, rfl⟩
  | n + 1, h, t, hn, hi => by
    by_cases hh : h = []
    · subst hh
      exact ⟨t, hi, rfl, rfl, rfl⟩
    · obtain ⟨j1, j2⟩ := step_junk t h X hh
      obtain ⟨w1, w2⟩ := step_WH t (h ++ 27 :: X)
      obtain ⟨t', i', a, b, e⟩ := junk_ X n (h.drop (t.step (h ++ 27 :: X)).1) (t.step (h ++ 27 :: X)).2 (by rw [List.length_drop]; omega) (step_inv hi _)
      refine ⟨t', i', a.trans w1, b.trans w2, ?_⟩
      rw [FF_step t _ (by simp) (by omega), ← e, List.drop_append_of_le_length j2]
/-! Sequences. -/
theorem ins_app : ∀ (i : Bs) (e : UInt8) (X : Bs), (∀ c ∈ i, 32 ≤ c.toNat ∧ c.toNat ≤ 63) → 64 ≤ e.toNat → ins (i ++ e :: X) = i.length
  | [], e, X, _, he => by
    show ins (e :: X) = 0
    unfold ins
    rw [if_neg (by omega)]
  | c :: i, e, X, h, he => by
    show ins (c :: (i ++ e :: X)) = _
    unfold ins
    rw [if_pos (h c (List.mem_cons_self ..)), ins_app i e X (fun x hx => h x (List.mem_cons_of_mem _ hx)) he]
    rfl
theorem esc_step (t : TS) (i : Bs) (e : UInt8) (hi : ∀ c ∈ i, 32 ≤ c.toNat ∧ c.toNat ≤ 63) (he : 64 ≤ e.toNat ∧ e.toNat ≤ 126) (X : Bs) : t.step (27 :: 91 :: (i ++ [e]) ++ X) = ((27 :: 91 :: (i ++ [e]) : Bs).length, t.unmark.carry e.toNat i) := by
  have hl : (27 :: 91 :: (i ++ [e]) ++ X : Bs) = 27 :: 91 :: (i ++ e :: X) := by simp
  rw [hl]
  have hE : escEnd (27 :: 91 :: (i ++ e :: X)) = 2 + i.length := by
    unfold escEnd
    rw [show (27 :: 91 :: (i ++ e :: X) : Bs).drop 2 = i ++ e :: X from rfl, ins_app i e X hi he.1]
  have hg : (27 :: 91 :: (i ++ e :: X) : Bs).getD (2 + i.length) 0 = e := by
    rw [Nat.add_comm]
    show (i ++ e :: X).getD i.length 0 = e
    simp [List.getD]
  unfold TS.step
  rw [if_pos (by rfl)]
  unfold TS.escape
  have h91 : (27 :: 91 :: (i ++ e :: X) : Bs).getD 1 0 = 91 := rfl
  rw [h91, if_neg (by simp), if_neg (by decide), if_neg (by decide), hE, if_neg (by simp; omega), hg, if_neg (by omega)]
  refine Prod.ext ?_ ?_
  · show 2 + i.length + 1 = _
    simp; omega
  · show t.unmark.carry e.toNat (((27 :: 91 :: (i ++ e :: X) : Bs).take (2 + i.length)).drop 2) = _
    rw [Nat.add_comm]
    show t.unmark.carry e.toNat ((i ++ e :: X).take i.length) = _
    simp
theorem digits_in : ∀ n c, c ∈ decDigits n → 48 ≤ c.toNat ∧ c.toNat ≤ 57 := by
  intro n
  induction n using Nat.strongRecOn with
  | _ n ih =>
  intro c hc
  rw [decDigits] at hc
  split at hc
  · rename_i h
    obtain rfl : c = UInt8.ofNat (48 + n) := by simpa using hc
    have : (UInt8.ofNat (48 + n)).toNat = 48 + n := by rw [UInt8.toNat_ofNat']; omega
    omega
  · rename_i h
    rcases List.mem_append.1 hc with h1 | h1
    · exact ih (n / 10) (by omega) c h1
    · obtain rfl : c = UInt8.ofNat (48 + n % 10) := by simpa using h1
      have : (UInt8.ofNat (48 + n % 10)).toNat = 48 + n % 10 := by rw [UInt8.toNat_ofNat']; omega
      omega
theorem numN_a : ∀ n, n ≤ 65535 → ∀ b X, numN ⟨false, 0, b⟩ (decDigits n ++ X) = numN ⟨false, n, b⟩ X := by
  intro n
  induction n using Nat.strongRecOn with
  | _ n ih =>
  intro hn b X
  have step : ∀ k d, d < 10 → k * 10 + d = n → numN ⟨false, k, b⟩ (UInt8.ofNat (48 + d) :: X) = numN ⟨false, n, b⟩ X := fun k d hd hk => by
    have e : (UInt8.ofNat (48 + d)).toNat = 48 + d := by rw [UInt8.toNat_ofNat']; omega
    conv => lhs; unfold numN
    rw [if_pos (by omega)]
    show numN ⟨false, min (k * 10 + ((UInt8.ofNat (48 + d)).toNat - 48)) 65535, b⟩ X = _
    rw [e, show min (k * 10 + (48 + d - 48)) 65535 = n from by omega]
  rw [decDigits]
  split
  · rename_i h
    exact step 0 n h (by omega)
  · rename_i h
    rw [List.append_assoc, ih (n / 10) (by omega) (by omega)]
    exact step (n / 10) (n % 10) (by omega) (by omega)
theorem numN_b : ∀ n, n ≤ 65535 → ∀ a X, numN ⟨true, a, 0⟩ (decDigits n ++ X) = numN ⟨true, a, n⟩ X := by
  intro n
  induction n using Nat.strongRecOn with
  | _ n ih =>
  intro hn a X
  have step : ∀ k d, d < 10 → k * 10 + d = n → numN ⟨true, a, k⟩ (UInt8.ofNat (48 + d) :: X) = numN ⟨true, a, n⟩ X := fun k d hd hk => by
    have e : (UInt8.ofNat (48 + d)).toNat = 48 + d := by rw [UInt8.toNat_ofNat']; omega
    conv => lhs; unfold numN
    rw [if_pos (by omega)]
    show numN ⟨true, a, min (k * 10 + ((UInt8.ofNat (48 + d)).toNat - 48)) 65535⟩ X = _
    rw [e, show min (k * 10 + (48 + d - 48)) 65535 = n from by omega]
  rw [decDigits]
  split
  · rename_i h
    exact step 0 n h (by omega)
  · rename_i h
    rw [List.append_assoc, ih (n / 10) (by omega) (by omega)]
    exact step (n / 10) (n % 10) (by omega) (by omega)
theorem numbers_two (a b : Nat) (ha : a ≤ 65535) (hb : b ≤ 65535) : numbers (decDigits a ++ 59 :: decDigits b) = some ⟨true, a, b⟩ := by
  unfold numbers
  rw [numN_a a ha]
  conv => lhs; unfold numN
  rw [if_neg (by decide), if_pos ⟨by decide, rfl⟩]
  have := numN_b b hb a []
  rw [List.append_nil] at this
  show numN ⟨true, a, 0⟩ (decDigits b) = _
  rw [this]
  rfl
theorem oneL_dec (i : Nat) (h : i < 65535) : oneL (i : Int) = decDigits (i + 1) := by
  unfold oneL itoa
  rw [if_neg (by omega)]
  congr 1
  omega
theorem goto_step (t : TS) (i c : Nat) (hi : i < t.H) (hc : c < t.W) (hH : t.H ≤ 65535) (hW : t.W ≤ 65535) (X : Bs) : t.step (gotoL i c ++ X) = ((gotoL i c).length, { t with marks := false, full := false, row := i, col := c }) := by
  have hg : gotoL i c = 27 :: 91 :: ((decDigits (i + 1) ++ 59 :: decDigits (c + 1)) ++ [72]) := by
    unfold gotoL
    rw [oneL_dec i (by omega), oneL_dec c (by omega)]
    simp
  rw [hg, esc_step t _ 72 (fun x hx => by
    rcases List.mem_append.1 hx with h | h
    · have := digits_in _ _ h; omega
    · rcases List.mem_cons.1 h with h | h
      · subst h; decide
      · have := digits_in _ _ h; omega) (by decide)]
  refine Prod.ext rfl ?_
  show t.unmark.carry 72 _ = _
  unfold TS.carry
  rw [if_neg (by decide), if_neg (by decide), if_neg (by decide), if_pos rfl, numbers_two _ _ (by omega) (by omega)]
  show ({ t.unmark with full := false, row := min (max (i + 1) 1) t.H - 1, col := min (max (c + 1) 1) t.W - 1 } : TS) = _
  rw [show min (max (i + 1) 1) t.H - 1 = i from by omega, show min (max (c + 1) 1) t.W - 1 = c from by omega]
  rfl
/-! A cell's text. -/
theorem cls_low (c : Int) (h0 : 0 ≤ c) (h : c < 32 ∨ c = 127) : cls c = 1 ∨ cls c = 2 := by
  unfold cls
  rw [if_neg (by omega)]
  split
  · exact .inl rfl
  · rw [if_pos (by omega)]
    exact .inr rfl
/-- A good unit of a class that is shown. -/
theorem unit_step (t : TS) (u : Bs) (hu : u ≠ []) (hg : uni u ≠ (-1, 1)) (hs : sz u = u.length) (hc : cls (chr u) = 0 ∨ cls (chr u) = 3 ∨ cls (chr u) = 4) (X : Bs) : t.step (u ++ X) = (u.length, t.shown (cls (chr u)) (ba u)) := by
  have hp := List.length_pos_iff.2 hu
  have e1 := uni_app u X hu hg
  have e2 : (u ++ X).getD 0 0 = u.getD 0 0 := getD_append _ _ _ hp
  have hlow : ¬ ((u.getD 0 0).toNat < 32 ∨ (u.getD 0 0).toNat = 127) := by
    intro h
    have := uni_one u hu (by omega)
    have hch : chr u = ((u.getD 0 0).toNat : Int) := by unfold chr; rw [this]
    have := cls_low (chr u) (by omega) (by omega)
    omega
  unfold TS.step
  rw [e2, if_neg (by omega), if_neg hlow, begun_good (u ++ X) (by simp [hu]) (by rw [e1]; exact hg)]
  have e3 : sz (u ++ X) = u.length := by unfold sz at hs ⊢; rw [e1, hs]
  have e4 : chr (u ++ X) = chr u := by unfold chr; rw [e1]
  rw [if_neg (by simp), e3, e4]
  simp
theorem put_get (r : Row) (c : Nat) (s : ByteArray) (n : Nat) (hn : n = 1 ∨ n = 2) : (put r c s n).getD c cz = (s, (n : Int)) := by
  have hl := padRow_len r (c + n)
  unfold put
  dsimp only
  rcases hn with rfl | rfl
  · rw [if_neg (by decide), List.getD_eq_getElem?_getD, List.getElem?_set_self (by rw [half_len, hl]; omega)]; rfl
  · rw [if_pos rfl, List.getD_eq_getElem?_getD, List.getElem?_set_ne (by omega), List.getElem?_set_self (by rw [half_len, half_len, hl]; omega)]; rfl
theorem put_set (r : Row) (c : Nat) (s s' : ByteArray) (n : Nat) (hn : n = 1 ∨ n = 2) : (put r c s n).set c (s', (n : Int)) = put r c s' n := by
  unfold put
  dsimp only
  rcases hn with rfl | rfl
  · rw [if_neg (by decide), List.set_set]; rfl
  · rw [if_pos rfl, List.set_comm _ _ (by omega), List.set_set]; rfl
theorem write_lay (t : TS) (s s' : ByteArray) (n : Nat) (hn : n = 1 ∨ n = 2) : (t.write s n).lay s' = t.write (s ++ s') n := by
  unfold TS.write
  dsimp only
  generalize t.wrap n = u
  unfold TS.lay
  dsimp only
  have hl := padRows_len u.rows (u.row + 1)
  have hg : ((padRows u.rows (u.row + 1)).set u.row (put ((padRows u.rows (u.row + 1)).getD u.row []) u.col s n)).getD u.row [] = put ((padRows u.rows (u.row + 1)).getD u.row []) u.col s n := by
    rw [getD_set _ _ _ _ (by omega), if_pos rfl]
  rw [hg, put_get _ _ _ _ hn, List.set_set]
  show TS.mk _ _ _ _ _ _ _ _ _ _ = TS.mk _ _ _ _ _ _ _ _ _ _
  congr 2
  exact put_set _ _ _ _ _ hn
theorem ba_app (a b : Bs) : ba (a ++ b) = ba a ++ ba b := by
  have := S_app a b
  exact this.symm
theorem cls_neg : cls (-1) = 5 := rfl
theorem marks_eat (t : TS) (n : Nat) (hn : n = 1 ∨ n = 2) : ∀ k (m : Bs), m.length ≤ k → onlyMarks m → ∀ s X, FF (t.write s n) (m ++ X) = FF (t.write (s ++ ba m) n) X := by
  intro k
  induction k using Nat.strongRecOn with
  | _ k ih =>
  intro m hk hm s X
  by_cases h0 : m = []
  · subst h0
    have : s ++ ba [] = s := ByteArray.append_empty
    rw [this]
    rfl
  · have hp := sz_pos m h0
    have hz := sz_le m
    have hlen := List.length_pos_iff.2 h0
    have hm' := hm
    unfold onlyMarks at hm'
    rw [units_step m h0] at hm'
    have hc : cls (chr m) = 3 := hm' _ (List.mem_cons_self ..)
    have hg : uni m ≠ (-1, 1) := fun e => by
      unfold chr at hc
      rw [e, cls_neg] at hc
      cases hc
    have hu1 := uni_take m (sz m) (Nat.le_refl _)
    have hlt : (m.take (sz m)).length = sz m := by rw [List.length_take]; omega
    have hst := unit_step (t.write s n) (m.take (sz m)) (by intro e; rw [e] at hlt; simp at hlt; omega) (by rw [hu1]; exact hg) (by rw [hlt]; exact congrArg Prod.snd hu1) (by unfold chr; rw [hu1]; exact .inr (.inl hc))
    have hch : chr (m.take (sz m)) = chr m := by unfold chr; rw [hu1]
    rw [hch, hc] at hst
    have hsh : (t.write s n).shown 3 (ba (m.take (sz m))) = t.write (s ++ ba (m.take (sz m))) n := by
      unfold TS.shown
      rw [if_pos rfl, if_pos (show (t.write s n).marks = true from rfl), write_lay _ _ _ _ hn]
    rw [hsh] at hst
    have hcut : m ++ X = m.take (sz m) ++ (m.drop (sz m) ++ X) := by rw [← List.append_assoc, List.take_append_drop]
    rw [hcut, FF_chunk (by intro e; rw [e] at hlt; simp at hlt; omega) hst, ih (m.drop (sz m)).length (by rw [List.length_drop]; omega) (m.drop (sz m)) (Nat.le_refl _) (fun x hx => hm' x (List.mem_cons_of_mem _ hx))]
    congr 2
    have : ba m = ba (m.take (sz m)) ++ ba (m.drop (sz m)) := by rw [← ba_app, List.take_append_drop]
    rw [this]
    exact ByteArray.append_assoc ..
theorem L_ba' (s : ByteArray) : ba (L s) = s := by unfold ba L; cases s; simp
theorem cell_eat (t : TS) (s : ByteArray) (n : Nat) (hn : n = 1 ∨ n = 2) (ht : takes (L s) = n) (hw : n = 2 → t.W ≠ 1) (X : Bs) : FF t (L s ++ X) = FF (t.write s n) X := by
  obtain ⟨h1, h2, h3, h4⟩ := takes_base (L s) (by rw [ht]; rcases hn with rfl | rfl <;> decide)
  obtain ⟨m, hm⟩ : ∃ m, m = L s := ⟨_, rfl⟩
  rw [← hm] at h1 h2 h3 h4 ht ⊢
  have hz := sz_le m
  have hp := sz_pos m h1
  have hu1 := uni_take m (sz m) (Nat.le_refl _)
  have hlt : (m.take (sz m)).length = sz m := by rw [List.length_take]; omega
  have hne : m.take (sz m) ≠ [] := by intro e; rw [e] at hlt; simp at hlt; omega
  have hch : chr (m.take (sz m)) = chr m := by unfold chr; rw [hu1]
  have hst := unit_step t (m.take (sz m)) hne (by rw [hu1]; exact h2) (by rw [hlt]; exact congrArg Prod.snd hu1) (by rw [hch]; rcases h4 with ⟨_, e⟩ | ⟨_, e⟩ <;> simp [e])
  have hsh : t.shown (cls (chr (m.take (sz m)))) (ba (m.take (sz m))) = t.write (ba (m.take (sz m))) n := by
    rw [hch]
    unfold TS.shown
    rcases h4 with ⟨e, e'⟩ | ⟨e, e'⟩
    · have : n = 1 := by omega
      subst this
      rw [e', if_neg (by decide), if_pos rfl]
    · have : n = 2 := by omega
      subst this
      rw [e', if_neg (by decide), if_neg (by decide), if_neg (by decide), if_pos rfl, if_neg (hw rfl)]
  rw [hsh] at hst
  have hcut : m ++ X = m.take (sz m) ++ (m.drop (sz m) ++ X) := by rw [← List.append_assoc, List.take_append_drop]
  rw [hcut, FF_chunk hne hst, marks_eat t n hn _ _ (Nat.le_refl _) h3, ← ba_app, List.take_append_drop, hm, L_ba']
/-! The screen as a terminal. -/
def TT : Term TS := { W := TS.W, H := TS.H, row := TS.row, col := TS.col, full := TS.full, rows := TS.rows, held := fun t => L t.held, Ok := TS.Inv, F := FF, feed := TS.feed }
theorem row_get (t : TS) (j : Nat) : Row' TT t j = t.rows.getD j [] := rfl
theorem feed_eq (t : TS) (l : Bs) : t.feed l = FF t (L t.held ++ l) := rfl
theorem getD_take_row (rs : List Row) (n j : Nat) : (rs.take n).getD j [] = if j < n then rs.getD j [] else [] := by
  rw [List.getD_eq_getElem?_getD, List.getElem?_take]
  split
  · rw [List.getD_eq_getElem?_getD]
  · rfl
theorem clearRow_get (rows : List Row) (i c j : Nat) : (clearRow rows i c).getD j [] = if i = j ∧ ¬ (rows.getD i []).length ≤ c then (half (rows.getD i []) c).take c else rows.getD j [] := by
  unfold clearRow
  by_cases h : rows.length ≤ i ∨ (rows.getD i []).length ≤ c
  · rw [if_pos h]
    rw [if_neg]
    rintro ⟨e, h2⟩
    rcases h with h | h
    · rw [List.getD_eq_getElem?_getD, List.getElem?_eq_none h] at h2
      simp at h2
    · exact h2 h
  · rw [if_neg h, getD_set _ _ _ _ (by omega)]
    by_cases e : i = j
    · rw [if_pos e, if_pos ⟨e, by omega⟩]
    · rw [if_neg e, if_neg (fun x => e x.1)]
theorem wrap_none (t : TS) (n : Nat) (hf : t.full = false) (hn : n = 1 ∨ n = 2) (hc : t.col + n ≤ t.W) : t.wrap n = t := by
  unfold TS.wrap
  rw [if_neg]
  rintro (h | ⟨h, h2⟩)
  · rw [hf] at h; cases h
  · omega
theorem carry_m (t : TS) (l : Bs) : t.carry 109 l = t := by
  unfold TS.carry
  rw [if_neg (by decide), if_neg (by decide), if_pos rfl]
theorem carry_home (t : TS) (h1 : 1 ≤ t.H) (w1 : 1 ≤ t.W) : t.carry 72 [] = { t with full := false, row := 0, col := 0 } := by
  unfold TS.carry
  rw [if_neg (by decide), if_neg (by decide), if_neg (by decide), if_pos rfl]
  show ({ t with full := false, row := min (max 0 1) t.H - 1, col := min (max 0 1) t.W - 1 } : TS) = _
  rw [show min (max 0 1) t.H - 1 = 0 from by omega, show min (max 0 1) t.W - 1 = 0 from by omega]
theorem carry_below (t : TS) : t.carry 74 [] = { t with rows := (clearRow t.rows t.row t.col).take (t.row + 1) } := by
  unfold TS.carry
  rw [if_pos rfl, if_pos (by rfl)]
theorem carry_right (t : TS) : t.carry 75 [] = { t with rows := clearRow t.rows t.row t.col } := by
  unfold TS.carry
  rw [if_neg (by decide), if_pos rfl, if_pos (by rfl)]
theorem clear_ (t : TS) (h : t.Inv) : ∃ t', Same TT t t' ∧ Eats TT t [27, 91, 109, 27, 91, 72, 27, 91, 74] t' ∧ ∀ j, Row' TT t' j = [] := by
  obtain ⟨t1, e1⟩ : ∃ t1, t.unmark = t1 := ⟨_, rfl⟩
  have i1 : t1.Inv := e1 ▸ unmark_inv h
  have m1 : t1.marks = false := e1 ▸ rfl
  have w1 : t1.W = t.W ∧ t1.H = t.H := e1 ▸ ⟨rfl, rfl⟩
  have k1 : ∀ X, t.step ([27, 91, 109] ++ X) = (3, t1) := fun X => by
    have := esc_step t [] 109 (by simp) (by decide) X
    rw [show ((109 : UInt8).toNat) = 109 from rfl, carry_m, e1] at this
    exact this
  obtain ⟨t2, e2⟩ : ∃ t2 : TS, ({ t1.unmark with full := false, row := 0, col := 0 } : TS) = t2 := ⟨_, rfl⟩
  have c2 : t1.unmark.carry 72 [] = t2 := by rw [carry_home t1.unmark i1.h1 i1.w1, e2]
  have i2 : t2.Inv := c2 ▸ carry_inv (unmark_inv i1) rfl _ _
  have m2 : t2.row = 0 ∧ t2.col = 0 := e2 ▸ ⟨rfl, rfl⟩
  have w2 : t2.W = t.W ∧ t2.H = t.H := e2 ▸ w1
  have k2 : ∀ X, t1.step ([27, 91, 72] ++ X) = (3, t2) := fun X => by
    have := esc_step t1 [] 72 (by simp) (by decide) X
    rw [show ((72 : UInt8).toNat) = 72 from rfl, c2] at this
    exact this
  obtain ⟨t3, e3⟩ : ∃ t3 : TS, ({ t2.unmark with rows := (clearRow t2.rows t2.row t2.col).take (t2.row + 1) } : TS) = t3 := ⟨_, rfl⟩
  have c3 : t2.unmark.carry 74 [] = t3 := by rw [carry_below, ← e3]; rfl
  have i3 : t3.Inv := c3 ▸ carry_inv (unmark_inv i2) rfl _ _
  have w3 : t3.W = t.W ∧ t3.H = t.H := e3 ▸ w2
  have k3 : ∀ X, t2.step ([27, 91, 74] ++ X) = (3, t3) := fun X => by
    have := esc_step t2 [] 74 (by simp) (by decide) X
    rw [show ((74 : UInt8).toNat) = 74 from rfl, c3] at this
    exact this
  refine ⟨t3, ⟨i3, w3.1, w3.2⟩, fun X => ?_, fun j => ?_⟩
  · have f1 := FF_chunk (a := [27, 91, 109]) (by simp) k1 ([27, 91, 72] ++ ([27, 91, 74] ++ X))
    have f2 := FF_chunk (a := [27, 91, 72]) (by simp) k2 ([27, 91, 74] ++ X)
    have f3 := FF_chunk (a := [27, 91, 74]) (by simp) k3 X
    have e : ([27, 91, 109, 27, 91, 72, 27, 91, 74] : Bs) ++ X = [27, 91, 109] ++ ([27, 91, 72] ++ ([27, 91, 74] ++ X)) := by simp
    have f : FF t ([27, 91, 109] ++ ([27, 91, 72] ++ ([27, 91, 74] ++ X))) = FF t3 X := by rw [f1, f2, f3]
    rw [← e] at f
    rw [show TT.F = FF from rfl]
    exact f
  · rw [row_get, ← e3]
    show ((clearRow t2.rows t2.row t2.col).take (t2.row + 1)).getD j [] = []
    rw [m2.1, m2.2, getD_take_row]
    split
    · obtain rfl : j = 0 := by omega
      rw [clearRow_get]
      split
      · rfl
      · rename_i hh
        refine List.length_eq_zero_iff.1 ?_
        have : ¬ ¬ (t2.rows.getD 0 []).length ≤ 0 := fun e => hh ⟨rfl, e⟩
        omega
    · rfl
theorem laws_TT : Laws TT where
  held t X h := by
    show t.feed X = FF t X
    rw [feed_eq, show L t.held = [] from h]
    rfl
  junk t X h := by
    obtain ⟨t', i', a, b, e⟩ := junk_ X _ (L t.held) t (Nat.le_refl _) h
    exact ⟨t', ⟨i', a, b⟩, e⟩
  nil t h := ⟨⟨held_inv h _, rfl, rfl⟩, rfl, rfl, rfl, rfl⟩
  clear t h := clear_ t h
  goto t i c h hi hc := by
    have hi' : i < t.H := hi
    have hc' : c < t.W := hc
    refine ⟨{ t with marks := false, full := false, row := i, col := c }, ⟨⟨h.w1, h.w2, h.h1, h.h2, hi', hc', fun e => (by cases e), h.rows, h.len⟩, rfl, rfl⟩, fun X => ?_, rfl, rfl, rfl, rfl⟩
    exact FF_chunk (by unfold gotoL; simp) (goto_step t i c hi' hc' h.h2 h.w2) X
  cell t p q s n h hf hn ht hc hrow hp hq := by
    have hf' : t.full = false := hf
    have hc' : t.col + n ≤ t.W := hc
    have hp' : p.length = t.col := hp
    have hw := wrap_none t n hf' hn hc'
    have hrow' : t.rows.getD t.row [] = p ++ q := hrow
    have hwr : t.write s n = { t with rows := (padRows t.rows (t.row + 1)).set t.row (put (p ++ q) t.col s n), lr := t.row, lc := t.col, marks := true, col := if t.W ≤ t.col + n then t.W - 1 else t.col + n, full := if t.W ≤ t.col + n then true else t.full } := by
      unfold TS.write
      dsimp only
      rw [hw, getD_padRows, hrow']
    have hpl := padRows_len t.rows (t.row + 1)
    refine ⟨t.write s n, ⟨write_inv t h s n (by rcases hn with rfl | rfl; exact .inl rfl; exact .inr ⟨rfl, by omega⟩), (write_WH t s n).1, (write_WH t s n).2⟩, fun X => cell_eat t s n hn ht (fun e => by omega) X, ?_, fun hlt => ?_, ?_, fun j hj => ?_⟩
    · rw [hwr]; rfl
    · have hlt' : t.col + n < t.W := hlt
      rw [hwr]
      refine ⟨?_, ?_⟩
      · show (if t.W ≤ t.col + n then t.W - 1 else t.col + n) = t.col + n
        rw [if_neg (by omega)]
      · show (if t.W ≤ t.col + n then true else t.full) = false
        rw [if_neg (by omega), hf']
    · rw [row_get, hwr]
      show ((padRows t.rows (t.row + 1)).set t.row _).getD t.row [] = _
      rw [getD_set _ _ _ _ (by omega), if_pos rfl, ← hp']
      rcases hn with rfl | rfl
      · rw [putr_one p q hq s, if_neg (by decide)]
      · rw [putr_two p q hq s, if_pos rfl]
    · have hj' : j ≠ t.row := hj
      rw [row_get, row_get, hwr]
      show ((padRows t.rows (t.row + 1)).set t.row _).getD j [] = _
      rw [getD_set _ _ _ _ (by omega), if_neg (fun e => hj' e.symm), getD_padRows]
  right t p q h hf hrow hp hq := by
    have hp' : p.length = t.col := hp
    have hrow' : t.rows.getD t.row [] = p ++ q := hrow
    have k1 : ∀ X, t.step ([27, 91, 75] ++ X) = (3, t.unmark.carry 75 []) := fun X => esc_step t [] 75 (by simp) (by decide) X
    refine ⟨t.unmark.carry 75 [], ⟨carry_inv (unmark_inv h) rfl _ _, rfl, rfl⟩, fun X => by rw [show TT.F = FF from rfl]; exact FF_chunk (a := [27, 91, 75]) (by simp) k1 X, ⟨0, ?_⟩, fun j hj => ?_⟩
    · rw [row_get]
      show (clearRow t.rows t.row t.col).getD t.row [] = _
      rw [clearRow_get, hrow', ← hp']
      split
      · rename_i hh
        cases q with
        | nil => exact absurd (by simp) hh.2
        | cons a q =>
          have h0 : a.2 ≠ 0 := fun x => by have := hq.1.1 x; cases this
          rw [half_mid _ _ _ h0]
          simp
      · rename_i hh
        have : ¬ ¬ (p ++ q).length ≤ p.length := fun e => hh ⟨rfl, e⟩
        have h3 := Decidable.not_not.1 this
        rw [List.length_append] at h3
        have hq0 : q = [] := List.length_eq_zero_iff.1 (by omega)
        subst hq0
        rfl
    · have hj' : j ≠ t.row := hj
      rw [row_get, row_get]
      show (clearRow t.rows t.row t.col).getD j [] = _
      rw [clearRow_get, if_neg (fun e => hj' e.1.symm)]
  below t h hf hc hq := by
    have hc' : t.col = 0 := hc
    have k1 : ∀ X, t.step ([27, 91, 74] ++ X) = (3, t.unmark.carry 74 []) := fun X => esc_step t [] 74 (by simp) (by decide) X
    have hrows : ∀ j, Row' TT (t.unmark.carry 74 []) j = if j < t.row + 1 then (clearRow t.rows t.row t.col).getD j [] else [] := fun j => by
      rw [row_get]
      show ((clearRow t.rows t.row t.col).take (t.row + 1)).getD j [] = _
      rw [getD_take_row]
    refine ⟨t.unmark.carry 74 [], ⟨carry_inv (unmark_inv h) rfl _ _, rfl, rfl⟩, fun X => by rw [show TT.F = FF from rfl]; exact FF_chunk (a := [27, 91, 74]) (by simp) k1 X, fun j hj => ?_, fun j hj => ⟨0, ?_⟩⟩
    · have hj' : j < t.row := hj
      rw [hrows, if_pos (by omega), clearRow_get, if_neg (fun e => by omega)]
      rfl
    · have hj' : t.row ≤ j := hj
      rw [hrows]
      split
      · obtain rfl : j = t.row := by omega
        rw [clearRow_get, hc']
        split
        · rfl
        · rename_i hh
          refine List.length_eq_zero_iff.1 ?_
          have : ¬ ¬ (t.rows.getD t.row []).length ≤ 0 := fun e => hh ⟨rfl, e⟩
          omega
      · rfl
  len t i h := by
    show (t.rows.getD i []).length ≤ t.W
    by_cases hi : i < t.rows.length
    · exact h.len i hi
    · rw [List.getD_eq_getElem?_getD, List.getElem?_eq_none (by omega)]
      exact Nat.zero_le _
theorem shows_of {W : Int} {rs : List Row} {cr cc : Int} (h : fit W rs cr cc = true) {t0 t : TS} (hW : W = t0.W) (hH : rs.length ≤ t0.H) (hp : Painted TT t0 t rs cr cc) : shows t W rs cr cc = true := by
  obtain ⟨w1, w2, w3, w4, w5, w6, w7, w8⟩ := fit_parts h
  have hW' : t.W = t0.W := hp.same.W
  have hH' : t.H = t0.H := hp.same.H
  have hsh : ∀ j, trim (t.rows.getD j []) = rs.getD j [] := hp.sh
  have hr : cr = t.row := hp.row
  have hc : cc = t.col := hp.col
  have hn := nrN_le t.rows rs.length (fun j hj => by rw [hsh, getD_out rs j hj]) t.rows.length
  unfold shows
  refine decide_eq_true ⟨by omega, w3, by omega, ?_, hr, hc, fun i _ => (hsh i).symm⟩
  omega
end Go.Proofs.YtceomobdolkfgaaDoor.U
/- What layout lays may be painted. No program. -/
set_option linter.unusedVariables false
namespace Go.Proofs.YtceomobdolkfgaaDoor.U
open Go.Lib
/-! Rows. -/
theorem FitR.app {r q : Row} (h : FitR r) (g : FitR q) : FitR (r ++ q) := by
  induction h with
  | nil => exact g
  | one a r h ht hr ih => exact .one a _ h ht ih
  | two a r h ht hr ih => exact .two a _ h ht ih
theorem fit_unapp (k : Nat) : ∀ n (a : Row), a.length ≤ n → FitR (a ++ List.replicate k cb) → FitR a := by
  intro n
  induction n using Nat.strongRecOn with
  | _ n ih =>
  intro a hn h
  match a, hn, h with
  | [], _, _ => exact .nil
  | x :: a, hn, h =>
    rw [List.length_cons] at hn
    generalize hy : x :: a ++ List.replicate k cb = y at h
    cases h with
    | nil => cases hy
    | one b r hb ht hr =>
      injection hy with h1 h2
      subst h1
      exact .one _ _ hb ht (ih a.length (by omega) a (Nat.le_refl _) (by have e : a ++ List.replicate k cb = r := h2; rw [e]; exact hr))
    | two b r hb ht hr =>
      injection hy with h1 h2
      subst h1
      match a, h2, hn with
      | [], h2, _ =>
        cases k with
        | zero => cases h2
        | succ k =>
          have h3 : (cb : C) :: List.replicate k cb = cz :: r := h2
          injection h3 with h4 _
          exact absurd h4 (by intro e; injection e with _ e2; cases e2)
      | z :: a, h2, hn =>
        rw [List.length_cons] at hn
        injection h2 with h4 h5
        subst h4
        exact .two _ _ hb ht (ih a.length (by omega) a (Nat.le_refl _) (by have e : a ++ List.replicate k cb = r := h5; rw [e]; exact hr))
theorem FitR.trim {r : Row} (h : FitR r) : FitR (trim r) := by
  refine fit_unapp (r.length - (U.trim r).length) _ _ (Nat.le_refl _) ?_
  rw [← trim_split _ r (Nat.le_refl _)]
  exact h
theorem trim_last : ∀ n (x : Row), x.length ≤ n → ¬ (0 < (trim x).length ∧ (trim x).getD ((trim x).length - 1) cz = cb)
  | 0, x, h => by
    obtain rfl : x = [] := List.length_eq_zero_iff.1 (by omega)
    rintro ⟨h1, _⟩
    exact absurd h1 (by decide)
  | n + 1, x, h => by
    by_cases hc : 0 < x.length ∧ x.getD (x.length - 1) cz = cb
    · rw [trim_go x hc.1 hc.2]
      exact trim_last n _ (by rw [List.length_take]; omega)
    · rw [trim_stop x hc]
      exact hc
theorem fit_ok {r : Row} (h : FitR r) : ∀ p : Row, (p.length = 0 ∨ (p.getD (p.length - 1) cz).2 ≠ 2) → ∀ i, p.length ≤ i → i < (p ++ r).length → okCell (p ++ r) i = true := by
  induction h with
  | nil => intro p _ i h1 h2; rw [List.append_nil] at h2; omega
  | one a r h ht hr ih =>
    intro p hp i h1 h2
    by_cases e : i = p.length
    · subst e
      unfold okCell
      rw [getD_mid, if_neg]
      · exact decide_eq_true ⟨by rw [h]; decide, by rw [h]; decide, by rw [ht, h], by rw [h]; simp⟩
      · rintro ⟨a1, a2⟩
        rcases hp with e | e
        · omega
        · rw [List.getD_eq_getElem?_getD, List.getElem?_append_left (by omega), ← List.getD_eq_getElem?_getD] at a2
          exact e a2
    · have := ih (p ++ [a]) (.inr (by rw [List.length_append, List.length_singleton, Nat.add_sub_cancel, getD_mid]; rw [h]; decide)) i (by rw [List.length_append, List.length_singleton]; omega) (by simpa using h2)
      simpa using this
  | two a r h ht hr ih =>
    intro p hp i h1 h2
    by_cases e : i = p.length
    · subst e
      unfold okCell
      rw [getD_mid, if_neg]
      · refine decide_eq_true ⟨by rw [h]; decide, by rw [h]; decide, by rw [ht, h], fun hh => ?_⟩
        have := hh.2
        simp at this
      · rintro ⟨a1, a2⟩
        rcases hp with e | e
        · omega
        · rw [List.getD_eq_getElem?_getD, List.getElem?_append_left (by omega), ← List.getD_eq_getElem?_getD] at a2
          exact e a2
    · by_cases e2 : i = p.length + 1
      · subst e2
        unfold okCell
        rw [getD_mid1, Nat.add_sub_cancel, getD_mid, if_pos ⟨by omega, h⟩]
        rfl
      · have hl : ((p ++ [a, cz]).getD ((p ++ [a, cz]).length - 1) cz).2 ≠ 2 := by
          have : (p ++ [a, cz]).length - 1 = p.length + 1 := by simp
          rw [this]
          have h3 : p ++ [a, cz] = p ++ a :: cz :: [] := rfl
          rw [h3, getD_mid1]
          decide
        have := ih (p ++ [a, cz]) (.inr hl) i (by simp; omega) (by simpa using h2)
        simpa using this
theorem fitRow_of {r : Row} (h : FitR r) {W : Nat} (hl : r.length ≤ W) : fitRow (trim r) W = true := by
  have h1 := trim_len r
  unfold fitRow
  rw [if_neg (by omega), if_neg (trim_last _ r (Nat.le_refl _))]
  exact decide_eq_true (fun i hi => fit_ok h.trim [] (.inl rfl) i (Nat.zero_le _) hi)
/-! Texts that are drawn. -/
theorem cls_ascii : ∀ k : Fin 127, 32 ≤ k.val → cls (k.val : Int) = 0 := by decide +kernel
theorem cls_repl : cls 65533 = 0 := by decide +kernel
theorem uni_repl (r : Bs) : uni (repl ++ r) = (65533, 3) := by
  have := uni_three (repl ++ r) (by unfold repl; simp) (by unfold repl; simp) (by unfold repl; simp) (by unfold repl; simp) (by unfold repl; simp) (.inr (by unfold repl; simp))
  rw [this]
  unfold repl
  simp
theorem marks_nil : onlyMarks [] := fun x hx => by rw [units_nil] at hx; cases hx
theorem takes_repl (r : Bs) (h : onlyMarks r) : takes (repl ++ r) = 1 := by
  have hu := uni_repl r
  have hc : chr (repl ++ r) = 65533 := by unfold chr; rw [hu]
  have hz : sz (repl ++ r) = 3 := by unfold sz; rw [hu]
  rw [takes_of (repl ++ r) (by unfold repl; simp) (by rw [hu]; intro e; injection e with e1 _; cases e1) (by rw [hz]; exact h) (by rw [hc, cls_repl]; exact .inl rfl), hc, cls_repl]
  rfl
theorem takes_ascii (c : UInt8) (r : Bs) (h1 : 32 ≤ c.toNat) (h2 : c.toNat < 127) (h : onlyMarks r) : takes (c :: r) = 1 := by
  have hu := uni_one (c :: r) (by simp) (show c.toNat < 128 by omega)
  have hc : chr (c :: r) = ((c.toNat : Nat) : Int) := by unfold chr; rw [hu]; rfl
  have hz : sz (c :: r) = 1 := by unfold sz; rw [hu]
  have hcl := cls_ascii ⟨c.toNat, h2⟩ h1
  rw [takes_of (c :: r) (by simp) (by rw [hu]; intro e; injection e with e1 _; have : ((c.toNat : Nat) : Int) = -1 := e1; omega) (by rw [hz]; exact h) (by rw [hc]; exact .inl hcl), hc]
  rw [if_pos hcl]
/-! A cluster by itself. -/
theorem chr_take (s : Bs) (m : Nat) (h : clen s ≤ m) : chr (s.take m) = chr s := by
  unfold chr
  rw [uni_take s m (Nat.le_trans (clen_sz s) h)]
theorem crlf_take (s : Bs) (m : Nat) (hs : s ≠ []) (h : clen s ≤ m) : crlf (s.take m) = crlf s := by
  unfold crlf
  rw [chr_take s m h]
  by_cases h13 : chr s = 13
  · rw [h13]
    simp only [decide_true, Bool.true_and]
    have hz : sz s = 1 := by
      have h2 := sz_good s
      have h3 := sz_pos s hs
      rcases Nat.lt_or_ge 1 (sz s) with e | e
      · have := h2 e; omega
      · omega
    match hd : s.drop 1 with
    | [] =>
      have : (s.take m).drop 1 = [] := by rw [List.drop_take, hd]; simp
      rw [this]
    | x :: r =>
      by_cases hx : x.toNat = 10
      · have h4 : 2 ≤ clen s := by
          unfold clen
          rw [hz, hd, tail_step _ _ (by simp), h13]
          have hu := uni_one (x :: r) (by simp) (show x.toNat < 128 by omega)
          have hc : chr (x :: r) = 10 := by unfold chr; rw [hu]; show ((x.toNat : Nat) : Int) = 10; omega
          have hz2 := sz_pos (x :: r) (by simp)
          rw [hc, if_pos (by rfl)]
          omega
        obtain ⟨k, hk⟩ : ∃ k, m = k + 2 := ⟨m - 2, by omega⟩
        have : (s.take m).drop 1 = x :: r.take k := by rw [List.drop_take, hd, hk]; rfl
        rw [this]
        have ex : x = 10 := UInt8.toNat_inj.1 (by rw [hx]; rfl)
        rw [ex]
        rfl
      · have hf : ∀ l : Bs, hasPrefix (x :: l) [10] = false := fun l => by
          have hx2 : ¬ 10 = x := fun e => hx (by rw [← e]; rfl)
          simp [hasPrefix, List.isPrefixOf, hx2]
        rw [hf]
        rcases Nat.lt_or_ge 1 m with e | e
        · obtain ⟨k, hk⟩ : ∃ k, m = k + 2 := ⟨m - 2, by omega⟩
          have : (s.take m).drop 1 = x :: r.take k := by rw [List.drop_take, hd, hk]; rfl
          rw [this, hf]
        · have : (s.take m).drop 1 = [] := by
            refine List.length_eq_zero_iff.1 ?_
            rw [List.length_drop, List.length_take]
            omega
          rw [this]
          rfl
  · simp [h13]
theorem mcls_take (s : Bs) (m : Nat) (hs : s ≠ []) (h : clen s ≤ m) : mcls (s.take m) = mcls s := by unfold mcls; rw [crlf_take s m hs h, chr_take s m h]
theorem mcells_take (s : Bs) (m : Nat) (hs : s ≠ []) (h : clen s ≤ m) : mcells (s.take m) = mcells s := by unfold mcells; rw [crlf_take s m hs h, chr_take s m h]
/-- A text that is one cluster is drawn as that one. -/
theorem drawn_one (l : Bs) (hl : l ≠ []) (h : clen l = l.length) : drawn l = drawn1 l (mcls l) := by
  unfold drawn
  rw [clus_step 0 l hl, h, List.drop_length]
  unfold drawnC
  rw [List.flatMap_cons, clus_nil]
  show drawn1 (cut l 0 (0 + l.length)) (mcls l) ++ [] = _
  rw [List.append_nil]
  unfold cut
  simp
/-- What a cluster is: its base, and the marks behind it. -/
theorem clus_marks (l : Bs) (hl : l ≠ []) (h : clen l = l.length) (hc : cls (chr l) = 0 ∨ cls (chr l) = 3 ∨ cls (chr l) = 4 ∨ cls (chr l) = 5) : onlyMarks (l.drop (sz l)) := by
  refine (tail_marks _ (chr l) _ (Nat.le_refl _) hc).1 ?_
  have hz := sz_le l
  unfold clen at h
  rw [List.length_drop]
  omega
theorem uni_ne (l : Bs) (h : cls (chr l) ≠ 5) : uni l ≠ (-1, 1) := fun e => h (by unfold chr; rw [e]; exact cls_neg)
theorem uni_eq (l : Bs) (hl : l ≠ []) (h : cls (chr l) = 5) : uni l = (-1, 1) := by
  by_cases e : uni l = (-1, 1)
  · exact e
  · exact absurd h (cls_good l hl e)
/-- The kinds of clusters, by what is drawn for them. -/
theorem kinds (l : Bs) (hl : l ≠ []) (h : clen l = l.length) :
    (mcells l = 0) ∨ (mcells l = 1 ∧ takes (drawn1 l (mcls l)) = 1) ∨ (mcells l = 2 ∧ mcls l = 4 ∧ takes (drawn1 l (mcls l)) = 2) ∨
    (mcells l = 2 ∧ mcls l ≠ 4 ∧ takes ((drawn1 l (mcls l)).take (sz (drawn1 l (mcls l)))) = 1 ∧ takes ((drawn1 l (mcls l)).drop (sz (drawn1 l (mcls l)))) = 1) := by
  cases hcr : crlf l with
  | true => exact .inl (by unfold mcells; rw [hcr]; rfl)
  | false =>
    have hm : mcls l = cls (chr l) := by unfold mcls; rw [hcr]; rfl
    have hn : mcells l = cells (chr l) := by unfold mcells; rw [hcr]; rfl
    rw [hm, hn]
    rcases cls_range (chr l) with e | e | e | e | e | e
    · have hmk := clus_marks l hl h (.inl e)
      refine .inr (.inl ⟨by unfold cells; rw [if_neg (by omega), if_neg (by omega), if_neg (by omega)], ?_⟩)
      rw [e]
      show takes l = 1
      rw [takes_of l hl (uni_ne l (by omega)) hmk (.inl e), if_pos e]
    · exact .inl (by unfold cells; rw [if_pos e])
    · have hn127 : chr l < 32 ∨ (127 ≤ chr l ∧ chr l ≤ 159) := by
        have e2 := e
        unfold cls at e2
        split at e2
        · cases e2
        · split at e2
          · cases e2
          · split at e2
            · assumption
            · split at e2
              · cases e2
              · split at e2 <;> cases e2
      have h0 : 0 ≤ chr l := good_of_cls _ (by omega)
      have hu : uni l ≠ (-1, 1) := uni_ne l (by omega)
      by_cases h127 : chr l ≤ 127
      · have hb : ((l.getD 0 0).toNat : Int) = chr l := by
          unfold chr at h127 ⊢
          rcases uni_shape l hl with ⟨_, e⟩ | ⟨_, _, _, _, e, f⟩ | ⟨_, _, _, _, e, f, _⟩ | ⟨_, _, _, _, _, e, f, _⟩ | e
          · rw [e]
          · rw [e] at h127; dsimp only at h127; omega
          · rw [e] at h127; dsimp only at h127; omega
          · rw [e] at h127; dsimp only at h127; omega
          · exact absurd e hu
        refine .inr (.inr (.inr ⟨by unfold cells; rw [if_neg (by omega), if_neg (by omega), if_pos ⟨e, h127⟩], by omega, ?_⟩))
        rw [e]
        have two : ∀ c : UInt8, 32 ≤ c.toNat → c.toNat < 127 → takes (([94, c] : Bs).take (sz [94, c])) = 1 ∧ takes (([94, c] : Bs).drop (sz [94, c])) = 1 := fun c c1 c2 => by
          have hz : sz [94, c] = 1 := by
            have := uni_one [94, c] (by simp) (by show (94 : UInt8).toNat < 128; decide)
            unfold sz
            rw [this]
          rw [hz]
          exact ⟨takes_ascii 94 [] (by decide) (by decide) marks_nil, takes_ascii c [] c1 c2 marks_nil⟩
        unfold drawn1
        rw [if_neg (by decide), if_pos rfl]
        split
        · exact two 63 (by decide) (by decide)
        · rename_i hne
          rw [if_pos (by omega)]
          have hl32 : (l.getD 0 0).toNat < 32 := by omega
          have ht : (UInt8.ofNat ((l.getD 0 0).toNat + 64)).toNat = (l.getD 0 0).toNat + 64 := by rw [UInt8.toNat_ofNat']; omega
          exact two _ (by omega) (by omega)
      · have hb : 128 ≤ (l.getD 0 0).toNat := by
          rcases Nat.lt_or_ge (l.getD 0 0).toNat 128 with x | x
          · have := uni_one l hl x
            unfold chr at h127
            rw [this] at h127
            dsimp only at h127
            have hc : chr l = ((l.getD 0 0).toNat : Int) := by unfold chr; rw [this]
            omega
          · exact x
        refine .inr (.inl ⟨by unfold cells; rw [if_neg (by omega), if_neg (by omega), if_neg (by omega)], ?_⟩)
        rw [e]
        unfold drawn1
        rw [if_neg (by decide), if_pos rfl, if_neg (by omega), if_neg (by omega)]
        have := takes_repl [] marks_nil
        rwa [List.append_nil] at this
    · have hmk := clus_marks l hl h (.inr (.inl e))
      refine .inr (.inl ⟨by unfold cells; rw [if_neg (by omega), if_neg (by omega), if_neg (by omega)], ?_⟩)
      rw [e]
      show takes (32 :: l) = 1
      refine takes_ascii 32 l (by decide) (by decide) ?_
      unfold onlyMarks
      rw [units_step l hl]
      intro x hx
      rcases List.mem_cons.1 hx with rfl | hx
      · exact e
      · exact hmk x hx
    · have hmk := clus_marks l hl h (.inr (.inr (.inl e)))
      refine .inr (.inr (.inl ⟨by unfold cells; rw [if_neg (by omega), if_pos e], by omega, ?_⟩))
      rw [e]
      show takes l = 2
      rw [takes_of l hl (uni_ne l (by omega)) hmk (.inr e), if_neg (by omega)]
    · have hmk := clus_marks l hl h (.inr (.inr (.inr e)))
      have hu := uni_eq l hl e
      have hz : sz l = 1 := by unfold sz; rw [hu]
      rw [hz] at hmk
      refine .inr (.inl ⟨by unfold cells; rw [if_neg (by omega), if_neg (by omega), if_neg (by omega)], ?_⟩)
      rw [e]
      exact takes_repl _ hmk
/-! The grid's rows may be painted. -/
def Cells (g : LG) : Prop := ∀ i, FitR (g.rows.getD i [])
theorem cells_down {g : LG} (h : Cells g) : Cells g.down := fun i => by
  show FitR ((g.rows ++ [[]]).getD i [])
  rw [getD_app_nil]
  exact h i
theorem cells_add {g : LG} (hi : g.Inv) (h : Cells g) {x : C} (hx : FitR [x]) : Cells (g.add x) := fun i => by
  have hr := hi.r
  show FitR ((g.rows.set g.r _).getD i [])
  rw [getD_set _ _ _ _ (by omega)]
  split
  · exact (h g.r).app hx
  · exact h i
theorem cells_put {g : LG} (hi : g.Inv) (h : Cells g) {x : C} (hx : FitR [x]) : Cells (g.put x) := by
  unfold LG.put
  split
  · exact cells_down (cells_add hi h hx)
  · exact cells_add hi h hx
theorem fit_one (t : Bs) (h : takes t = 1) : FitR [(S t, 1)] := .one _ _ rfl (by show takes (L (S t)) = 1; rw [L_S]; exact h) .nil
theorem cells_pair {g : LG} (hi : g.Inv) (h : Cells g) (hc : g.c + 1 ≠ g.W) {t : Bs} (ht : takes t = 2) : Cells ((g.put (S t, 2)).put cz) := by
  have hr := hi.r
  have e1 : g.put (S t, 2) = g.add (S t, 2) := by unfold LG.put; rw [if_neg hc]
  have key : Cells ((g.add (S t, 2)).add cz) := fun i => by
    show FitR (((g.rows.set g.r (g.rows.getD g.r [] ++ [(S t, 2)])).set g.r ((g.rows.set g.r (g.rows.getD g.r [] ++ [(S t, 2)])).getD g.r [] ++ [cz])).getD i [])
    rw [getD_set _ _ _ _ (by rw [List.length_set]; omega), getD_set _ _ _ _ (by omega), if_pos rfl]
    split
    · have e2 : g.rows.getD g.r [] ++ [(S t, 2)] ++ [cz] = g.rows.getD g.r [] ++ [((S t, 2) : C), cz] := by simp
      rw [e2]
      exact (h g.r).app (.two _ _ rfl (by show takes (L (S t)) = 2; rw [L_S]; exact ht) .nil)
    · rename_i hne
      rw [getD_set _ _ _ _ (by omega), if_neg hne]
      exact h i
  rw [e1]
  unfold LG.put
  split
  · exact cells_down key
  · exact key
theorem fit_bad3 : FitR [(bad3, 1)] := .one _ _ rfl (by
  have := takes_repl [] marks_nil
  rw [List.append_nil] at this
  exact this) .nil
theorem step_col {g : LG} (hi : g.Inv) (hW : g.W ≠ 1) : (if g.c + 1 = g.W then g.down else g).c + 1 ≠ (if g.c + 1 = g.W then g.down else g).W := by
  have := hi.w1
  split
  · show 0 + 1 ≠ g.W
    omega
  · assumption
theorem step_W (g : LG) : (if g.c + 1 = g.W then g.down else g).W = g.W := by split <;> rfl
theorem cells_lay {g : LG} (hi : g.Inv) (h : Cells g) (l : Bs) (hl : l ≠ []) (hc : clen l = l.length) : Cells (g.lay (drawn1 l (mcls l)) (mcls l) (mcells l)) := by
  have hs : Cells (if g.c + 1 = g.W then g.down else g) := by
    split
    · exact cells_down h
    · exact h
  have hsi := gstep_inv hi
  unfold LG.lay
  rcases kinds l hl hc with e | ⟨e, t⟩ | ⟨e, k, t⟩ | ⟨e, k, t1, t2⟩
  · rw [if_pos e]; exact cells_down h
  · rw [if_neg (by omega), if_pos e]; exact cells_put hi h (fit_one _ t)
  · rw [if_neg (by omega), if_neg (by omega)]
    split
    · exact cells_put hi h fit_bad3
    · rename_i hW
      exact cells_pair hsi hs (step_col hi hW) t
  · rw [if_neg (by omega), if_neg (by omega)]
    split
    · exact cells_put hi h fit_bad3
    · rename_i hW
      exact cells_put (gput_inv hsi _) (cells_put hsi hs (fit_one _ t1)) (fit_one _ t2)
/-! How much is laid. -/
def tot (rs : List Row) : Nat := (rs.flatMap rowL).length
theorem tot_app (a b : List Row) : tot (a ++ b) = tot a + tot b := by unfold tot; rw [List.flatMap_append, List.length_append]
theorem tot_set (rs : List Row) (i : Nat) (hi : i < rs.length) (q : Row) : tot (rs.set i (rs.getD i [] ++ q)) = tot rs + (rowL q).length := by
  induction rs generalizing i with
  | nil => simp at hi
  | cons a rs ih =>
    cases i with
    | zero =>
      show (rowL (a ++ q) ++ rs.flatMap rowL).length = (rowL a ++ rs.flatMap rowL).length + _
      have : rowL (a ++ q) = rowL a ++ rowL q := by unfold rowL; rw [List.flatMap_append]
      rw [this]
      simp only [List.length_append]
      omega
    | succ i =>
      have := ih i (by simpa using hi)
      unfold tot at this ⊢
      show (rowL a ++ ((rs.set i (rs.getD i [] ++ q)).flatMap rowL)).length = (rowL a ++ rs.flatMap rowL).length + _
      rw [List.length_append, List.length_append, this]
      omega
theorem tot_down (g : LG) : tot g.down.rows = tot g.rows := by show tot (g.rows ++ [[]]) = _; rw [tot_app]; rfl
theorem tot_put {g : LG} (hi : g.Inv) (x : C) : tot (g.put x).rows = tot g.rows + x.1.size := by
  have hr := hi.r
  have h1 : tot (g.add x).rows = tot g.rows + x.1.size := by
    show tot (g.rows.set g.r _) = _
    rw [tot_set _ _ (by omega)]
    unfold rowL
    rw [List.flatMap_cons, List.flatMap_nil, List.append_nil, L_len]
  unfold LG.put
  split
  · rw [tot_down, h1]
  · exact h1
theorem tot_step (g : LG) : tot (if g.c + 1 = g.W then g.down else g).rows = tot g.rows := by
  split
  · exact tot_down g
  · rfl
theorem tot_lay {g : LG} (hi : g.Inv) (d : Bs) (k n : Int) : tot (g.lay d k n).rows ≤ tot g.rows + d.length + 3 := by
  have hsi := gstep_inv hi
  have hs := tot_step g
  unfold LG.lay
  split
  · rw [tot_down]; omega
  · split
    · rw [tot_put hi]; show _ + (S d).size ≤ _; rw [S_size]; omega
    · split
      · rw [tot_put hi]; show _ + 3 ≤ _; omega
      · split
        · rw [tot_put (gput_inv hsi _), tot_put hsi, hs]
          show _ + (S d).size + 0 ≤ _
          rw [S_size]; omega
        · rw [tot_put (gput_inv hsi _), tot_put hsi, hs]
          show _ + (S _).size + (S _).size ≤ _
          rw [S_size, S_size, List.length_take, List.length_drop]
          omega
theorem rows_lay (g : LG) (d : Bs) (k n : Int) : g.rows.length ≤ (g.lay d k n).rows.length := by
  have p : ∀ (g : LG) (x : C), g.rows.length ≤ (g.put x).rows.length := fun g x => by
    unfold LG.put
    split
    · rw [gdown_len]; show _ ≤ (g.rows.set _ _).length + 1; rw [List.length_set]; omega
    · show _ ≤ (g.rows.set _ _).length; rw [List.length_set]; omega
  have s1 : g.rows.length ≤ (if g.c + 1 = g.W then g.down else g).rows.length := by
    split
    · rw [gdown_len]; omega
    · exact Nat.le_refl _
  unfold LG.lay
  split
  · rw [gdown_len]; omega
  · split
    · exact p _ _
    · split
      · exact p _ _
      · split
        · exact Nat.le_trans s1 (Nat.le_trans (p _ _) (p _ _))
        · exact Nat.le_trans s1 (Nat.le_trans (p _ _) (p _ _))
theorem lay_W (g : LG) (d : Bs) (k n : Int) : (g.lay d k n).W = g.W := by
  have s1 := step_W g
  unfold LG.lay
  split
  · rfl
  · split
    · exact gput_W _
    · split
      · exact gput_W _
      · split
        · rw [gput_W, gput_W, s1]
        · rw [gput_W, gput_W, s1]
/-- What holds of a grid on which clusters were laid: n bytes of text at most. -/
structure Laid (g : LG) (n : Nat) : Prop where
  inv : g.Inv
  cells : Cells g
  tot : tot g.rows ≤ 7 * n
  rows : g.rows.length ≤ 3 * n + 1
theorem laid_new (W : Nat) (h1 : 1 ≤ W) (h2 : W ≤ 65535) : Laid (LG.new W) 0 := ⟨gnew_inv W h1 h2, fun i => by
  show FitR (([[]] : List Row).getD i [])
  cases i with
  | zero => exact .nil
  | succ i => exact .nil, Nat.le_refl _, Nat.le_refl _⟩
/-- The clusters of a text from a place on, laid. -/
theorem laid_clus (t : Bs) (cur : Int) : ∀ k p, t.length - p ≤ k → p ≤ t.length → Bd t p → ∀ (st : LG × Nat × Nat) (n : Nat), Laid st.1 n → st.2.1 < st.1.rows.length → st.2.2 < st.1.W →
    Laid (layA t cur st (clus p (t.drop p))).1 (n + (t.length - p)) ∧ (layA t cur st (clus p (t.drop p))).2.1 < (layA t cur st (clus p (t.drop p))).1.rows.length ∧ (layA t cur st (clus p (t.drop p))).2.2 < (layA t cur st (clus p (t.drop p))).1.W ∧ (layA t cur st (clus p (t.drop p))).1.W = st.1.W := by
  intro k
  induction k using Nat.strongRecOn with
  | _ k ih =>
  intro p hk hp hb st n hL h1 h2
  by_cases hlt : p < t.length
  · obtain ⟨hc1, hc2⟩ := clen_in t p hlt
    have hne := drop_ne t p hlt
    rw [clus_at t p hlt]
    obtain ⟨c, hc⟩ : ∃ c, clen (t.drop p) = c := ⟨_, rfl⟩
    rw [hc] at hc1 hc2
    have hl : ((t.drop p).take c).length = c := by rw [List.length_take, List.length_drop]; omega
    have hln : (t.drop p).take c ≠ [] := by intro e; rw [e] at hl; simp at hl; omega
    have hcl : clen ((t.drop p).take c) = ((t.drop p).take c).length := by rw [clen_take _ _ (by omega), hl, hc]
    have hstep : layS t cur st (clAt t p) = (st.1.lay (drawn1 ((t.drop p).take c) (mcls ((t.drop p).take c))) (mcls ((t.drop p).take c)) (mcells ((t.drop p).take c)),
        if ((p + c : Nat) : Int) ≤ cur then ((st.1.lay (drawn1 ((t.drop p).take c) (mcls ((t.drop p).take c))) (mcls ((t.drop p).take c)) (mcells ((t.drop p).take c))).r, (st.1.lay (drawn1 ((t.drop p).take c) (mcls ((t.drop p).take c))) (mcls ((t.drop p).take c)) (mcells ((t.drop p).take c))).c) else st.2) := by
      have hcut : cut t p (p + c) = (t.drop p).take c := by unfold cut; rw [Nat.add_sub_cancel_left]
      unfold layS clAt
      dsimp only
      rw [hc, hcut, drawn_one _ hln hcl, mcls_take _ _ hne (by omega), mcells_take _ _ hne (by omega)]
    obtain ⟨l, hll⟩ : ∃ l, (t.drop p).take c = l := ⟨_, rfl⟩
    rw [hll] at hl hln hcl hstep
    have hd := drawn1_len l (mcls l)
    have i1 := glay_inv hL.inv (drawn1 l (mcls l)) (mcls l) (mcells l)
    have i2 := cells_lay hL.inv hL.cells l hln hcl
    have i3 := tot_lay hL.inv (drawn1 l (mcls l)) (mcls l) (mcells l)
    have i4 := glay_len (g := st.1) (drawn1 l (mcls l)) (mcls l) (mcells l)
    have i5 := rows_lay st.1 (drawn1 l (mcls l)) (mcls l) (mcells l)
    have i6 := lay_W st.1 (drawn1 l (mcls l)) (mcls l) (mcells l)
    have t1 := hL.tot
    have t2 := hL.rows
    generalize st.1.lay (drawn1 l (mcls l)) (mcls l) (mcells l) = G2 at hstep i1 i2 i3 i4 i5 i6
    have j1 := i1.r
    have j2 := i1.cw
    have hL2 : Laid (layS t cur st (clAt t p)).1 (n + c) := by
      rw [hstep]
      exact ⟨i1, i2, by show tot G2.rows ≤ _; omega, by show G2.rows.length ≤ _; omega⟩
    have h3 : (layS t cur st (clAt t p)).2.1 < (layS t cur st (clAt t p)).1.rows.length ∧ (layS t cur st (clAt t p)).2.2 < (layS t cur st (clAt t p)).1.W := by
      rw [hstep]
      split
      · exact ⟨by show G2.r < G2.rows.length; omega, j2⟩
      · exact ⟨by show st.2.1 < G2.rows.length; omega, by show st.2.2 < G2.W; omega⟩
    have h4 : (layS t cur st (clAt t p)).1.W = st.1.W := by rw [hstep]; exact i6
    have := ih (t.length - (p + c)) (by omega) (p + c) (Nat.le_refl _) (by omega) (by rw [← hc]; exact bd_clen t p hb hlt) (layS t cur st (clAt t p)) (n + c) hL2 h3.1 h3.2
    rw [show n + c + (t.length - (p + c)) = n + (t.length - p) from by omega] at this
    show Laid (layA t cur (layS t cur st (clAt t p)) (clus (p + clen (t.drop p)) (t.drop (p + clen (t.drop p))))).1 _ ∧ (layA t cur (layS t cur st (clAt t p)) (clus (p + clen (t.drop p)) (t.drop (p + clen (t.drop p))))).2.1 < (layA t cur (layS t cur st (clAt t p)) (clus (p + clen (t.drop p)) (t.drop (p + clen (t.drop p))))).1.rows.length ∧ (layA t cur (layS t cur st (clAt t p)) (clus (p + clen (t.drop p)) (t.drop (p + clen (t.drop p))))).2.2 < (layA t cur (layS t cur st (clAt t p)) (clus (p + clen (t.drop p)) (t.drop (p + clen (t.drop p))))).1.W ∧ (layA t cur (layS t cur st (clAt t p)) (clus (p + clen (t.drop p)) (t.drop (p + clen (t.drop p))))).1.W = st.1.W
    rw [hc]
    exact ⟨this.1, this.2.1, this.2.2.1, this.2.2.2.trans h4⟩
  · rw [clus_end t p (by omega)]
    exact ⟨⟨hL.inv, hL.cells, Nat.le_trans hL.tot (by omega), Nat.le_trans hL.rows (by omega)⟩, h1, h2, rfl⟩
theorem laid_all (pr t : Bs) (cur : Int) (W : Nat) (h1 : 1 ≤ W) (h2 : W ≤ 65535) : Laid (lay pr t cur W).1 (pr.length + t.length) ∧ (lay pr t cur W).2.1 < (lay pr t cur W).1.rows.length ∧ (lay pr t cur W).2.2 < W ∧ (lay pr t cur W).1.W = W := by
  have a := laid_clus pr 0 _ 0 (Nat.le_refl _) (Nat.zero_le _) (bd_zero pr) (LG.new W, 0, 0) 0 (laid_new W h1 h2) (by show 0 < 1; omega) h1
  rw [List.drop_zero, layA_fst, Nat.zero_add, Nat.sub_zero] at a
  have e : layF pr (LG.new W) (clus 0 pr) = gridOf pr W := rfl
  rw [e] at a
  obtain ⟨a1, -, -, a4⟩ := a
  have hr := a1.inv.r
  have b := laid_clus t (max cur 0) _ 0 (Nat.le_refl _) (Nat.zero_le _) (bd_zero t) (gridOf pr W, (gridOf pr W).r, (gridOf pr W).c) pr.length a1 (by show (gridOf pr W).r < (gridOf pr W).rows.length; omega) a1.inv.cw
  rw [List.drop_zero, Nat.sub_zero] at b
  have a5 : (gridOf pr W).W = W := a4
  refine ⟨b.1, b.2.1, ?_, b.2.2.2.trans a5⟩
  have b3 := b.2.2.1
  rw [b.2.2.2, show ((gridOf pr W, (gridOf pr W).r, (gridOf pr W).c) : LG × Nat × Nat).1.W = W from a5] at b3
  show (layA t (max cur 0) (gridOf pr W, (gridOf pr W).r, (gridOf pr W).c) (clus 0 t)).2.2 < W
  exact b3
theorem map_getD (rs : List Row) (i : Nat) : (rs.map trim).getD i [] = trim (rs.getD i []) := by
  rw [List.getD_eq_getElem?_getD, List.getElem?_map, List.getD_eq_getElem?_getD]
  cases rs[i]? <;> rfl
/-- A frame that was laid may be painted. -/
theorem lay_fit (pr t : Bs) (cur : Int) (W : Nat) (h1 : 1 ≤ W) (h2 : W ≤ 65535) : fit ((lay pr t cur W).1.W : Int) ((lay pr t cur W).1.rows.map trim) ((lay pr t cur W).2.1 : Int) ((lay pr t cur W).2.2 : Int) = true := by
  obtain ⟨hL, a, b, c⟩ := laid_all pr t cur W h1 h2
  generalize lay pr t cur W = st at *
  have hr := hL.inv.r
  unfold fit
  rw [if_neg (by rw [List.length_map]; omega), if_pos]
  · exact decide_eq_true ⟨by omega, by rw [List.length_map]; omega, by omega, by omega⟩
  · intro i hi
    rw [map_getD]
    exact fitRow_of (hL.cells i) (hL.inv.len i)
theorem rowL_trim (r : Row) : (rowL (trim r)).length ≤ (rowL r).length := by
  have := trim_split _ r (Nat.le_refl _)
  conv => rhs; rw [this]
  unfold rowL
  rw [List.flatMap_append, List.length_append]
  omega
theorem tot_trim (rs : List Row) : tot (rs.map trim) ≤ tot rs := by
  induction rs with
  | nil => exact Nat.le_refl _
  | cons a rs ih =>
    have h := rowL_trim a
    unfold tot at ih ⊢
    rw [List.map_cons, List.flatMap_cons, List.flatMap_cons, List.length_append, List.length_append]
    omega
theorem rowL_tot (rs : List Row) (i : Nat) : (rowL (rs.getD i [])).length ≤ tot rs := by
  induction rs generalizing i with
  | nil => exact Nat.zero_le _
  | cons a rs ih =>
    unfold tot at ih ⊢
    rw [List.flatMap_cons, List.length_append]
    cases i with
    | zero => exact Nat.le_add_right _ _
    | succ i => have := ih i; show (rowL (rs.getD i [])).length ≤ _; omega
theorem goto_le (r c : Int) : (gotoL r c).length ≤ 26 := by have := goto_len r c; rwa [S_size] at this
theorem rowsP_tot (rs : List Row) : ∀ n, n ≤ rs.length → (rowsP rs n).length ≤ 26 * n + tot (rs.take n)
  | 0, _ => Nat.zero_le _
  | n + 1, h => by
    have ih := rowsP_tot rs n (by omega)
    have ht : rs.take (n + 1) = rs.take n ++ [rs.getD n []] := by
      rw [List.take_add_one, List.getD_eq_getElem?_getD, List.getElem?_eq_getElem (by omega)]
      rfl
    have h1 : tot [rs.getD n []] = (rowL (rs.getD n [])).length := by unfold tot; rw [List.flatMap_cons, List.flatMap_nil, List.append_nil]
    have hg := goto_le n 0
    rw [rowsP_succ, ht, tot_app, h1, List.length_append]
    split
    · rw [List.length_append]; omega
    · simp; omega
theorem rowsP_all (rs : List Row) : (rowsP rs rs.length).length ≤ 26 * rs.length + tot rs := by
  have := rowsP_tot rs rs.length (Nat.le_refl _)
  rwa [List.take_length] at this
theorem fullL_le (W : Int) (rs : List Row) (cr cc : Int) : (fullL W rs cr cc).length ≤ 35 + 26 * rs.length + tot rs := by
  have h1 := rowsP_all rs
  have h2 := goto_le cr cc
  unfold fullL
  split
  · simp only [List.length_append, List.length_cons, List.length_nil]; omega
  · exact Nat.zero_le _
end Go.Proofs.YtceomobdolkfgaaDoor.U
/- The screen's Feed. -/
set_option linter.unusedVariables false
namespace Go.Proofs.YtceomobdolkfgaaDoor
open Go.RowKit Go.Proofs.YtceomobdolkfgaaDoorW.PrintWords Go.Proofs.YtceomobdolkfgaaDoor.Sep Go.Lib
namespace U
theorem FF_nil (t : TS) : FF t [] = { t with held := ba [] } := rfl
theorem FF_zero (t : TS) (l : Bs) (hl : l ≠ []) (h : (t.step l).1 = 0) : FF t l = { t with held := ba l } := by
  have hp := List.length_pos_iff.2 hl
  unfold FF
  conv => lhs; rw [show l.length = (l.length - 1) + 1 from by omega]; unfold TS.feedN
  rw [if_pos (.inr h)]
theorem step_zero (t : TS) (l : Bs) (hl : l ≠ []) (h : (t.step l).1 = 0) : (t.step l).2 = t := by
  unfold TS.step at h ⊢
  split
  · rename_i h1
    rw [if_pos h1] at h
    have he : 2 ≤ escEnd l := Nat.le_add_right 2 _
    unfold TS.escape at h ⊢
    by_cases a1 : l.length = 1
    · rw [if_pos a1]
    · rw [if_neg a1] at h ⊢
      by_cases a2 : (l.getD 1 0).toNat = 27
      · rw [if_pos a2] at h; cases h
      · rw [if_neg a2] at h ⊢
        by_cases a3 : (l.getD 1 0).toNat ≠ 91
        · rw [if_pos a3] at h; cases h
        · rw [if_neg a3] at h ⊢
          by_cases a4 : escEnd l = l.length
          · rw [if_pos a4]
          · rw [if_neg a4] at h ⊢
            by_cases a5 : (l.getD (escEnd l) 0).toNat < 64 ∨ 126 < (l.getD (escEnd l) 0).toNat
            · rw [if_pos a5] at h
              have : escEnd l = 0 := h
              omega
            · rw [if_neg a5] at h
              have : escEnd l + 1 = 0 := h
              omega
  · rename_i h1
    rw [if_neg h1] at h
    split
    · rename_i h2
      rw [if_pos h2] at h
      simp at h
    · rename_i h2
      rw [if_neg h2] at h
      split
      · rfl
      · rename_i h3
        rw [if_neg h3] at h
        have := sz_pos l hl
        have : sz l = 0 := h
        omega
theorem held_turn {w : World} {p : Nat} {t : TS} {m : Mem} (h : At w p t m) (s : ByteArray) : Turned w (w.setCell ⟨p, 9, none⟩ (.string s)) p t m { t with held := s } m :=
  Turned.top h rfl ((Upd.refl (fun k => k = p) w).setCell (p := ⟨p, 9, none⟩) (.inl rfl) _) (Blk.eq_ (h.blk.set_ 9 (.string s)) rfl)
section
variable {w w' : World} {p : Nat} {t : TS} {m : Mem}
set_option maxHeartbeats 4000000
set_option maxRecDepth 100000
theorem feed_ (h : At w p t m) (hi : t.Inv) (hT : Tabs w) (ho : Off p t m) (s : ByteArray) (hs : t.held.size + s.size ≤ 1099511627776) {B : Nat} (hB : TxB B t.rows) (hB4 : 4 ≤ B) (hB2 : B + 4 * (t.held.size + s.size) ≤ 1125899906842624) :
    Calls Tryd.prog 7 #[.pointer (some ⟨p, 0, none⟩), .string s] w fun e w' => e = .returned (.tuple #[]) ∧ ∃ m', Turned w w' p t m (t.feed (L s)) m' := by
  have HA := Lib.hid h
  have HI := Lib.hid hi
  have HT := Lib.hid hT
  have HO := Lib.hid ho
  have HTX := Lib.hid hB
  have HR := Lib.hid (ready_ h hi)
  obtain ⟨res, hres⟩ : ∃ r, t.feed (L s) = r := ⟨_, rfl⟩
  have HF : Hid (FF t (L (t.held ++ s)) = res) := Lib.hid (by rw [← hres, feed_eq, L_app])
  rw [hres]
  have hcat : ¬ 9223372036854775807 < t.held.size + s.size := by omega
  obtain ⟨a0, ha0⟩ : ∃ a, t.held ++ s = a := ⟨_, rfl⟩
  have hsz : a0.size = t.held.size + s.size := by rw [← ha0]; exact ByteArray.size_append
  rw [ha0] at HF
  clear h hi hT ho hB hres
  go_enter Tryd.func7, Tryd.ntmps7
  go_wp2_with (go_at_call 19; refine HR.out.mono ?_; rintro e w1 ⟨rfl, hq⟩; have HQ := Lib.hid hq; have HA1 := Lib.hid (HA.out.below hq); obtain ⟨-, -, -, -, -, -, -, -, -, c9, cf⟩ := HA1.out.cells; clear hq)
  go_loopg [4] a0.size (fun k v4 w' => ∃ (a : ByteArray) (t2 : TS) (m2 : Mem) (B2 : Nat), v4 = .string a ∧ a.size ≤ k ∧ a.size ≤ a0.size ∧ Hid (FF t2 (L a) = res) ∧ Hid (t2.Inv) ∧ Hid (TxB B2 t2.rows) ∧ 4 ≤ B2 ∧ B2 + 4 * a.size ≤ 1125899906842624 ∧ Hid (Turned w w' p t m t2 m2))
  case atStart => exact ⟨a0, t, m, B, rfl, Nat.le_refl _, Nat.le_refl _, HF, HI, HTX, hB4, by omega, Lib.hid ((Turned.refl HA.out).below HQ.out)⟩
  case round =>
    obtain ⟨a, t2, m2, B2, rfl, hak, hal, HF2, HI2, HX2, hB24, hB22, HT2⟩ := hrel
    clear HF HQ HA1 HR c9 cf
    by_cases ez : a.size = 0
    · have ea : a = ⟨#[]⟩ := by cases a; simp [ByteArray.size] at ez; simp [ez]
      subst ea
      have c9 := HT2.out.at_.blk.cell 9
      have cf := fun j => HT2.out.at_.blk.frozen j
      have HE : Hid ({ t2 with held := ⟨#[]⟩ } = res) := Lib.hid (by rw [← HF2.out]; rfl)
      go_wp2
      go_returns
      rw [← HE.out]
      exact ⟨rfl, m2, HT2.out.trans (held_turn HT2.out.at_ _)⟩
    cases gk with
    | zero => omega
    | succ k1 =>
      have hne : a.toList.isEmpty = false := by
        rw [ByteArray.toList_eq]
        cases hd : a.data.toList with
        | nil => have : a.size = 0 := by rw [← L_len]; unfold L; rw [hd]; rfl
                 omega
        | cons x l => rfl
      have HC := Lib.hid (step_ HT2.out.at_ HI2.out (HT2.out.tabs HT.out HO.out) a (by omega) (by omega) HX2.out (by omega))
      obtain ⟨n, hn⟩ : ∃ n, (t2.step (L a)).1 = n := ⟨_, rfl⟩
      obtain ⟨t3, ht3⟩ : ∃ t3, (t2.step (L a)).2 = t3 := ⟨_, rfl⟩
      have hla : L a ≠ [] := by rw [Ne, L_nil]; omega
      have hns : n ≤ a.size := by have := step_le (t := t2) (L a) hla; rw [hn, L_len] at this; exact this
      have HI3 : Hid (t3.Inv) := Lib.hid (ht3 ▸ step_inv HI2.out (L a))
      have HX3 : Hid (TxB (B2 + 4) t3.rows) := Lib.hid (ht3 ▸ TxB.step HX2.out hB24 (L a) hla)
      rw [hn, ht3] at HC
      by_cases h0 : n = 0
      · subst h0
        have HE : Hid ({ t2 with held := a } = res) := Lib.hid (by rw [← HF2.out, FF_zero t2 (L a) hla hn, L_ba'])
        have HS0 : Hid (t3 = t2) := Lib.hid (by rw [← ht3]; exact step_zero t2 (L a) hla hn)
        clear hn ht3 hla
        go_wp2_with (go_at_call 20; refine HC.out.mono ?_; rintro e w1 ⟨rfl, m3, ht⟩; have c9 := ht.at_.blk.cell 9; have cf := (fun j => ht.at_.blk.frozen j); have HT3 := Lib.hid ht; clear ht)
        go_returns
        rw [← HE.out]
        have HT4 := HT3.out
        rw [HS0.out] at HT4
        exact ⟨rfl, m3, (HT2.out.trans HT4).trans (held_turn HT4.at_ a)⟩
      · have HF3 : Hid (FF t3 (L (a.extract n a.size)) = res) := Lib.hid (by rw [← HF2.out, FF_step t2 (L a) hla (by omega), hn, ht3, L_drop])
        have hn0 : ((n : Int) == 0) = false := by rw [beq_eq_false_iff_ne]; omega
        have hn1 : (n : Int) ≤ (a.size : Int) := by omega
        clear hn ht3 hla
        go_wp2_with (go_at_call 20; refine HC.out.mono ?_; rintro e w1 ⟨rfl, m3, ht⟩; have HT3 := Lib.hid ht; clear ht)
        go_roundg k1
        case measure => omega
        case rel => exact ⟨a.extract n a.size, t3, m3, B2 + 4, rfl, (by rw [ByteArray.size_extract]; omega), (by rw [ByteArray.size_extract]; omega), HF3, HI3, HX3, by omega, (by rw [ByteArray.size_extract]; omega), Lib.hid (HT2.out.trans HT3.out)⟩
end
end U
end Go.Proofs.YtceomobdolkfgaaDoor
/- What bytes leave on a screen: sizes; what is kept of all else. -/
set_option linter.unusedVariables false
namespace Go.Proofs.YtceomobdolkfgaaDoor
open Go.RowKit Go.Proofs.YtceomobdolkfgaaDoorW.PrintWords Go.Proofs.YtceomobdolkfgaaDoor.Sep Go.Lib
namespace U
theorem FF_sizes : ∀ n (t : TS) (l : Bs) (B : Nat), l.length ≤ n → 4 ≤ B → TxB B t.rows → TxB (B + 4 * l.length) (FF t l).rows ∧ (FF t l).held.size ≤ l.length
  | n, t, l, B, hn, hB, h => by
    by_cases hl : l = []
    · subst hl
      exact ⟨h, Nat.le_refl _⟩
    · by_cases h0 : (t.step l).1 = 0
      · rw [FF_zero t l hl h0]
        exact ⟨h.mono (Nat.le_add_right _ _), by show (ba l).size ≤ _; rw [ba_size]; exact Nat.le_refl _⟩
      · have hp := List.length_pos_iff.2 hl
        have hle := step_le (t := t) l hl
        match n, hn with
        | 0, hn => omega
        | n + 1, hn =>
          have hd : (l.drop (t.step l).1).length = l.length - (t.step l).1 := List.length_drop
          obtain ⟨a, b⟩ := FF_sizes n (t.step l).2 (l.drop (t.step l).1) (B + 4) (by omega) (by omega) (h.step hB l hl)
          rw [FF_step t l hl h0]
          exact ⟨a.mono (by omega), by omega⟩
theorem FF_WH : ∀ n (t : TS) (l : Bs), l.length ≤ n → (FF t l).W = t.W ∧ (FF t l).H = t.H
  | n, t, l, hn => by
    by_cases hl : l = []
    · subst hl
      exact ⟨rfl, rfl⟩
    · by_cases h0 : (t.step l).1 = 0
      · rw [FF_zero t l hl h0]
        exact ⟨rfl, rfl⟩
      · have hp := List.length_pos_iff.2 hl
        match n, hn with
        | 0, hn => omega
        | n + 1, hn =>
          obtain ⟨a, b⟩ := FF_WH n (t.step l).2 (l.drop (t.step l).1) (by rw [List.length_drop]; omega)
          obtain ⟨c, d⟩ := step_WH t l
          rw [FF_step t l hl h0]
          exact ⟨a.trans c, b.trans d⟩
theorem feed_WH (t : TS) (l : Bs) : (t.feed l).W = t.W ∧ (t.feed l).H = t.H := FF_WH _ t _ (Nat.le_refl _)
theorem feed_sizes (t : TS) (l : Bs) (B : Nat) (hB : 4 ≤ B) (h : TxB B t.rows) : TxB (B + 4 * (t.held.size + l.length)) (t.feed l).rows ∧ (t.feed l).held.size ≤ t.held.size + l.length := by
  have := FF_sizes _ t (L t.held ++ l) B (Nat.le_refl _) hB h
  rw [List.length_append, L_len] at this
  exact this
section
variable {w0 w w' : World} {p : Nat} {t t' : TS} {m m' : Mem} {B : Nat}
theorem Turned.belowB (hB : Below B w0 w) (hw : B ≤ w.heap.size) (h : Turned w w' p t m t' m') (hf : ∀ k, U.foot p t m k → B ≤ k) : Below B w0 w' :=
  ⟨h.upd.os.trans hB.os, h.upd.tape.trans hB.tape, h.upd.output.trans hB.output, Nat.le_trans hB.size h.upd.size, fun k hk => (h.upd.block k (by omega) (fun e => by have := hf k e; omega)).trans (hB.block k hk)⟩
theorem Turned.footB (hw : B ≤ w.heap.size) (h : Turned w w' p t m t' m') (hf : ∀ k, U.foot p t m k → B ≤ k) : ∀ k, U.foot p t' m' k → B ≤ k := fun k hk => (h.foot k hk).elim (hf k) (fun e => by omega)
end
theorem fullL_fit {W : Int} {rs : List Row} {cr cc : Int} (h : fit W rs cr cc = true) : (S (fullL W rs cr cc)).toList.isEmpty = false := by
  rw [ByteArray.toList_eq]
  unfold fullL S
  rw [if_pos h]
  rfl
/-- The frame that the law asks for first. -/
theorem full_const : S (fullL 3 [[(⟨#[97]⟩, 1)]] 0 1) = ⟨#[27, 91, 109, 27, 91, 72, 27, 91, 74, 27, 91, 49, 59, 49, 72, 97, 27, 91, 49, 59, 50, 72]⟩ := by
  have hr : FitR [((⟨#[97]⟩, 1) : C)] := .one _ _ rfl (takes_ascii 97 [] (by decide) (by decide) marks_nil) .nil
  have hf : fit 3 [[(⟨#[97]⟩, 1)]] 0 1 = true := by
    unfold fit
    rw [if_neg (by decide), if_pos]
    · rfl
    · intro i hi
      have : i = 0 := by have : i < 1 := hi; omega
      subst this
      have := fitRow_of hr (W := 3) (by decide)
      rw [trim_stop _ (by rintro ⟨_, h⟩; injection h with h1 _; injection h1 with h1; exact absurd h1 (by decide))] at this
      exact this
  have d1 : decDigits 1 = [49] := by rw [decDigits]; rfl
  have d2 : decDigits 2 = [50] := by rw [decDigits]; rfl
  have g0 : gotoL ((0 : Nat) : Int) ((0 : Nat) : Int) = [27, 91, 49, 59, 49, 72] := by unfold gotoL; rw [oneL_dec 0 (by decide), d1]; rfl
  have g1 : gotoL ((0 : Nat) : Int) ((1 : Nat) : Int) = [27, 91, 49, 59, 50, 72] := by unfold gotoL; rw [oneL_dec 0 (by decide), oneL_dec 1 (by decide), d1, d2]; rfl
  unfold fullL
  rw [if_pos hf]
  have hp : rowsP [[((⟨#[97]⟩, 1) : C)]] 1 = gotoL ((0 : Nat) : Int) ((0 : Nat) : Int) ++ [97] := by
    unfold rowsP
    rw [List.range_succ, List.range_zero, List.nil_append, List.flatMap_cons, List.flatMap_nil, List.append_nil, if_pos (by decide)]
    rfl
  show S ([27, 91, 109, 27, 91, 72, 27, 91, 74] ++ rowsP [[((⟨#[97]⟩, 1) : C)]] 1 ++ gotoL ((0 : Nat) : Int) ((1 : Nat) : Int)) = _
  rw [hp, g0, g1]
  rfl
end U
end Go.Proofs.YtceomobdolkfgaaDoor
/- WholeRepaints: the walk. -/
set_option linter.unusedVariables false
namespace Go.Proofs.YtceomobdolkfgaaDoor
open Go.RowKit Go.Proofs.YtceomobdolkfgaaDoorW.PrintWords Go.Proofs.YtceomobdolkfgaaDoor.Sep Go.Lib
namespace U
section
variable {w : World}
theorem offB {w : World} {p : Nat} {t : TS} {m : Mem} {B : Nat} (h : At w p t m) (hf : ∀ k, foot p t m k → B ≤ k) {w0 : World} (hT : Tabs w0) (hB : w0.heap.size ≤ B := by exact Nat.le_refl _) : Off p t m :=
  ⟨fun e => by have := hf _ e; have := hT.two.1; omega, fun e => by have := hf _ e; have := hT.two.2; omega⟩
set_option maxHeartbeats 4000000
set_option maxRecDepth 100000
/-- The frame of one letter, painted. -/
theorem full_a (w : World) (hE : Env w) : Calls Tryd.prog 5 #[.agg #[.int .i64 3, .slice (some ⟨w.heap.size + 1, 0, none⟩) 1 1, .int .i64 0, .int .i64 1]] ((w.alloc (.cells #[.string ⟨#[97]⟩, .int .i64 1] 32)).alloc (.cells #[.slice (some ⟨w.heap.size, 0, none⟩) 1 1] 33)) fun e w' => e = .returned (.string ⟨#[27, 91, 109, 27, 91, 72, 27, 91, 74, 27, 91, 49, 59, 49, 72, 97, 27, 91, 49, 59, 50, 72]⟩) ∧ Below w.heap.size w w' := by
  obtain ⟨W, hW⟩ : ∃ W, (w.alloc (.cells #[.string ⟨#[97]⟩, .int .i64 1] 32)).alloc (.cells #[.slice (some ⟨w.heap.size, 0, none⟩) 1 1] 33) = W := ⟨_, rfl⟩
  have hb : Below w.heap.size w W := by rw [← hW]; exact (below_one _ _).alloc (by simp) _
  have h1 : OwnS W 33 1 (.slice (some ⟨w.heap.size + 1, 0, none⟩) 1 1) 1 [.slice (some ⟨w.heap.size, 0, none⟩) 1 1] := by
    have := OwnS.new (w.alloc (.cells #[.string ⟨#[97]⟩, .int .i64 1] 32)) 33 1 1 [.slice (some ⟨w.heap.size, 0, none⟩) 1 1] rfl (by unfold maxLen; omega)
    rw [World.size_alloc] at this
    rw [← hW]; exact this
  have h2 : OwnS W 32 2 (.slice (some ⟨w.heap.size, 0, none⟩) 1 1) 1 (flat [(⟨#[97]⟩, 1)]) := by
    have := OwnS.new w 32 2 1 [.string ⟨#[97]⟩, .int .i64 1] rfl (by unfold maxLen; omega)
    rw [← hW]
    exact this.keep (fun k hk => (below_one (w.alloc _) _).block k (this.lt k hk))
  have hr : RdRows W (.slice (some ⟨w.heap.size + 1, 0, none⟩) 1 1) [[(⟨#[97]⟩, 1)]] := by
    refine ⟨_, _, [.slice (some ⟨w.heap.size, 0, none⟩) 1 1], rfl, Nat.le_refl _, h1.reads, fun i hi => ?_⟩
    have : i = 0 := by have : i < 1 := hi; omega
    subst this
    exact ⟨_, _, rfl, Nat.le_refl _, h2.reads⟩
  have hok : RowsOk [[((⟨#[97]⟩, 1) : C)]] := ⟨by show 1 ≤ _; omega, fun i hi => by
    have : i = 0 := by have : i < 1 := hi; omega
    subst this
    exact ⟨by show 1 ≤ _; omega, by show 1 ≤ _; omega⟩⟩
  have ht := rowsP_all [[((⟨#[97]⟩, 1) : C)]]
  have ht2 : tot [[((⟨#[97]⟩, 1) : C)]] = 1 := rfl
  have ht3 : [[((⟨#[97]⟩, 1) : C)]].length = 1 := rfl
  rw [hW]
  refine (full_ 3 _ 0 1 _ W (hE.below hb) hr hok (by omega)).mono ?_
  rintro e w' ⟨rfl, hb2⟩
  exact ⟨by rw [full_const], below_then hb hb2⟩
theorem repaints_w (pr tx bf : ByteArray) (cur wd : Int) (w : World) (hE : Env w) (hsz : pr.size + tx.size + bf.size ≤ 1048576) :
    Calls Tryd.prog 3 #[.agg #[.string pr, .string tx, .int .i64 cur, .int .i64 wd, .string bf]] w fun e w' => e = .returned (.bool true) ∧ Below w.heap.size w w' := by
  obtain ⟨Wn, hWn⟩ : ∃ Wn, (min (max wd 1) 65535).toNat = Wn := ⟨_, rfl⟩
  have hW1 : 1 ≤ Wn := by omega
  have hW2 : Wn ≤ 65535 := by omega
  have hLY := fun w0 (hb : Below w.heap.size w w0) => lay_ pr tx cur wd w0 (hE.tabs.below hb) (by omega) (by omega)
  rw [hWn] at hLY
  have hfit := lay_fit (L pr) (L tx) cur Wn hW1 hW2
  obtain ⟨hL, -, -, hLW⟩ := laid_all (L pr) (L tx) cur Wn hW1 hW2
  rw [L_len, L_len] at hL
  obtain ⟨st, hst⟩ : ∃ st, lay (L pr) (L tx) cur Wn = st := ⟨_, rfl⟩
  rw [hst] at hLY hfit hL hLW
  rw [hLW] at hLY hfit
  obtain ⟨rs, hrs⟩ : ∃ rs, st.1.rows.map trim = rs := ⟨_, rfl⟩
  have htot : tot rs ≤ 7 * (pr.size + tx.size) := by rw [← hrs]; exact Nat.le_trans (tot_trim _) hL.tot
  have hrl : rs.length ≤ 3 * (pr.size + tx.size) + 1 := by rw [← hrs, List.length_map]; exact hL.rows
  have hok : RowsOk rs := ⟨by omega, fun i hi => by
    have h1 := (fit_row hfit i).2.1
    rw [hrs] at h1
    have h2 := rowL_tot rs i
    omega⟩
  rw [hrs] at hLY hfit
  obtain ⟨w1, w2, w3, -⟩ := fit_parts hfit
  have HLY := Lib.hid hLY
  have HFIT := Lib.hid hfit
  have HOK := Lib.hid hok
  have HE := Lib.hid hE
  have HX0 := Lib.hid (Blk.new w 23 #[.string pr, .string tx, .int .i64 cur, .int .i64 wd, .string bf])
  have HB0 := Lib.hid (below_one w (.cells #[.string pr, .string tx, .int .i64 cur, .int .i64 wd, .string bf] 23))
  have hl0 : ((rs.length : Int) == 0) = false := by rw [beq_eq_false_iff_ne]; omega
  have hw0 : decide ((Wn : Int) < 1) = false := decide_eq_false (by omega)
  obtain ⟨t0, ht0⟩ : ∃ t0, TS.new Wn 65535 = t0 := ⟨_, rfl⟩
  have hi0 : t0.Inv := ht0 ▸ new_inv Wn 65535 ⟨hW1, hW2⟩ ⟨by decide, by decide⟩
  have hx0 : TxB 4 t0.rows := ht0 ▸ TxB.nil
  have hh0 : t0.held.size = 0 := ht0 ▸ rfl
  have hWH0 : t0.W = Wn ∧ t0.H = 65535 := ht0 ▸ ⟨rfl, rfl⟩
  obtain ⟨t1, ht1⟩ : ∃ t1, t0.feed (L bf) = t1 := ⟨_, rfl⟩
  have hi1 : t1.Inv := ht1 ▸ feed_inv hi0 _
  obtain ⟨hx1, hh1⟩ := feed_sizes t0 (L bf) 4 (by omega) hx0
  rw [ht1, hh0, L_len] at hx1 hh1
  have hWH1 : t1.W = Wn ∧ t1.H = 65535 := by
    have := feed_WH t0 (L bf)
    rw [ht1] at this
    omega
  obtain ⟨out, hout⟩ : ∃ out, fullL (Wn : Int) rs st.2.1 st.2.2 = out := ⟨_, rfl⟩
  have hol : out.length ≤ 35 + 26 * rs.length + tot rs := hout ▸ fullL_le _ _ _ _
  have hoe : (S out).toList.isEmpty = false := hout ▸ fullL_fit hfit
  obtain ⟨t2, ht2⟩ : ∃ t2, t1.feed out = t2 := ⟨_, rfl⟩
  have hi2 : t2.Inv := ht2 ▸ feed_inv hi1 _
  have HSH : rs.length ≤ 65535 → shows t2 Wn rs st.2.1 st.2.2 = true := fun h => by
    rw [← ht2, ← hout]
    have hp := full_painted laws_TT hfit t1 hi1 (by show (Wn : Int) = (t1.W : Nat); omega) (by show rs.length ≤ t1.H; omega)
    exact shows_of hfit (by omega) (by omega) hp
  have HSH := Lib.hid HSH
  have hra := rowsP_all rs
  have HFU := Lib.hid (fun (w0 : World) (v : Value) (he : Env w0) (hr : RdRows w0 v rs) => full_ (Wn : Int) v st.2.1 st.2.2 rs w0 he hr hok (by omega))
  rw [hout] at HFU
  have HI0 := Lib.hid hi0
  have HI1 := Lib.hid hi1
  have HI2 := Lib.hid hi2
  have HX0' := Lib.hid hx0
  have HX1' := Lib.hid hx1
  have HT0 := Lib.hid ht0
  have HT1 := Lib.hid ht1
  have HT2 := Lib.hid ht2
  have hSo : (S out).size = out.length := S_size out
  have HFD1 := Lib.hid (fun (w4 w5 : World) (p : Nat) (m : Mem) (hb4 : Below w.heap.size w w4) (hb5 : Below w4.heap.size w4 w5) (ha : At w5 p t0 m) (hf : ∀ k, foot p t0 m k → w4.heap.size ≤ k) =>
    feed_ ha hi0 ((hE.below hb4).below hb5).tabs (offB ha hf (hE.below hb4).tabs) bf (by omega) hx0 (by omega) (by omega))
  have HFD2 := Lib.hid (fun (w4 w5 : World) (p : Nat) (m : Mem) (hb4 : Below w.heap.size w w4) (hb5 : Below w4.heap.size w4 w5) (ha : At w5 p t1 m) (hf : ∀ k, foot p t1 m k → w4.heap.size ≤ k) =>
    feed_ ha hi1 ((hE.below hb4).below hb5).tabs (offB ha hf (hE.below hb4).tabs) (S out) (by omega) hx1 (by omega) (by omega))
  rw [ht1] at HFD1
  rw [L_S, ht2] at HFD2
  clear hLY hfit hL hLW hst hrs hok hE hWn hi0 hi1 hi2 hx0 hx1 ht0 ht1 ht2 hout hra hWH0 hWH1
  by_cases h65 : 65535 < rs.length
  · have d65 : decide ((65535 : Int) < (rs.length : Int)) = true := decide_eq_true (by omega)
    have h65i : (65535 : Int) < (rs.length : Int) := by omega
    go_enter Tryd.func3, Tryd.ntmps3
    go_wp2_with (first
      | (go_at_call 4; (refine (HLY.out _ HB0.out).mono ?_; rintro e w1 ⟨v, rfl, hr, hb⟩; have HR := Lib.hid hr; have HB1 := Lib.hid (below_then HB0.out hb); have HX1 := Lib.hid (Blk.below HX0.out hb); obtain ⟨A, c, vs, rfl, -⟩ := hr; have HB2 := Lib.hid (below_then HB1.out (below_one w1 (.cells #[.int .i64 Wn, .slice A rs.length c, .int .i64 st.2.1, .int .i64 st.2.2] 28))); have hfa := full_a (w1.alloc (.cells #[.int .i64 Wn, .slice A rs.length c, .int .i64 st.2.1, .int .i64 st.2.2] 28)) (HE.out.below HB2.out); rw [World.size_alloc] at hfa; have HFA := Lib.hid hfa; have HK2 := Lib.hid (Blk.new w1 28 #[.int .i64 Wn, .slice A rs.length c, .int .i64 st.2.1, .int .i64 st.2.2]); clear hb hfa))
      | (go_at_call 5; (refine HFA.out.mono ?_; clear HFA; rintro e w4 ⟨rfl, hb⟩; have hb4 : Below (w1.alloc (.cells #[.int .i64 Wn, .slice A rs.length c, .int .i64 st.2.1, .int .i64 st.2.2] 28)).heap.size (w1.alloc (.cells #[.int .i64 Wn, .slice A rs.length c, .int .i64 st.2.1, .int .i64 st.2.2] 28)) w4 := (by rw [World.size_alloc]; exact hb); have HB4 := Lib.hid (below_then HB2.out hb4); have HR4 := Lib.hid ((HR.out.below (below_one _ _)).below hb4); have hk4 := Blk.below HK2.out hb4; obtain ⟨k0, k1, k2, k3, -⟩ := Blk.four hk4; have HK4 := Lib.hid hk4; have HX4 := Lib.hid (Blk.below (Blk.below HX1.out (below_one _ _)) hb4); clear hb hb4 hk4)))
    go_ret
    exact ⟨rfl, HB4.out⟩
  · have d65 : decide ((65535 : Int) < (rs.length : Int)) = false := decide_eq_false (by omega)
    have h65i : ¬ (65535 : Int) < (rs.length : Int) := by omega
    have HSW := Lib.hid (HSH.out (by omega))
    go_enter Tryd.func3, Tryd.ntmps3
    go_wp2_with (first
      | (go_at_call 4; (refine (HLY.out _ HB0.out).mono ?_; rintro e w1 ⟨v, rfl, hr, hb⟩; have HR := Lib.hid hr; have HB1 := Lib.hid (below_then HB0.out hb); have HX1 := Lib.hid (Blk.below HX0.out hb); obtain ⟨A, c, vs, rfl, -⟩ := hr; have HB2 := Lib.hid (below_then HB1.out (below_one w1 (.cells #[.int .i64 Wn, .slice A rs.length c, .int .i64 st.2.1, .int .i64 st.2.2] 28))); have hfa := full_a (w1.alloc (.cells #[.int .i64 Wn, .slice A rs.length c, .int .i64 st.2.1, .int .i64 st.2.2] 28)) (HE.out.below HB2.out); rw [World.size_alloc] at hfa; have HFA := Lib.hid hfa; have HK2 := Lib.hid (Blk.new w1 28 #[.int .i64 Wn, .slice A rs.length c, .int .i64 st.2.1, .int .i64 st.2.2]); clear hb hfa))
      | (go_at_call 5; (refine HFA.out.mono ?_; clear HFA; rintro e w4 ⟨rfl, hb⟩; have hb4 : Below (w1.alloc (.cells #[.int .i64 Wn, .slice A rs.length c, .int .i64 st.2.1, .int .i64 st.2.2] 28)).heap.size (w1.alloc (.cells #[.int .i64 Wn, .slice A rs.length c, .int .i64 st.2.1, .int .i64 st.2.2] 28)) w4 := (by rw [World.size_alloc]; exact hb); have HB4 := Lib.hid (below_then HB2.out hb4); have HR4 := Lib.hid ((HR.out.below (below_one _ _)).below hb4); have hk4 := Blk.below HK2.out hb4; obtain ⟨k0, k1, k2, k3, -⟩ := Blk.four hk4; have HK4 := Lib.hid hk4; have HX4 := Lib.hid (Blk.below (Blk.below HX1.out (below_one _ _)) hb4); clear hb hb4 hk4))
      | (go_at_call 6; (refine (new_ (Wn : Int) 65535 (by omega) (by decide) w4).mono ?_; rintro e w5 ⟨p, m5, rfl, hat, hft, hb⟩; rw [show (Wn : Int).toNat = Wn from rfl, show (65535 : Int).toNat = 65535 from rfl, HT0.out] at hat hft; have HAT := Lib.hid hat; have HFT := Lib.hid hft; have HB45 := Lib.hid hb; have x5 := (Blk.below HX4.out hb).cell 4; have HX5 := Lib.hid (Blk.below HX4.out hb); clear hat hft hb))
      | (go_at_call 7; (refine (HFD1.out w4 w5 p m5 HB4.out HB45.out HAT.out HFT.out).mono ?_; rintro e w6 ⟨rfl, m6, ht⟩; have HB46 := Lib.hid (Turned.belowB HB45.out HB45.out.size ht HFT.out); have HFT6 := Lib.hid (Turned.footB HB45.out.size ht HFT.out); obtain ⟨k0, k1, k2, k3, -⟩ := Blk.four (Blk.below HK4.out HB46.out); have HAT6 := Lib.hid ht.at_; clear HAT HFT ht))
      | (go_at_call 5; (refine (HFU.out w6 _ ((HE.out.below HB4.out).below HB46.out) (HR4.out.below HB46.out)).mono ?_; rintro e w7 ⟨rfl, hb⟩; have HB67 := Lib.hid hb; have HB47 := Lib.hid (below_then HB46.out hb); have HAT7 := Lib.hid (HAT6.out.below hb); clear hb))
      | (go_at_call 7; (refine (HFD2.out w4 w7 p m6 HB4.out HB47.out HAT7.out HFT6.out).mono ?_; rintro e w8 ⟨rfl, m8, ht⟩; have HB48 := Lib.hid (Turned.belowB HB47.out HB47.out.size ht HFT6.out); obtain ⟨k0, k1, k2, k3, -⟩ := Blk.four (Blk.below HK4.out HB48.out); have HAT8 := Lib.hid ht.at_; clear HAT7 ht))
      | (go_at_call 8; (refine (shows_ HAT8.out HI2.out (Wn : Int) _ st.2.1 st.2.2 rs (HR4.out.below HB48.out) HOK.out HSW.out).mono ?_; rintro e w9 ⟨rfl, hb⟩; have HB9 := Lib.hid (below_then HB4.out (below_then HB48.out hb)); clear hb)))
    go_ret
    exact ⟨rfl, HB9.out⟩
end
end U
end Go.Proofs.YtceomobdolkfgaaDoor
