/- LogKeeps: lists that were answered, held, written over and grown. -/
import Derived.Test.YtkpcnfchhnfpoaaDoorBacks
import Derived.Test.YtkpcnfchhnfpoaaDoorArgs
import Derived.Test.YtkpcnfchhnfpoaaDoorEnds
import Derived.Test.YtkpcnfchhnfpoaaDoorBacksW
import Derived.Deep.DeepFit
set_option linter.unusedVariables false
namespace Go.Proofs.YtkpcnfchhnfpoaaDoor
open Go.RowKit Go.Proofs.YtkpcnfchhnfpoaaDoorW.PrintWords Go.Proofs.YtkpcnfchhnfpoaaDoor.Sep Log LogI
namespace Sep
section
variable {P : Program} {w w' : World} {e : TypeId} {sz n : Nat} {v : Value} {xs : List Value}
/-- An append told more sharply: in place, or moved and nothing old touched. -/
theorem OwnS.app2 {t ty : TypeId} {i : TypeInfo} {z : Value} {bytes : Nat} (ht : P.underlying t = some (.slice e)) (hi : P.info? e = some i) (hz : i.zero = some z) (hsize : i.size = sz) (hby : i.bytes = bytes) (hzs : z.cells.size = sz) (hsz : 0 < sz)
    {v : Value} {n : Nat} {xs : List Value} (h : OwnS w e sz v n xs)
    {B : Nat} {A : Option Addr} {m : Nat} (c : Nat) {news : List Value} (hr : Reads w B sz A m news) (h1 : ∀ u ∈ news, u.oneCell' = true)
    (h63 : n + m ≤ maxLen) (hbytes : (n + m) * bytes ≤ 140737488355328) :
    ∃ v' w', (Builtin.append_ #[t, t] ty #[v, .slice A m c]).run P w = .ok v' w' ∧ OwnS w' e sz v' (n + m) (xs ++ news) ∧ w.grownBy w' v.ownBlock ∧ ((∃ A0 c0, v = .slice A0 n c0 ∧ v' = .slice A0 (n + m) c0) ∨ ((∀ k, v'.ownBlock = some k → w.heap.size ≤ k) ∧ Below w.heap.size w w')) := by
  rcases h.2 with ⟨rfl, rfl⟩ | ⟨g, off, cap, cur, rfl, hh, hl, hm, hs, hc⟩
  · have hx : xs = [] := List.eq_nil_of_length_eq_zero (by simpa using h.1)
    subst hx
    obtain ⟨v', w', hrun, h2, h3, h4⟩ := run_append_any (P := P) w 0 t ty e i z sz bytes ht hi hz hsize hby hzs hsz (.slice none 0 0) 0 [] ⟨by simp, .inl ⟨rfl, rfl⟩⟩ B A m c news hr h1 h63 hbytes (Nat.zero_le _)
    refine ⟨v', w', hrun, OwnS.ofRow h2, h3, .inr ⟨fun k hk => ?_, ⟨h3.os, h3.tape, h3.output, h3.size, fun k hk => h3.block k hk (by simp [Value.ownBlock])⟩⟩⟩
    rcases h4 with e | e
    · rw [e] at hk
      simp [Value.ownBlock] at hk
    · rw [e] at hk
      injection hk with hk
      omega
  · rcases Nat.eq_zero_or_pos m with hm0 | hm0
    · subst hm0
      have hn : news = [] := List.eq_nil_of_length_eq_zero (by simpa using hr.1)
      subst hn
      refine ⟨.slice (some ⟨g, off, none⟩) n cap, w, ?_, by simpa using h, World.grownBy.refl w _, .inl ⟨_, _, rfl, rfl⟩⟩
      cases A <;> simp [Builtin.append_, run_underlying ht, sizeOf, typeInfo, hi, Builtin.lenOf, Builtin.firstCells, hl, storeCells, loadCells, loadCellsFrom]
    · obtain ⟨ad, rfl, _, hcell⟩ := hr.2 hm0
      have hl2 : news.length = m * i.size := by rw [hsize]; exact hr.1
      by_cases hroom : n + m ≤ cap
      · have hmul : (n + m) * sz ≤ cap * sz := Nat.mul_le_mul_right _ hroom
        rw [Nat.add_mul] at hmul
        have hrl := hr.1
        have hrun := run_append_room_cells (P := P) w t ty e i ht hi g off n cap ad m c news hl2 hcell h1 hroom
          (fun j hj => by
            rw [hsize, cell_of_row _ g _ cur e (0, 0) hh, Array.getElem?_eq_getElem (by omega)]
            rfl)
          (fun j hj => by simp [World.frozen?, hh])
        rw [hsize] at hrun
        obtain ⟨cur', h4, h5, h6⟩ := setCells_row news (off + n * sz) w cur hh (by omega)
        refine ⟨_, _, hrun, ⟨by rw [List.length_append, h.1, hrl, Nat.add_mul], .inr ⟨g, off, cap, cur', rfl, h4, hroom, hm, by rw [h5]; exact hs, fun j hj => ?_⟩⟩, ?_, .inl ⟨_, _, rfl, rfl⟩⟩
        · rw [← Array.getElem?_toList, h6]
          rw [Nat.add_mul] at hj
          have hlen : (cur.toList.take (off + n * sz)).length = off + n * sz := by
            have e1 : cur.toList.length = cur.size := Array.length_toList
            rw [List.length_take, e1]
            omega
          by_cases hjx : j < n * sz
          · rw [List.append_assoc, List.getElem?_append_left (by omega), List.getElem?_take, if_pos (by omega), Array.getElem?_toList, hc j hjx, List.getElem?_append_left (by rw [h.1]; exact hjx)]
          · rw [List.append_assoc, List.getElem?_append_right (by omega), hlen, List.getElem?_append_left (by omega), List.getElem?_append_right (by rw [h.1]; omega), h.1]
            congr 1
            omega
        · obtain ⟨s1, s2, s3, s4⟩ := setCells_same g news (off + n * sz) w
          exact ⟨s1, s2, s3, by rw [s4]; exact Nat.le_refl _, fun k hk hne => setCells_far news (off + n * sz) k (fun e => hne (by rw [e]; simp [Value.ownBlock]))⟩
      · obtain ⟨v', w', hrun, h2, h3⟩ := run_append_arg_grows (P := P) w t ty e i z sz bytes ht hi hz hsize hby hzs hsz ⟨g, off, none⟩ n cap xs h.1
          (fun j u hu => by
            have hj : j < n * sz := by rw [← h.1]; exact (List.getElem?_eq_some_iff.1 hu).1
            rw [add_off, cell_of_row _ g _ cur e (0, 0) hh, hc j hj, hu])
          ad m c news hr.1 hcell (by omega) h63 hbytes
        refine ⟨v', w', hrun, OwnS.ofRow h2, ⟨h3.os, h3.tape, h3.output, h3.size, fun k hk _ => h3.block k hk (by simp)⟩, .inr ⟨own_base h2, ⟨h3.os, h3.tape, h3.output, h3.size, fun k hk => h3.block k hk (by simp)⟩⟩⟩
theorem wpList_append_2 {ops : Array Oper} {rest : List Oper} {o : Oper} {a : Act} {Q : Exit → Act → World → Prop} (hgd : o.guard = none) (s x : Operand) (t : TypeId)
    (ho : o.op = .call { callee := .builtin .append, args := #[s, x], argTypes := #[t, t] })
    {e : TypeId} {i : TypeInfo} {z : Value} {sz bytes : Nat} (ht : P.underlying t = some (.slice e)) (hi : P.info? e = some i) (hz : i.zero = some z)
    (hsize : i.size = sz) (hby : i.bytes = bytes) (hzs : z.cells.size = sz) (hsz : 0 < sz)
    {v : Value} {n : Nat} {xs : List Value} (hs : a.eval s = v) (h : OwnS w e sz v n xs)
    {B : Nat} {A : Option Addr} {m c : Nat} {news : List Value} (hx : a.eval x = .slice A m c) (hr : Reads w B sz A m news) (h1 : ∀ u ∈ news, u.oneCell' = true)
    (h63 : n + m ≤ maxLen) (hbytes : (n + m) * bytes ≤ 140737488355328)
    (hK : ∀ v' w', OwnS w' e sz v' (n + m) (xs ++ news) → w.grownBy w' v.ownBlock → ((∃ A0 c0, v = .slice A0 n c0 ∧ v' = .slice A0 (n + m) c0) ∨ ((∀ k, v'.ownBlock = some k → w.heap.size ≤ k) ∧ Below w.heap.size w w')) → wpList P ops Q rest (a.put o.dst v') w') : wpList P ops Q (o :: rest) a w := by
  refine wpList_plain hgd fun K hK' => ?_
  obtain ⟨v', w', hrun, h2, h3, h4⟩ := OwnS.app2 (ty := o.type) ht hi hz hsize hby hzs hsz h c hr h1 h63 hbytes
  unfold Oper.wp execOp
  simp only [ho, resolve, invoke, builtin, Sem.run_bind, Sem.run_pure, Result.andThen_ok, List.map_toArray, List.map_cons, List.map_nil, hs, hx, hrun]
  exact hK' _ _ (hK v' w' h2 h3 h4)
theorem OwnS.set1 {g off c k : Nat} (h : OwnS w e sz (.slice (some ⟨g, off, none⟩) n c) n xs) (hk : k < n * sz) (u : Value) : OwnS (w.setCell ⟨g, off + k, none⟩ u) e sz (.slice (some ⟨g, off, none⟩) n c) n (xs.set k u) := by
  refine ⟨by rw [List.length_set]; exact h.1, ?_⟩
  rcases h.2 with ⟨e1, _⟩ | ⟨g', off', cap, cur, e1, hh, hl, hm, hs, hc⟩
  · cases e1
  · injection e1 with e2 e3 e4
    injection e2 with e2
    injection e2 with e2 e5
    subst e2; subst e5; subst e4
    have hb : Blk w g e cur := hh
    have hmul : n * sz ≤ c * sz := Nat.mul_le_mul_right _ hl
    refine .inr ⟨g, off, c, cur.setIfInBounds (off + k) u, rfl, hb.set_ (off + k) u, hl, hm, by simpa using hs, fun j hj => ?_⟩
    rw [Array.getElem?_setIfInBounds, List.getElem?_set]
    by_cases hjk : k = j
    · subst hjk
      rw [if_pos rfl, if_pos rfl, if_pos (by omega), if_pos (by rw [h.1]; exact hj)]
    · rw [if_neg (by omega), if_neg hjk, hc j hj]
theorem own_ne {e' : TypeId} {sz' n' : Nat} {v' : Value} {xs' : List Value} (h : OwnS w e sz v n xs) (h' : OwnS w e' sz' v' n' xs') (hne : e ≠ e') : ∀ k, v.ownBlock = some k → v'.ownBlock ≠ some k := by
  intro k hk hk'
  rcases h.2 with ⟨rfl, _⟩ | ⟨g, off, cap, cur, rfl, hh, _⟩
  · simp [Value.ownBlock] at hk
  · rcases h'.2 with ⟨rfl, _⟩ | ⟨g', off', cap', cur', rfl, hh', _⟩
    · simp [Value.ownBlock] at hk'
    · have e1 : g = k := by simpa [Value.ownBlock] using hk
      have e2 : g' = k := by simpa [Value.ownBlock] using hk'
      subst e1; subst e2
      rw [hh] at hh'
      injection hh' with hh'
      injection hh' with h1 h2
      exact hne h2
end
end Sep
namespace Log
/-- A list that was answered: where it lies, how many, its room, the number its marks bear, how many bear it. -/
structure It where
  A : Option Addr
  n : Nat
  c : Nat
  at_ : Int
  m : Nat
def itv (x : It) : Value := .slice x.A x.n x.c
abbrev mark : ByteArray := ⟨#[109, 97, 114, 107]⟩
def Marks (xs : List Value) (z : Int) (m : Nat) : Prop := ∀ i, i < m → xs[i * 3]? = some (.int .i64 z) ∧ xs[i * 3 + 1]? = some (.string ⟨#[]⟩) ∧ xs[i * 3 + 2]? = some (.string mark)
def Mk (w : World) (v : Value) (n : Nat) (z : Int) (m : Nat) : Prop := ∃ xs, OwnS w 24 3 v n xs ∧ Marks xs z m
def hblk (vh : Value) (hs : List It) (k : Nat) : Prop := vh.ownBlock = some k ∨ ∃ x ∈ hs, (itv x).ownBlock = some k
structure Held (w0 w : World) (vh : Value) (hs : List It) : Prop where
  own : OwnS w 22 1 vh hs.length (hs.map itv)
  item : ∀ x ∈ hs, Mk w (itv x) x.n x.at_ x.m
  new : ∀ k, hblk vh hs k → w0.heap.size ≤ k
  apart : hs.Pairwise (fun x y => ∀ k, (itv x).ownBlock = some k → (itv y).ownBlock ≠ some k)
structure Kp (w0 w : World) (p : Nat) (s : LogI.LS) (q : Nat) (t : LogI.LS) (a b : AS Int) (N M : Nat) (vh : Value) (hs : List It) : Prop where
  two : Two w0 w p s a N q t b M
  held : Held w0 w vh hs
  far : ∀ k, hblk vh hs k → ¬ LogI.foot p s k ∧ ¬ LogI.foot q t k
def Fresh (w0 : World) (v : Value) (p : Nat) (s : LogI.LS) (q : Nat) (t : LogI.LS) (vh : Value) (hs : List It) : Prop := ∀ k, v.ownBlock = some k → w0.heap.size ≤ k ∧ ¬ hblk vh hs k ∧ ¬ LogI.foot p s k ∧ ¬ LogI.foot q t k
section
variable {w0 w w' : World} {p q : Nat} {s t : LogI.LS} {a b a' : AS Int} {N M : Nat} {vh v : Value} {hs : List It} {S : Nat → Prop}
theorem Held.lt (h : Held w0 w vh hs) : ∀ k, hblk vh hs k → k < w.heap.size := by
  rintro k (hk | ⟨x, hx, hk⟩)
  · exact h.own.lt k hk
  · obtain ⟨xs, h1, _⟩ := h.item x hx
    exact h1.lt k hk
theorem Held.upd (h : Held w0 w vh hs) (u : Upd S w w') (hn : ∀ k, hblk vh hs k → ¬ S k) : Held w0 w' vh hs := by
  refine ⟨OwnS.upd h.own u (fun k hk => hn k (.inl hk)), fun x hx => ?_, h.new, h.apart⟩
  obtain ⟨xs, h1, h2⟩ := h.item x hx
  exact ⟨xs, OwnS.upd h1 u (fun k hk => hn k (.inr ⟨x, hx, hk⟩)), h2⟩
theorem Kp.beside (h : Kp w0 w p s q t a b N M vh hs) (u : Upd S w w') (hn : ∀ k, S k → w0.heap.size ≤ k ∧ ¬ hblk vh hs k ∧ ¬ LogI.foot p s k ∧ ¬ LogI.foot q t k) : Kp w0 w' p s q t a b N M vh hs :=
  ⟨⟨h.two.l.beside u (fun k hk => ⟨(hn k hk).1, (hn k hk).2.2.1⟩), h.two.r.beside u (fun k hk => ⟨(hn k hk).1, (hn k hk).2.2.2⟩), h.two.apart⟩, h.held.upd u (fun k hk hx => (hn k hx).2.1 hk), h.far⟩
theorem Kp.later (h : Kp w0 w p s q t a b N M vh hs) (hb : Below w.heap.size w w') : Kp w0 w' p s q t a b N M vh hs := h.beside (Upd.below hb No) (fun k hk => hk.elim)
theorem Kp.stepL (h : Kp w0 w p s q t a b N M vh hs) {ds : List Delta} (hb : LogI.BoxL w0 w w' p s a' N v ds) : ∃ s', Kp w0 w' p s' q t a' b N M vh hs ∧ OwnD w' v ds ∧ Fresh w0 v p s' q t vh hs := by
  obtain ⟨s', h1, h2, h3, h4, h5⟩ := hb
  refine ⟨s', ⟨h.two.stepLs h1 h2 h3, h.held.upd h2 (fun k hk => (h.far k hk).1), fun k hk => ⟨fun hx => ?_, (h.far k hk).2⟩⟩, h4, fun k hk => ⟨Nat.le_trans h.two.l.below.size (h5 k hk).1, fun hx => ?_, (h5 k hk).2, fun hx => ?_⟩⟩
  · rcases h3 k hx with e | e
    · exact (h.far k hk).1 e
    · have := h.held.lt k hk
      omega
  · have := h.held.lt k hx
    have := (h5 k hk).1
    omega
  · have := h.two.r.at_.lt k hx
    have := (h5 k hk).1
    omega
theorem Kp.stepR (h : Kp w0 w p s q t a b N M vh hs) {ds es : List Delta} (hb : LogI.BoxL w0 w w' q t a' M v ds) {u : Value} (hu : OwnD w u es) (fu : Fresh w0 u p s q t vh hs) : ∃ t', Kp w0 w' p s q t' a a' N M vh hs ∧ OwnD w' v ds ∧ OwnD w' u es ∧ Fresh w0 u p s q t' vh hs := by
  obtain ⟨t', h1, h2, h3, h4, h5⟩ := hb
  refine ⟨t', ⟨h.two.stepRs h1 h2 h3, h.held.upd h2 (fun k hk => (h.far k hk).2), fun k hk => ⟨(h.far k hk).1, fun hx => ?_⟩⟩, h4, OwnS.upd hu h2 (fun k hk => (fu k hk).2.2.2), fun k hk => ⟨(fu k hk).1, (fu k hk).2.1, (fu k hk).2.2.1, fun hx => ?_⟩⟩
  · rcases h3 k hx with e | e
    · exact (h.far k hk).2 e
    · have := h.held.lt k hk
      omega
  · rcases h3 k hx with e | e
    · exact (fu k hk).2.2.2 e
    · have := OwnS.lt hu k hk
      omega
theorem OwnD.below' {u : Value} {es : List Delta} (hu : OwnD w u es) (hb : Below w.heap.size w w') : OwnD w' u es := OwnS.upd hu (Upd.below hb No) (fun _ _ h => h)
/-- A list more is held. -/
theorem Kp.push (h : Kp w0 w p s q t a b N M vh hs) {A : Option Addr} {n c : Nat} {ds : List Delta} (hu : OwnD w (.slice A n c) ds) (hl : ds.length = n) (fu : Fresh w0 (.slice A n c) p s q t vh hs) (z : Int) {vh' : Value}
    (ho : OwnS w' 22 1 vh' (hs.length + 1) (hs.map itv ++ [.slice A n c])) (hg : w.grownBy w' vh.ownBlock) (hor : vh'.ownBlock = vh.ownBlock ∨ ∀ k, vh'.ownBlock = some k → w.heap.size ≤ k) :
    Kp w0 w' p s q t a b N M vh' (hs ++ [⟨A, n, c, z, 0⟩]) := by
  have u : Upd (fun k => vh.ownBlock = some k) w w' := Upd.grown hg (fun k hk => hk)
  have hb : ∀ k, hblk vh' (hs ++ [⟨A, n, c, z, 0⟩]) k → hblk vh hs k ∨ (Value.slice A n c).ownBlock = some k ∨ w.heap.size ≤ k := by
    rintro k (hk | ⟨x, hx, hk⟩)
    · rcases hor with e | e
      · exact .inl (.inl (by rw [← e]; exact hk))
      · exact .inr (.inr (e k hk))
    · rcases List.mem_append.1 hx with hx | hx
      · exact .inl (.inr ⟨x, hx, hk⟩)
      · simp at hx
        subst hx
        exact .inr (.inl hk)
  have hwn := h.two.l.below.size
  have hnv : ∀ k, (Value.slice A n c).ownBlock = some k → ¬ vh.ownBlock = some k := fun k hk e => (fu k hk).2.1 (.inl e)
  have hmk : ∀ x ∈ hs, Mk w' (itv x) x.n x.at_ x.m := fun x hx => by
    obtain ⟨xs, h1, h2⟩ := h.held.item x hx
    exact ⟨xs, OwnS.upd h1 u (fun k hk => own_ne h1 h.held.own (by decide) k hk), h2⟩
  refine ⟨⟨h.two.l.beside u (fun k hk => ⟨h.held.new k (.inl hk), (h.far k (.inl hk)).1⟩), h.two.r.beside u (fun k hk => ⟨h.held.new k (.inl hk), (h.far k (.inl hk)).2⟩), h.two.apart⟩, ⟨?_, fun x hx => ?_, fun k hk => ?_, ?_⟩, fun k hk => ?_⟩
  · simpa [itv] using ho
  · rcases List.mem_append.1 hx with hx | hx
    · exact hmk x hx
    · simp at hx
      subst hx
      refine ⟨ds.flatMap dcells, ?_, fun i hi => absurd hi (Nat.not_lt_zero _)⟩
      have h1 := OwnS.upd hu u hnv
      rw [hl] at h1
      exact h1
  · rcases hb k hk with e | e | e
    · exact h.held.new k e
    · exact (fu k e).1
    · omega
  · refine List.pairwise_append.2 ⟨h.held.apart, List.pairwise_singleton _ _, fun x hx y hy k hk => ?_⟩
    simp at hy
    subst hy
    exact fun e => (fu k e).2.1 (.inr ⟨x, hx, hk⟩)
  · rcases hb k hk with e | e | e
    · exact h.far k e
    · exact (fu k e).2.2
    · exact ⟨fun hx => by have := h.two.l.at_.lt k hx; omega, fun hx => by have := h.two.r.at_.lt k hx; omega⟩
theorem marks_next {xs : List Value} {z : Int} {j n : Nat} (hx : xs.length = n * 3) (hj : j < n) (h : Marks xs z j) : Marks (((xs.set (j * 3) (.int .i64 z)).set (j * 3 + 1) (.string ⟨#[]⟩)).set (j * 3 + 2) (.string mark)) z (j + 1) := by
  intro i hi
  simp only [List.getElem?_set, List.length_set]
  by_cases e : i = j
  · subst e
    refine ⟨?_, ?_, ?_⟩
    · rw [if_neg (by omega), if_neg (by omega), if_pos rfl, if_pos (by omega)]
    · rw [if_neg (by omega), if_pos rfl, if_pos (by omega)]
    · rw [if_pos rfl, if_pos (by omega)]
  · obtain ⟨h1, h2, h3⟩ := h i (by omega)
    refine ⟨?_, ?_, ?_⟩
    · rw [if_neg (by omega), if_neg (by omega), if_neg (by omega), h1]
    · rw [if_neg (by omega), if_neg (by omega), if_neg (by omega), h2]
    · rw [if_neg (by omega), if_neg (by omega), if_neg (by omega), h3]
theorem w3_upd' (w : World) (g x1 x2 x3 : Nat) (x y z : Value) : Upd (fun k => k = g) w (((w.setCell ⟨g, x1, none⟩ x).setCell ⟨g, x2, none⟩ y).setCell ⟨g, x3, none⟩ z) :=
  Upd.setCell (S := fun k => k = g) (p := ⟨g, x3, none⟩) (Upd.setCell (S := fun k => k = g) (p := ⟨g, x2, none⟩) (Upd.setCell (S := fun k => k = g) (p := ⟨g, x1, none⟩) (Upd.refl _ w) (.inl rfl) _) (.inl rfl) _) (.inl rfl) _
/-- A mark more is written into the last list. -/
theorem Kp.mark {g off n c j : Nat} {z : Int} (h : Kp w0 w p s q t a b N M vh (hs ++ [⟨some ⟨g, off, none⟩, n, c, z, j⟩])) (hj : j < n) :
    Kp w0 (((w.setCell ⟨g, off + j * 3, none⟩ (.int .i64 z)).setCell ⟨g, off + j * 3 + 1, none⟩ (.string ⟨#[]⟩)).setCell ⟨g, off + j * 3 + 2, none⟩ (.string mark)) p s q t a b N M vh (hs ++ [⟨some ⟨g, off, none⟩, n, c, z, j + 1⟩]) := by
  have u := w3_upd' w g (off + j * 3) (off + j * 3 + 1) (off + j * 3 + 2) (.int .i64 z) (.string ⟨#[]⟩) (.string Log.mark)
  have hm : (⟨some ⟨g, off, none⟩, n, c, z, j⟩ : It) ∈ hs ++ [⟨some ⟨g, off, none⟩, n, c, z, j⟩] := List.mem_append_right _ (List.mem_singleton.2 rfl)
  have hgo : (itv ⟨some ⟨g, off, none⟩, n, c, z, j⟩).ownBlock = some g := rfl
  have hg : hblk vh (hs ++ [⟨some ⟨g, off, none⟩, n, c, z, j⟩]) g := .inr ⟨_, hm, hgo⟩
  have hbe : ∀ k, hblk vh (hs ++ [⟨some ⟨g, off, none⟩, n, c, z, j + 1⟩]) k → hblk vh (hs ++ [⟨some ⟨g, off, none⟩, n, c, z, j⟩]) k := by
    rintro k (hk | ⟨x, hx, hk⟩)
    · exact .inl hk
    · rcases List.mem_append.1 hx with hx | hx
      · exact .inr ⟨x, List.mem_append_left _ hx, hk⟩
      · simp at hx
        subst hx
        exact .inr ⟨_, hm, hk⟩
  have hap := List.pairwise_append.1 h.held.apart
  obtain ⟨xs, hx1, hx2⟩ := h.held.item _ hm
  have hx1 : OwnS w 24 3 (.slice (some ⟨g, off, none⟩) n c) n xs := hx1
  have hx2 : Marks xs z j := hx2
  refine ⟨⟨h.two.l.beside u (fun k hk => by subst hk; exact ⟨h.held.new _ hg, (h.far _ hg).1⟩), h.two.r.beside u (fun k hk => by subst hk; exact ⟨h.held.new _ hg, (h.far _ hg).2⟩), h.two.apart⟩, ⟨?_, fun x hx => ?_, fun k hk => h.held.new k (hbe k hk), ?_⟩, fun k hk => h.far k (hbe k hk)⟩
  · have h1 := OwnS.upd h.held.own u (fun k hk e => by subst e; exact own_ne h.held.own hx1 (by decide) _ hk rfl)
    simpa [itv] using h1
  · rcases List.mem_append.1 hx with hx9 | hx
    · obtain ⟨ys, h1, h2⟩ := h.held.item x (List.mem_append_left _ hx9)
      refine ⟨ys, OwnS.upd h1 u (fun k hk e => ?_), h2⟩
      subst e
      exact hap.2.2 x hx9 _ (List.mem_singleton.2 rfl) _ hk hgo
    · simp at hx
      subst hx
      have h1 := ((hx1.set1 (k := j * 3) (by omega) (.int .i64 z)).set1 (k := j * 3 + 1) (by omega) (.string ⟨#[]⟩)).set1 (k := j * 3 + 2) (by omega) (.string Log.mark)
      rw [← Nat.add_assoc, ← Nat.add_assoc] at h1
      exact ⟨_, h1, marks_next hx1.1 hj hx2⟩
  · refine List.pairwise_append.2 ⟨hap.1, List.pairwise_singleton _ _, fun x hx y hy k hk => ?_⟩
    simp at hy
    subst hy
    exact hap.2.2 x hx _ (List.mem_singleton.2 rfl) k hk
theorem Held.nil (w0 w : World) : Held w0 w (.slice none 0 0) [] := ⟨OwnS.nil _ _ _, fun x hx => by simp at hx, fun k hk => by rcases hk with hk | ⟨x, hx, _⟩; (simp [Value.ownBlock] at hk); (simp at hx), List.Pairwise.nil⟩
/-- What number the marks of the list at i bear. -/
def hAt (kp i : Nat) : Int := 500 * ((i / max kp 1 : Nat) : Int) + ((i % max kp 1 : Nat) : Int)
def AtOk (kp : Nat) (hs : List It) : Prop := ∀ i x, hs[i]? = some x → x.at_ = hAt kp i ∧ x.m = x.n ∧ x.n ≤ 65536
theorem AtOk.nil (kp : Nat) : AtOk kp [] := fun i x h => by simp at h
theorem AtOk.push {kp : Nat} {hs : List It} (h : AtOk kp hs) (x : It) (h1 : x.at_ = hAt kp hs.length) (h2 : x.m = x.n) (h3 : x.n ≤ 65536) : AtOk kp (hs ++ [x]) := by
  intro i y hy
  rcases Nat.lt_trichotomy i hs.length with hi | hi | hi
  · rw [List.getElem?_append_left hi] at hy
    exact h i y hy
  · subst hi
    simp at hy
    subst hy
    exact ⟨h1, h2, h3⟩
  · rw [List.getElem?_eq_none (by simp; omega)] at hy
    cases hy
theorem hAt_undo {kp i r L : Nat} (hi : i < kp) (hL : L = r * (2 * kp) + i) : hAt kp L = 1000 * (r : Int) + (i : Int) := by
  unfold hAt
  have hk : max kp 1 = kp := by omega
  have h1 : L = i + kp * (2 * r) := by
    rw [hL, Nat.mul_comm r (2 * kp), Nat.mul_comm 2 kp, Nat.mul_assoc]
    omega
  rw [hk, h1, Nat.add_mul_div_left _ _ (by omega), Nat.add_mul_mod_self_left, Nat.div_eq_of_lt hi, Nat.mod_eq_of_lt hi]
  omega
theorem hAt_redo {kp i r L : Nat} (hi : i < kp) (hL : L = r * (2 * kp) + kp + i) : hAt kp L = 1000 * (r : Int) + 500 + (i : Int) := by
  unfold hAt
  have hk : max kp 1 = kp := by omega
  have h1 : L = i + kp * (2 * r + 1) := by
    rw [hL, Nat.mul_comm r (2 * kp), Nat.mul_comm 2 kp, Nat.mul_assoc, Nat.mul_add]
    omega
  rw [hk, h1, Nat.add_mul_div_left _ _ (by omega), Nat.add_mul_mod_self_left, Nat.div_eq_of_lt hi, Nat.mod_eq_of_lt hi]
  omega
theorem Held.cell {AH : Option Addr} {L cH i : Nat} {x : It} (h : Held w0 w (.slice AH L cH) hs) (hL : L = hs.length) (hi : hs[i]? = some x) : ∃ g off, AH = some ⟨g, off, none⟩ ∧ w.cell? ⟨g, off + i, none⟩ = some (.slice x.A x.n x.c) := by
  subst hL
  have hlt : i < hs.length := (List.getElem?_eq_some_iff.1 hi).1
  obtain ⟨g, off, c, hv, hc, hcell⟩ := h.own.some_ (by omega)
  injection hv with e1 e2 e3
  refine ⟨g, off, e1, hcell i _ ?_⟩
  rw [List.getElem?_map, hi]
  rfl
theorem Held.cell1 {g off L cH i : Nat} {x : It} (h : Held w0 w (.slice (some ⟨g, off, none⟩) L cH) hs) (hL : L = hs.length) (hi : hs[i]? = some x) : w.cell? ⟨g, off + i, none⟩ = some (.slice x.A x.n x.c) := by
  obtain ⟨g', off', e, hc⟩ := h.cell hL hi
  injection e with e
  injection e with e1 e2
  subst e1; subst e2
  exact hc
theorem Mk.cell {A : Option Addr} {n c : Nat} {z : Int} {i : Nat} (h : Mk w (.slice A n c) n z n) (hi : i < n) : ∃ g off, A = some ⟨g, off, none⟩ ∧ w.cell? ⟨g, off + i * 3, none⟩ = some (.int .i64 z) ∧ w.cell? ⟨g, off + i * 3 + 1, none⟩ = some (.string ⟨#[]⟩) ∧ w.cell? ⟨g, off + i * 3 + 2, none⟩ = some (.string mark) := by
  obtain ⟨xs, h1, h2⟩ := h
  obtain ⟨g, off, c', hv, hc, hcell⟩ := h1.some_ (by omega)
  injection hv with e1 e2 e3
  obtain ⟨m1, m2, m3⟩ := h2 i hi
  exact ⟨g, off, e1, hcell _ _ m1, by rw [Nat.add_assoc]; exact hcell _ _ m2, by rw [Nat.add_assoc]; exact hcell _ _ m3⟩
theorem pw_mem {α : Type} {R : α → α → Prop} (hsym : ∀ x y, R x y → R y x) : ∀ {l : List α}, l.Pairwise R → ∀ x ∈ l, ∀ y ∈ l, x ≠ y → R x y
  | [], _, x, hx, _, _, _ => by simp at hx
  | z :: l, h, x, hx, y, hy, hne => by
    obtain ⟨h1, h2⟩ := List.pairwise_cons.1 h
    rcases List.mem_cons.1 hx with ex | hx
    · rcases List.mem_cons.1 hy with ey | hy
      · exact absurd (ex.trans ey.symm) hne
      · rw [ex]
        exact h1 y hy
    · rcases List.mem_cons.1 hy with ey | hy
      · rw [ey]
        exact hsym _ _ (h1 x hx)
      · exact pw_mem hsym h2 x hx y hy hne
/-- A held list that grows by j: in its own room, or elsewhere. -/
def Grw (w0 w : World) (vh : Value) (hs : List It) (x : It) (j : Nat) (vg : Value) : Prop := ∃ ys A c, vg = .slice A (x.n + j) c ∧ OwnS w 24 3 vg (x.n + j) ys ∧ Marks ys x.at_ x.n ∧ ((A = x.A ∧ c = x.c) ∨ ∀ k, vg.ownBlock = some k → w0.heap.size ≤ k ∧ ¬ hblk vh hs k)
theorem Grw.start {x : It} (h : Held w0 w vh hs) (hx : x ∈ hs) (hm : x.m = x.n) : Grw w0 w vh hs x 0 (itv x) := by
  obtain ⟨xs, h1, h2⟩ := h.item x hx
  rw [hm] at h2
  exact ⟨xs, x.A, x.c, rfl, h1, h2, .inl ⟨rfl, rfl⟩⟩
theorem Grw.step {x : It} {j : Nat} {vg vg' : Value} {ys news : List Value} {A : Option Addr} {c : Nat} (h : Held w0 w vh hs) (hw : w0.heap.size ≤ w.heap.size) (hx : x ∈ hs) (hm : x.m = x.n) (hA : vg = .slice A (x.n + j) c) (ho : OwnS w 24 3 vg (x.n + j) ys) (mk : Marks ys x.at_ x.n) (hor : (A = x.A ∧ c = x.c) ∨ ∀ k, vg.ownBlock = some k → w0.heap.size ≤ k ∧ ¬ hblk vh hs k)
    (ho' : OwnS w' 24 3 vg' (x.n + j + 1) (ys ++ news)) (hg : w.grownBy w' vg.ownBlock) (hk : (∃ A0 c0, vg = .slice A0 (x.n + j) c0 ∧ vg' = .slice A0 (x.n + j + 1) c0) ∨ ((∀ k, vg'.ownBlock = some k → w.heap.size ≤ k) ∧ Below w.heap.size w w')) : Held w0 w' vh hs ∧ Grw w0 w' vh hs x (j + 1) vg' := by
  have hmk : Marks (ys ++ news) x.at_ x.n := fun i hi => by
    obtain ⟨m1, m2, m3⟩ := mk i hi
    have hl := ho.1
    rw [List.getElem?_append_left (by omega), List.getElem?_append_left (by omega), List.getElem?_append_left (by omega)]
    exact ⟨m1, m2, m3⟩
  rcases hk with ⟨A0, c0, e1, e2⟩ | ⟨hn, hb⟩
  · rw [hA] at e1
    injection e1 with e3 e4 e5
    subst e3; subst e5
    have u : Upd (fun k => vg.ownBlock = some k) w w' := Upd.grown hg (fun k hk => hk)
    have hob : vg'.ownBlock = vg.ownBlock := by rw [e2, hA]; cases A <;> rfl
    rcases hor with ⟨hA1, hc1⟩ | hf
    · have hvx : vg.ownBlock = (itv x).ownBlock := by rw [hA, hA1, hc1]; unfold itv; cases x.A <;> rfl
      refine ⟨⟨OwnS.upd h.own u (fun k hk e => own_ne h.own ho (by decide) k hk e), fun y hy => ?_, h.new, h.apart⟩, ⟨ys ++ news, A, c, by rw [e2]; rfl, by rw [← Nat.add_assoc]; exact ho', hmk, .inl ⟨hA1, hc1⟩⟩⟩
      by_cases hyx : y = x
      · subst hyx
        rw [e2] at ho'
        have h1 := ho'.take y.n (by omega)
        refine ⟨_, by unfold itv; rw [← hA1, ← hc1]; exact h1, ?_⟩
        rw [hm]
        intro i hi
        obtain ⟨m1, m2, m3⟩ := hmk i hi
        rw [List.getElem?_take, List.getElem?_take, List.getElem?_take, if_pos (by omega), if_pos (by omega), if_pos (by omega)]
        exact ⟨m1, m2, m3⟩
      · obtain ⟨xs, h1, h2⟩ := h.item y hy
        refine ⟨xs, OwnS.upd h1 u (fun k hk e => ?_), h2⟩
        rw [hvx] at e
        exact pw_mem (fun a b hab k hk hk' => hab k hk' hk) h.apart y hy x hx hyx k hk e
    · refine ⟨h.upd u (fun k hk e => (hf k e).2 hk), ⟨ys ++ news, A, c, by rw [e2]; rfl, by rw [← Nat.add_assoc]; exact ho', hmk, .inr (fun k hk => hf k (by rw [← hob]; exact hk))⟩⟩
  · obtain ⟨A', c', e9, -⟩ := ho'.form
    refine ⟨h.upd (Upd.below hb No) (fun k hk e => e.elim), ⟨ys ++ news, A', c', by rw [e9]; rfl, by rw [← Nat.add_assoc]; exact ho', hmk, .inr (fun k hk => ⟨Nat.le_trans hw (hn k hk), fun hx => ?_⟩)⟩⟩
    have h1 := h.lt k hx
    have h2 := hn k hk
    omega
theorem Grw.block {x : It} {j : Nat} {A : Option Addr} {c : Nat} (h : Held w0 w vh hs) (hx : x ∈ hs) (hor : (A = x.A ∧ c = x.c) ∨ ∀ k, (Value.slice A (x.n + j) c).ownBlock = some k → w0.heap.size ≤ k ∧ ¬ hblk vh hs k) : ∀ k, (Value.slice A (x.n + j) c).ownBlock = some k → w0.heap.size ≤ k := by
  intro k hk
  rcases hor with ⟨h1, h2⟩ | hf
  · refine h.new k (.inr ⟨x, hx, ?_⟩)
    rw [← hk, h1]
    unfold itv
    cases x.A <;> rfl
  · exact (hf k hk).1
theorem Kp.room {A : Option Addr} {n c j : Nat} {z : Int} (h : Kp w0 w p s q t a b N M vh (hs ++ [⟨A, n, c, z, j⟩])) (hj : j < n) : ∃ g off, A = some ⟨g, off, none⟩ ∧ (∃ u, w.cell? ⟨g, off + j * 3, none⟩ = some u) ∧ (∃ u, w.cell? ⟨g, off + j * 3 + 1, none⟩ = some u) ∧ (∃ u, w.cell? ⟨g, off + j * 3 + 2, none⟩ = some u) ∧ ∀ k, w.frozen? ⟨g, k, none⟩ = false := by
  obtain ⟨xs, h1, h2⟩ := h.held.item _ (List.mem_append_right _ (List.mem_singleton.2 rfl))
  have h1 : OwnS w 24 3 (.slice A n c) n xs := h1
  obtain ⟨g, off, c', hv, hc, hcell⟩ := h1.some_ (by omega)
  injection hv with e1 e2 e3
  subst e1
  have hl := h1.1
  have hx : ∀ k, k < n * 3 → ∃ u, w.cell? ⟨g, off + k, none⟩ = some u := fun k hk => ⟨_, hcell k _ (List.getElem?_eq_getElem (by omega))⟩
  exact ⟨g, off, rfl, hx _ (by omega), by rw [Nat.add_assoc]; exact hx _ (by omega), by rw [Nat.add_assoc]; exact hx _ (by omega), h1.frozen⟩
theorem reads_val (w : World) (v : Value) : Reads (w.alloc (.cells #[v] 22)) (w.heap.size + 1) 1 (some ⟨w.heap.size, 0, none⟩) 1 [v] := by
  have h := (OwnS.new w 22 1 1 [v] rfl (by unfold maxLen; omega)).reads
  rw [World.size_alloc] at h
  exact h
end
end Log
end Go.Proofs.YtkpcnfchhnfpoaaDoor
/- LogKeeps, walked. Printed by a program of this claim. -/
set_option linter.unusedVariables false
namespace Go.Proofs.YtkpcnfchhnfpoaaDoor
open Go.RowKit Go.Proofs.YtkpcnfchhnfpoaaDoorW.PrintWords Go.Proofs.YtkpcnfchhnfpoaaDoor.Sep Log LogI
namespace Log
theorem info22 : (Tryd.prog.info? 22).map (fun i => (i.zero, i.size, i.bytes)) = some (some (.slice none 0 0), 1, 24) := by kernel_rfl
set_option maxHeartbeats 40000000
set_option maxRecDepth 100000
theorem keeps_w (W : World) (A : Option Addr) (l c : Nat) (gs : List GV) (t : ByteArray) (h : ReadsG W W.heap.size A l gs) (hz : tot t gs ≤ 3000000) :
    Calls Tryd.prog 6 #[.slice A l c, .string t] W fun e w' => e = .returned (.bool true) ∧ Below W.heap.size W w' := by
  cases hlg : decide (65536 < tot t gs) with
  | true =>
    have HR := Lib.hid h
    have HLG := Lib.hid hlg
    have HZ := Lib.hid hz
    clear h hlg hz
    go_enter Tryd.func6, Tryd.ntmps6
    go_wp2_with (first
      | (go_at_call 10; go_fit (fixed _); rintro e w1 ⟨rfl, hb⟩; have HW1 := Lib.hid hb; have HR1 := Lib.hid (HR.out.later hb); clear hb)
      | (go_at_call 19; go_fit (long_l _ _ _ _ _ gs HR1.out HZ.out true HLG.out); rintro e w2 ⟨rfl, rfl⟩))
    go_ret
    exact ⟨rfl, HW1.out⟩
  | false =>
    have hT : tot t gs ≤ 65536 := by simpa using hlg
    obtain ⟨G, hG⟩ : ∃ G, G = (seq t (els gs)).2 := ⟨_, rfl⟩
    have hst := seq_hst t (els gs)
    have hsm := seq_sm t (els gs) 65536 (by rw [lsum_els]; unfold tot at hT; omega)
    rw [← hG] at hst hsm
    obtain ⟨m, hm⟩ : ∃ m, m = G.length := ⟨_, rfl⟩
    obtain ⟨kp, hkp⟩ : ∃ kp, kp = min m 20 := ⟨_, rfl⟩
    have hk20 : kp ≤ 20 := by omega
    have hkm : kp ≤ m := by omega
    have hml : m ≤ 65536 := by
      have h1 := seq_len t (els gs)
      have h2 : (els gs).length = gs.length := List.length_map ..
      rw [← hG, ← hm] at h1
      unfold tot at hT
      omega
    have HG := Lib.hid hG.symm
    have HM := Lib.hid hm.symm
    have HKP := Lib.hid hkp
    have HST := Lib.hid hst
    have HR := Lib.hid h
    have HLG := Lib.hid hlg
    have HZ := Lib.hid hz
    have HT0 := Lib.hid hT
    have HGS : Hid (∀ j, j < m → (G.getD j gN).ds.length ≤ 65536) := Lib.hid (fun j hj => (hsm _ (getD_mem (by omega))).1)
    obtain ⟨i2, hi2, hy0, hy1, hy2⟩ := info_parts info22
    obtain ⟨i4, hi4, hx0, hx1, hx2⟩ := info_parts info24
    clear h hlg hz hG hst hsm hm hkp hT
    go_enter Tryd.func6, Tryd.ntmps6
    go_wp2_with (first
      | (go_at_call 10; go_fit (fixed _); rintro e w1 ⟨rfl, hb⟩; have HW1 := Lib.hid hb; have HR1 := Lib.hid (HR.out.later hb); clear hb)
      | (go_at_call 19; go_fit (long_l _ _ _ _ _ gs HR1.out HZ.out false HLG.out); rintro e w2 ⟨rfl, rfl⟩)
      | (go_at_call 20; go_fit (new_b (w0 := W) 20 HL1.out.below (shut 20 []) rfl 1000 (by omega)); rintro e w4 ⟨q, t4, rfl, hb4, hf4, hbb⟩; have hT : Two W w4 p s3 (shut 20 []) 1000 q t4 (shut 20 []) 1000 := ⟨HL1.out.later hbb, hb4, fun k hk hx => by have h1 := HL1.out.at_.lt k hk; have h2 := hf4 k hx; omega⟩; have HT := Lib.hid hT; clear hb4 hf4 hbb hT)
      | (go_at_call 20; go_fit (new_b (w0 := W) 20 HW1.out (shut 20 []) rfl 1000 (by omega)); rintro e w3 ⟨p, s3, rfl, hb3, -, -⟩; have HL1 := Lib.hid hb3; clear hb3)
      | (go_at_call 21; go_fit (texts_c W w4 p s3 20 1000 HT.out.l t A l c gs HR.out (by have := HT0.out; omega) (by omega)); rintro e w5 ⟨v5, rfl, -, -, M5, hbx⟩; rw [HG.out, ← st_full, HM.out] at hbx; obtain ⟨s5, ht5, -, -⟩ := HT.out.stepL hbx; have HT5 := Lib.hid ht5; clear hbx ht5)
      | (go_at_call 21; go_fit (texts_c W w5 q t4 20 1000 HT5.out.r t A l c gs HR.out (by have := HT0.out; omega) (by omega)); rintro e w6 ⟨v6, rfl, -, -, M6, hbx⟩; rw [HG.out, ← st_full, HM.out] at hbx; obtain ⟨t6, ht6, -, -⟩ := HT5.out.stepR hbx; have HT6 := Lib.hid ht6; clear hbx ht6)
      | (go_at_call 23; go_fit (undos_b HT6.out.l kp (by have h1 := st_undos 20 G; rw [HM.out, ← HKP.out] at h1; exact h1)); rintro e w7 ⟨rfl, rfl⟩))
    have HK0 : Hid (Kp W _ p s5 q t6 (st 20 G m) (st 20 G m) M5 M6 (.slice none 0 0) []) := Lib.hid ⟨HT6.out, Held.nil _ _, fun k hk => by rcases hk with hk | ⟨x, hx, _⟩; (simp [Value.ownBlock] at hk); (simp at hx)⟩
    clear HL1 HT HT5 HT6 HW1 HR1
    go_loopg [13, 11] 2 (fun k v13 v11 w' => ∃ r : Nat, v13 = .int .i64 r ∧ r + k = 2 ∧ ∃ AH LH cH, v11 = .slice AH LH cH ∧ ∃ s' t' hs, Hid (LH = hs.length) ∧ Hid (LH = r * (2 * kp)) ∧ Hid (Kp W w' p s' q t' (st 20 G m) (st 20 G m) M5 M6 (.slice AH LH cH) hs) ∧ Hid (AtOk kp hs))
    case atStart => exact ⟨0, rfl, by omega, none, 0, 0, rfl, s5, t6, [], Lib.hid rfl, Lib.hid (by omega), HK0, Lib.hid (AtOk.nil kp)⟩
    case round =>
      clear HK0
      obtain ⟨r, rfl, hrk, AH, LH, cH, rfl, s0, t0, hs, HL, HLr, HK, HA⟩ := hrel
      cases gk with
      | zero =>
        obtain rfl : r = 2 := by omega
        have hkl : LH ≤ 80 := by have h1 := HLr.out; omega
        have HHD : Hid (Held W wr (.slice AH LH cH) hs) := Lib.hid HK.out.held
        have HBW : Hid (Below W.heap.size W wr) := Lib.hid HK.out.two.l.below
        clear HK HLr
        go_wp2
        go_loopg [30] LH (fun k v30 w' => ∃ i : Nat, v30 = .int .i64 i ∧ i + k = LH ∧ Hid (Held W w' (.slice AH LH cH) hs) ∧ Hid (Below W.heap.size W w'))
        case atStart => exact ⟨0, rfl, by omega, HHD, HBW⟩
        case round =>
          clear HHD HBW
          obtain ⟨i, rfl, hik, HH, HB⟩ := hrel
          cases gk with
          | zero =>
            have e1 : decide (i < LH) = false := by simp; omega
            go_wp2
            go_loopg [33] LH (fun k v33 w' => ∃ i : Nat, v33 = .int .i64 i ∧ i + k = LH ∧ Hid (Held W w' (.slice AH LH cH) hs) ∧ Hid (Below W.heap.size W w'))
            case atStart => exact ⟨0, rfl, by omega, HH, HB⟩
            case round =>
              clear HH HB
              obtain ⟨i8, rfl, hik8, HH, HB⟩ := hrel
              cases gk with
              | zero =>
                have e8 : decide (i8 < LH) = false := by simp; omega
                go_wp2
                go_ret
                exact ⟨rfl, HB.out⟩
              | succ k8 =>
                as_aux_lemma =>
                  have hi8 : i8 < LH := by omega
                  have e8 : decide (i8 < LH) = true := by simp [hi8]
                  obtain ⟨x, hx⟩ : ∃ x, hs[i8]? = some x := ⟨_, List.getElem?_eq_getElem (by rw [← HL.out]; exact hi8)⟩
                  obtain ⟨g, off, rfl, hc⟩ := HH.out.cell HL.out hx
                  obtain ⟨y1, y2, y3⟩ := HA.out i8 x hx
                  have HMX := Lib.hid (List.mem_of_getElem? hx)
                  have HX := Lib.hid hx
                  clear hx hc
                  obtain ⟨xA, xn, xc, xz, xm⟩ := x
                  dsimp only at y1 y2 y3
                  obtain ⟨mx, hmx⟩ : ∃ mx, mx = max kp 1 := ⟨_, rfl⟩
                  obtain ⟨dq, hdq⟩ : ∃ dq, dq = i8 / mx := ⟨_, rfl⟩
                  obtain ⟨dr, hdr⟩ : ∃ dr, dr = i8 % mx := ⟨_, rfl⟩
                  unfold hAt at y1
                  rw [← hmx, ← hdq, ← hdr] at y1
                  subst y1
                  subst y2
                  have q1 : max (kp : Int) 1 = (mx : Int) := by omega
                  have q2 : Int.tdiv (i8 : Int) (mx : Int) = (dq : Int) := by rw [hdq]; rfl
                  have q3 : Int.tmod (i8 : Int) (mx : Int) = (dr : Int) := by rw [hdr]; rfl
                  have q4 : ¬ (mx : Int) = 0 := by omega
                  have q4b : ¬ mx = 0 := by omega
                  have q5 : dq ≤ 80 := by rw [hdq]; exact Nat.le_trans (Nat.div_le_self _ _) (by omega)
                  have q6 : dr ≤ 80 := by rw [hdr]; exact Nat.le_trans (Nat.mod_le _ _) (by omega)
                  clear hmx hdq hdr
                  go_wp2
                  go_loopg [34] xm (fun k v34 w' => ∃ j : Nat, v34 = .int .i64 j ∧ j + k = xm ∧ Hid (Held W w' (.slice (some ⟨g, off, none⟩) LH cH) hs) ∧ Hid (Below W.heap.size W w'))
                  case atStart => exact ⟨0, rfl, by omega, HH, HB⟩
                  case round =>
                    clear HH HB
                    obtain ⟨j9, rfl, hjk9, HH, HB⟩ := hrel
                    have hc9 := HH.out.cell1 HL.out HX.out
                    dsimp only at hc9
                    cases gk with
                    | zero =>
                      have e9 : decide (j9 < xm) = false := by simp; omega
                      go_wp2
                      go_roundg k8
                      case measure => omega
                      case rel => exact ⟨i8 + 1, by simp, by omega, HH, HB⟩
                    | succ k9 =>
                      have hj9 : j9 < xm := by omega
                      have e9 : decide (j9 < xm) = true := by simp [hj9]
                      obtain ⟨g9, o9, rfl, d0, d1, d2⟩ := Mk.cell (HH.out.item _ HMX.out) hj9
                      have n1 : (Log.mark.toList != Log.mark.toList) = false := by simp
                      go_wp2
                      go_quiet (fail)
                      go_wp2
                      go_roundg k9
                      case measure => omega
                      case rel => exact ⟨j9 + 1, by simp, by omega, Lib.hid (HH.out.upd ((Upd.refl No _).drewN _) (fun k _ h => h.elim)), Lib.hid (Below.drewN' HB.out _)⟩
          | succ k6 =>
            as_aux_lemma =>
              have hi6 : i < LH := by omega
              have e6 : decide (i < LH) = true := by simp [hi6]
              obtain ⟨x, hx⟩ : ∃ x, hs[i]? = some x := ⟨_, List.getElem?_eq_getElem (by rw [← HL.out]; exact hi6)⟩
              obtain ⟨g, off, rfl, hc⟩ := HH.out.cell HL.out hx
              obtain ⟨y1, y2, y3⟩ := HA.out i x hx
              have HMX := Lib.hid (List.mem_of_getElem? hx)
              have HG0 := Lib.hid (Grw.start HH.out HMX.out y2)
              obtain ⟨xA, xn, xc, xz, xm⟩ := x
              dsimp only at hc y2 y3
              subst y2
              clear hx y1
              go_wp2
              go_loopg [32, 31] 16 (fun k v32 v31 w' => ∃ j : Nat, v32 = .int .i64 j ∧ j + k = 16 ∧ Hid (Held W w' (.slice (some ⟨g, off, none⟩) LH cH) hs) ∧ Hid (Below W.heap.size W w') ∧ ∃ A7 c7, v31 = .slice A7 (xm + j) c7 ∧ Hid (Grw W w' (.slice (some ⟨g, off, none⟩) LH cH) hs ⟨xA, xm, xc, xz, xm⟩ j (.slice A7 (xm + j) c7)))
              case atStart => exact ⟨0, rfl, by omega, HH, HB, xA, xc, rfl, HG0⟩
              case round =>
                clear HH HB HG0 hc
                obtain ⟨j7, rfl, hjk7, HH, HB, A7, c7, rfl, HG⟩ := hrel
                cases gk with
                | zero =>
                  have e7 : decide ((j7 : Int) < 16) = false := decide_eq_false (by omega)
                  go_wp2
                  go_roundg k6
                  case measure => omega
                  case rel => exact ⟨i + 1, by simp, by omega, HH, HB⟩
                | succ k7 =>
                  have e7 : decide ((j7 : Int) < 16) = true := decide_eq_true (by omega)
                  obtain ⟨ys, A8, c8, hv8, ho, hmk, hor⟩ := HG.out
                  injection hv8 with v1 v2 v3
                  subst v1
                  subst v3
                  clear v2
                  have HOA : Hid (OwnS (wr.alloc (.cells #[.int .i64 (-1), .string ⟨#[]⟩, .string ⟨#[]⟩] 24)) 24 3 (.slice A7 (xm + j7) c7) (xm + j7) ys) := Lib.hid (OwnS.upd ho (Upd.below (below_one wr (.cells #[.int .i64 (-1), .string ⟨#[]⟩, .string ⟨#[]⟩] 24)) No) (fun _ _ h => h))
                  have HMK := Lib.hid hmk
                  have HOR := Lib.hid hor
                  have HHA := Lib.hid (HH.out.upd (Upd.below (below_one wr (.cells #[.int .i64 (-1), .string ⟨#[]⟩, .string ⟨#[]⟩] 24)) No) (fun _ _ h => h))
                  have HBA := Lib.hid (HB.out.alloc HB.out.size (.cells #[.int .i64 (-1), .string ⟨#[]⟩, .string ⟨#[]⟩] 24))
                  clear ho hmk hor
                  go_wp2_with (at_builtin; refine wpList_append_2 (v := .slice A7 (xm + j7) c7) (n := xm + j7) (xs := ys) (m := 1) rfl (.tmp 181) (.tmp 183) _ rfl Tryd.underlying22 hi4 hx0 hx1 hx2 rfl (by omega) rfl HOA.out rfl (reads_one wr (-1, ⟨#[]⟩, ⟨#[]⟩)) (by intro u hu; simp [dcells] at hu; rcases hu with rfl | rfl | rfl <;> rfl) (by unfold maxLen; omega) (by omega) ?_; intro v8 w8 ho8 hg8 hk8; obtain ⟨hh8, hgr8⟩ := Grw.step HHA.out HBA.out.size HMX.out rfl rfl HOA.out HMK.out HOR.out ho8 hg8 hk8; have hb8 := HBA.out.trans ((Upd.grown hg8 (fun k e => e)).toBelow HBA.out.size (Grw.block HHA.out HMX.out HOR.out)); obtain ⟨A9, c9, hv9, -⟩ := ho8.form; subst hv9; have HH8 := Lib.hid hh8; have HG8 := Lib.hid hgr8; have HB8 := Lib.hid hb8; clear ho8 hg8 hk8 hh8 hgr8 hb8)
                  go_roundg k7
                  case measure => omega
                  case rel => exact ⟨j7 + 1, by simp, by omega, HH8, HB8, A9, c9, rfl, HG8⟩
      | succ k1 =>
        have hr2 : r < 2 := by omega
        have e0 : decide ((r : Int) < 2) = true := decide_eq_true (by omega)
        have HB80 : Hid (r * (2 * kp) ≤ 40) := Lib.hid (by have h1 := Nat.mul_le_mul (show r ≤ 1 by omega) (show 2 * kp ≤ 40 by omega); omega)
        obtain ⟨L0, hL0⟩ : ∃ L0, L0 = r * (2 * kp) := ⟨_, rfl⟩
        rw [← hL0] at HLr HB80
        have HL0 := Lib.hid hL0
        clear hL0
        go_wp2
        go_loopg [14, 11] kp (fun k v14 v11 w' => ∃ i : Nat, v14 = .int .i64 i ∧ i + k = kp ∧ ∃ j, i + j = m ∧ ∃ AH LH cH, v11 = .slice AH LH cH ∧ ∃ s' t' hs, Hid (LH = hs.length) ∧ Hid (LH = L0 + i) ∧ Hid (Kp W w' p s' q t' (st 20 G j) (st 20 G j) M5 M6 (.slice AH LH cH) hs) ∧ Hid (AtOk kp hs))
        case atStart => exact ⟨0, rfl, by omega, m, by omega, AH, LH, cH, rfl, s0, t0, hs, HL, HLr, HK, HA⟩
        case round =>
          clear HL HLr HK HA
          obtain ⟨i, rfl, hik, j, hij, AH, LH, cH, rfl, s0, t0, hs, HL, HLr, HK, HA⟩ := hrel
          cases gk with
          | zero =>
            have e1 : decide (i < kp) = false := by simp; omega
            obtain rfl : i = kp := by omega
            go_wp2
            go_loopg [22, 11] i (fun k v22 v11 w' => ∃ i2 : Nat, v22 = .int .i64 i2 ∧ i2 + k = i ∧ ∃ AH LH cH, v11 = .slice AH LH cH ∧ ∃ s' t' hs, Hid (LH = hs.length) ∧ Hid (LH = L0 + i + i2) ∧ Hid (Kp W w' p s' q t' (st 20 G (j + i2)) (st 20 G (j + i2)) M5 M6 (.slice AH LH cH) hs) ∧ Hid (AtOk i hs))
            case atStart => exact ⟨0, rfl, by omega, AH, LH, cH, rfl, s0, t0, hs, HL, HLr, HK, HA⟩
            case round =>
              clear HL HLr HK HA
              obtain ⟨i2, rfl, hik2, AH, LH, cH, rfl, s0, t0, hs, HL, HLr, HK, HA⟩ := hrel
              cases gk with
              | zero =>
                have e2 : decide (i2 < i) = false := by simp; omega
                have hjm : j + i2 = m := by omega
                rw [hjm] at HK
                have HLn : Hid (LH = (r + 1) * (2 * i)) := Lib.hid (by
                  have h1 := HLr.out
                  have h2 := HL0.out
                  have h3 : i2 = i := by omega
                  rw [Nat.add_mul]
                  omega)
                go_wp2
                go_roundg k1
                case measure => omega
                case rel => exact ⟨r + 1, by simp, by omega, AH, LH, cH, rfl, s0, t0, hs, HL, HLn, HK, HA⟩
              | succ k2 =>
                as_aux_lemma =>
                  have hi : i2 < i := by omega
                  have e2 : decide (i2 < i) = true := by simp [hi]
                  have hjlt : j + i2 < m := by omega
                  obtain ⟨q1, hq1⟩ : ∃ q1, q1 = j + i2 := ⟨_, rfl⟩
                  rw [← hq1] at HK hjlt
                  have HDL : Hid ((G.getD q1 gN).ds.length ≤ 65536) := Lib.hid (HGS.out q1 hjlt)
                  have hsg : Hid ((st 20 G (q1)).redoL = (G.getD q1 gN).ds ∧ (st 20 G (q1)).redoA LogI.zA = ((q1 + 1 : Nat) : Int) ∧ (st 20 G (q1)).redoE = 0) := Lib.hid (by
                    obtain ⟨h1, h2, h3⟩ := redoS (st_redoG 20 G q1 (by rw [HM.out]; exact hjlt))
                    exact ⟨h1, h2.trans (HST.out.be q1 (by rw [HM.out]; exact hjlt)), h3⟩)
                  have HNX : Hid ((st 20 G (q1)).redo_ = st 20 G (q1 + 1)) := Lib.hid (st_redo 20 G q1 (by rw [HM.out]; exact hjlt) (by rw [HM.out]; have := HKP.out; omega))
                  obtain ⟨ds, hds⟩ : ∃ ds, ds = (G.getD q1 gN).ds := ⟨_, rfl⟩
                  rw [← hds] at hsg HDL
                  obtain ⟨n3, hn3⟩ : ∃ n3, ds.length = n3 := ⟨_, rfl⟩
                  have hn65 : n3 ≤ 65536 := by rw [← hn3]; exact HDL.out
                  have HN3 := Lib.hid hn3
                  have hLH : LH ≤ 200 := by have h1 := HLr.out; have h2 := HB80.out; omega
                  obtain ⟨xa, hxa⟩ : ∃ xa : Int, xa = ((q1 + 1 : Nat) : Int) := ⟨_, rfl⟩
                  rw [← hxa] at hsg
                  have o1 : (xa != xa) = false := by simp
                  have HZA : Hid ((1000 * (r : Int) + 500 + (i2 : Int)) = hAt i LH) := Lib.hid ((hAt_redo hi (by have h1 := HLr.out; have h2 := HL0.out; omega)).symm)
                  clear hds hn3 hxa
                  go_wp2_with (first
                    | (go_at_call 26; go_fit (redo_b HK.out.two.l _ hsg.out.1 _ hsg.out.2.1 0 hsg.out.2.2 _ HNX.out); rintro e w3 ⟨v3, rfl, hb⟩; obtain ⟨s3, hk3, ho3, hf3⟩ := HK.out.stepL hb; obtain ⟨A3, c3, hv3, -⟩ := ho3.len; rw [HN3.out] at hv3; subst hv3; have HK3 := Lib.hid hk3; have HO3 := Lib.hid ho3; have HF3 := Lib.hid hf3; clear hb hk3 ho3 hf3)
                    | (go_at_call 26; go_fit (redo_b HK3.out.two.r _ hsg.out.1 _ hsg.out.2.1 0 hsg.out.2.2 _ HNX.out); rintro e w4 ⟨v4, rfl, hb⟩; obtain ⟨t4, hk4, ho4, ho3, hf3⟩ := HK3.out.stepR hb HO3.out HF3.out; obtain ⟨A4, c4, hv4, -⟩ := ho4.len; rw [HN3.out] at hv4; subst hv4; have HK4 := Lib.hid hk4; have HO4 := Lib.hid ho4; have HO3b := Lib.hid ho3; have HF4 := Lib.hid hf3; clear hb hk4 ho4 ho3 hf3)
                    | (go_at_call 27; go_fit (same _ _ _ _ _ _ _ ds ds (OwnD.reads HO3b.out HN3.out.symm) (OwnD.reads HO4.out HN3.out.symm) (by omega)); rintro e w5 ⟨rfl, hb⟩; have HB5 := hb.alloc hb.size (.cells #[.slice A3 n3 c3] 22); have HK5 := Lib.hid (HK4.out.later HB5); have HO5 := Lib.hid (OwnD.below' HO3b.out HB5); have hown := HK5.out.held.own; rw [← HL.out] at hown; have HOWN := Lib.hid hown; clear hb HB5 hown)
                    | (at_builtin; refine wpList_append_s (v := .slice AH LH cH) rfl (.tmp 148) (.tmp 150) _ rfl Tryd.underlying50 hi2 hy0 hy1 hy2 rfl (by omega) rfl HOWN.out rfl (reads_val w5 (.slice A3 n3 c3)) (by intro u hu; simp at hu; subst hu; rfl) (by unfold maxLen; omega) (by omega) ?_; intro v8 w8 ho8 hg8 hb8; obtain ⟨A9, c9, hv9, -⟩ := ho8.form; subst hv9; have hpush := Kp.push HK5.out HO5.out HN3.out HF4.out (1000 * (r : Int) + 500 + (i2 : Int)) (by rw [← HL.out]; exact ho8) hg8 hb8; have HK8 := Lib.hid hpush; clear ho8 hg8 hb8 hpush))
                  clear HK HK3 HO3 HF3 HK4 HO4 HO3b HF4 HK5 HO5 HOWN
                  go_loopg [29] n3 (fun k vj w' => ∃ jj : Nat, vj = .int .i64 jj ∧ jj + k = n3 ∧ Hid (Kp W w' p s3 q t4 (st 20 G (q1 + 1)) (st 20 G (q1 + 1)) M5 M6 (.slice A9 (LH + 1) c9) (hs ++ [⟨A3, n3, c3, (1000 * (r : Int) + 500 + (i2 : Int)), jj⟩])))
                  case atStart => exact ⟨0, rfl, by omega, HK8⟩
                  case round =>
                    clear HK8
                    obtain ⟨jj, rfl, hjk, HKJ⟩ := hrel
                    cases gk with
                    | zero =>
                      have e3 : decide (jj < n3) = false := by simp; omega
                      obtain rfl : jj = n3 := by omega
                      go_wp2
                      go_roundg k2
                      case measure => omega
                      case rel => exact ⟨i2 + 1, by simp, by omega, A9, LH + 1, c9, rfl, s3, t4, _, Lib.hid (by rw [List.length_append, ← HL.out]; rfl), Lib.hid (by have h1 := HLr.out; omega), (by rw [show j + (i2 + 1) = q1 + 1 by omega]; exact HKJ), Lib.hid (AtOk.push HA.out _ (by rw [← HL.out]; exact HZA.out) rfl hn65)⟩
                    | succ k3 =>
                      have hjn : jj < n3 := by omega
                      have e3 : decide (jj < n3) = true := by simp [hjn]
                      obtain ⟨g, off, rfl, ⟨u0, hu0⟩, ⟨u1, hu1⟩, ⟨u2, hu2⟩, hfr⟩ := HKJ.out.room hjn
                      go_wp2
                      go_roundg k3
                      case measure => omega
                      case rel => exact ⟨jj + 1, by simp, by omega, Lib.hid (Kp.mark HKJ.out hjn)⟩
          | succ k2 =>
            as_aux_lemma =>
              have hi : i < kp := by omega
              have e1 : decide (i < kp) = true := by simp [hi]
              obtain ⟨q1, rfl⟩ : ∃ q1, j = q1 + 1 := ⟨j - 1, by omega⟩
              have hjlt : q1 < m := by omega
              have HDL : Hid ((back (G.getD q1 gN).ds).length ≤ 65536) := Lib.hid (by rw [back_len]; exact HGS.out q1 hjlt)
              have hsg : Hid ((st 20 G (q1 + 1)).undoL = back (G.getD q1 gN).ds ∧ (st 20 G (q1 + 1)).undoA LogI.zA = (q1 : Int) ∧ (st 20 G (q1 + 1)).undoE = 0) := Lib.hid (by
                obtain ⟨h1, h2, h3⟩ := undoS (st_undoG 20 G q1 (by rw [HM.out]; exact hjlt) (by rw [HM.out]; have := HKP.out; omega))
                exact ⟨h1, h2.trans (HST.out.ah q1 (by rw [HM.out]; exact hjlt)), h3⟩)
              have HNX : Hid ((st 20 G (q1 + 1)).undo_ = st 20 G (q1)) := Lib.hid (st_undo 20 G q1 (by rw [HM.out]; exact hjlt) (by rw [HM.out]; have := HKP.out; omega))
              obtain ⟨ds, hds⟩ : ∃ ds, ds = back (G.getD q1 gN).ds := ⟨_, rfl⟩
              rw [← hds] at hsg HDL
              obtain ⟨n3, hn3⟩ : ∃ n3, ds.length = n3 := ⟨_, rfl⟩
              have hn65 : n3 ≤ 65536 := by rw [← hn3]; exact HDL.out
              have HN3 := Lib.hid hn3
              have hLH : LH ≤ 200 := by have h1 := HLr.out; have h2 := HB80.out; omega
              obtain ⟨xa, hxa⟩ : ∃ xa : Int, xa = (q1 : Int) := ⟨_, rfl⟩
              rw [← hxa] at hsg
              have o1 : (xa != xa) = false := by simp
              have HZA : Hid ((1000 * (r : Int) + (i : Int)) = hAt kp LH) := Lib.hid ((hAt_undo hi (by have h1 := HLr.out; have h2 := HL0.out; omega)).symm)
              clear hds hn3 hxa
              go_wp2_with (first
                | (go_at_call 25; go_fit (undo_b HK.out.two.l _ hsg.out.1 _ hsg.out.2.1 0 hsg.out.2.2 _ HNX.out); rintro e w3 ⟨v3, rfl, hb⟩; obtain ⟨s3, hk3, ho3, hf3⟩ := HK.out.stepL hb; obtain ⟨A3, c3, hv3, -⟩ := ho3.len; rw [HN3.out] at hv3; subst hv3; have HK3 := Lib.hid hk3; have HO3 := Lib.hid ho3; have HF3 := Lib.hid hf3; clear hb hk3 ho3 hf3)
                | (go_at_call 25; go_fit (undo_b HK3.out.two.r _ hsg.out.1 _ hsg.out.2.1 0 hsg.out.2.2 _ HNX.out); rintro e w4 ⟨v4, rfl, hb⟩; obtain ⟨t4, hk4, ho4, ho3, hf3⟩ := HK3.out.stepR hb HO3.out HF3.out; obtain ⟨A4, c4, hv4, -⟩ := ho4.len; rw [HN3.out] at hv4; subst hv4; have HK4 := Lib.hid hk4; have HO4 := Lib.hid ho4; have HO3b := Lib.hid ho3; have HF4 := Lib.hid hf3; clear hb hk4 ho4 ho3 hf3)
                | (go_at_call 27; go_fit (same _ _ _ _ _ _ _ ds ds (OwnD.reads HO3b.out HN3.out.symm) (OwnD.reads HO4.out HN3.out.symm) (by omega)); rintro e w5 ⟨rfl, hb⟩; have HB5 := hb.alloc hb.size (.cells #[.slice A3 n3 c3] 22); have HK5 := Lib.hid (HK4.out.later HB5); have HO5 := Lib.hid (OwnD.below' HO3b.out HB5); have hown := HK5.out.held.own; rw [← HL.out] at hown; have HOWN := Lib.hid hown; clear hb HB5 hown)
                | (at_builtin; refine wpList_append_s (v := .slice AH LH cH) rfl (.tmp 99) (.tmp 101) _ rfl Tryd.underlying50 hi2 hy0 hy1 hy2 rfl (by omega) rfl HOWN.out rfl (reads_val w5 (.slice A3 n3 c3)) (by intro u hu; simp at hu; subst hu; rfl) (by unfold maxLen; omega) (by omega) ?_; intro v8 w8 ho8 hg8 hb8; obtain ⟨A9, c9, hv9, -⟩ := ho8.form; subst hv9; have hpush := Kp.push HK5.out HO5.out HN3.out HF4.out (1000 * (r : Int) + (i : Int)) (by rw [← HL.out]; exact ho8) hg8 hb8; have HK8 := Lib.hid hpush; clear ho8 hg8 hb8 hpush))
              clear HK HK3 HO3 HF3 HK4 HO4 HO3b HF4 HK5 HO5 HOWN
              go_loopg [21] n3 (fun k vj w' => ∃ jj : Nat, vj = .int .i64 jj ∧ jj + k = n3 ∧ Hid (Kp W w' p s3 q t4 (st 20 G (q1)) (st 20 G (q1)) M5 M6 (.slice A9 (LH + 1) c9) (hs ++ [⟨A3, n3, c3, (1000 * (r : Int) + (i : Int)), jj⟩])))
              case atStart => exact ⟨0, rfl, by omega, HK8⟩
              case round =>
                clear HK8
                obtain ⟨jj, rfl, hjk, HKJ⟩ := hrel
                cases gk with
                | zero =>
                  have e3 : decide (jj < n3) = false := by simp; omega
                  obtain rfl : jj = n3 := by omega
                  go_wp2
                  go_roundg k2
                  case measure => omega
                  case rel => exact ⟨i + 1, by simp, by omega, q1, by omega, A9, LH + 1, c9, rfl, s3, t4, _, Lib.hid (by rw [List.length_append, ← HL.out]; rfl), Lib.hid (by have h1 := HLr.out; omega), HKJ, Lib.hid (AtOk.push HA.out _ (by rw [← HL.out]; exact HZA.out) rfl hn65)⟩
                | succ k3 =>
                  have hjn : jj < n3 := by omega
                  have e3 : decide (jj < n3) = true := by simp [hjn]
                  obtain ⟨g, off, rfl, ⟨u0, hu0⟩, ⟨u1, hu1⟩, ⟨u2, hu2⟩, hfr⟩ := HKJ.out.room hjn
                  go_wp2
                  go_roundg k3
                  case measure => omega
                  case rel => exact ⟨jj + 1, by simp, by omega, Lib.hid (Kp.mark HKJ.out hjn)⟩
end Log
end Go.Proofs.YtkpcnfchhnfpoaaDoor
/- LogKeeps, as its row wants it. -/
set_option linter.unusedVariables false
namespace Go.Proofs.YtkpcnfchhnfpoaaDoor
open Go.RowKit Go.Proofs.YtkpcnfchhnfpoaaDoor.Sep Log
namespace Log
theorem keeps_row (W : World) (A : Option Addr) (l c : Nat) {H : Type} (us : List (GV × DataW H)) (hr : ReadsG W W.heap.size A l (us.map (·.1))) (hc : l ≤ c) (ho : ∀ u ∈ us, gOk W u) (y : l * 24 ≤ reachBytes) (hl : us.length = l) {d : DataW H} (hd : (l = 0 ∧ d = .nil) ∨ ∃ sp, d = .slice (us.map (·.2)) sp) (hb : Rows.uptoBulk d ≤ 1048576) (t : ByteArray) (ht : t.size ≤ 1048576) :
    Calls Tryd.prog 6 #[.slice A l c, .string t] W fun e W' => e = .returned (.bool true) ∧ Below W.heap.size W W' := by
  refine keeps_w W A l c _ t hr ?_
  have h := bulk_groups hl ho hd hb
  unfold tot
  rw [List.length_map]
  omega
end Log
end Go.Proofs.YtkpcnfchhnfpoaaDoor
