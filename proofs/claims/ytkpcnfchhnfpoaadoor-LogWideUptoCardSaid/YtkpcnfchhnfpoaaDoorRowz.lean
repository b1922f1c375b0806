/- Rows of one's own of whatever elements, that may begin anywhere in their block and end ahead of its end. Plain lemmas, no program. -/
import Derived.Test.YtkpcnfchhnfpoaaDoorSep
import Derived.ArgAppend
set_option linter.unusedVariables false
namespace Go.Proofs.YtkpcnfchhnfpoaaDoor.Sep
open Go.RowKit Go.Proofs.YtkpcnfchhnfpoaaDoorW.PrintWords
theorem add_off (g off j : Nat) : (⟨g, off, none⟩ : Addr).add j = ⟨g, off + j, none⟩ := by unfold Addr.add; split <;> simp_all
/-- v is a slice of n elements of type e (sz cells each), which are xs; what lies behind it in its block is one's own too. -/
def OwnS (w : World) (e : TypeId) (sz : Nat) (v : Value) (n : Nat) (xs : List Value) : Prop :=
  xs.length = n * sz ∧ ((v = .slice none 0 0 ∧ n = 0) ∨ ∃ g off cap cur, v = .slice (some ⟨g, off, none⟩) n cap ∧ w.heap[g]? = some (.cells cur e (0, 0)) ∧ n ≤ cap ∧ cap ≤ maxLen ∧ off + cap * sz ≤ cur.size ∧ ∀ j, j < n * sz → cur[off + j]? = xs[j]?)
section
variable {w w' : World} {e : TypeId} {sz n : Nat} {v : Value} {xs : List Value}
theorem OwnS.nil (w : World) (e : TypeId) (sz : Nat) : OwnS w e sz (.slice none 0 0) 0 [] := ⟨by simp, .inl ⟨rfl, rfl⟩⟩
theorem OwnS.lt (h : OwnS w e sz v n xs) : ∀ k, v.ownBlock = some k → k < w.heap.size := by
  intro k hk
  rcases h.2 with ⟨rfl, _⟩ | ⟨g, off, cap, cur, rfl, hh, _⟩
  · simp [Value.ownBlock] at hk
  · have : g = k := by simpa [Value.ownBlock] using hk
    subst this
    exact (Array.getElem?_eq_some_iff.1 hh).1
theorem OwnS.keep (h : OwnS w e sz v n xs) (hk : ∀ k, v.ownBlock = some k → w'.heap[k]? = w.heap[k]?) : OwnS w' e sz v n xs := by
  refine ⟨h.1, ?_⟩
  rcases h.2 with h | ⟨g, off, cap, cur, rfl, hh, r⟩
  · exact .inl h
  · exact .inr ⟨g, off, cap, cur, rfl, (hk g (by simp [Value.ownBlock])).trans hh, r⟩
theorem OwnS.upd {S : Nat → Prop} (h : OwnS w e sz v n xs) (u : Upd S w w') (hn : ∀ k, v.ownBlock = some k → ¬ S k) : OwnS w' e sz v n xs := h.keep fun k hk => u.block k (h.lt k hk) (hn k hk)
theorem OwnS.form (h : OwnS w e sz v n xs) : ∃ A c, v = .slice A n c ∧ n ≤ c := by
  rcases h.2 with ⟨rfl, rfl⟩ | ⟨g, off, cap, cur, rfl, _, hl, _⟩
  · exact ⟨none, 0, rfl, by simp⟩
  · exact ⟨_, _, rfl, hl⟩
theorem OwnS.some_ (h : OwnS w e sz v n xs) (h0 : 0 < n) : ∃ g off c, v = .slice (some ⟨g, off, none⟩) n c ∧ n ≤ c ∧ ∀ j u, xs[j]? = some u → w.cell? ⟨g, off + j, none⟩ = some u := by
  rcases h.2 with ⟨rfl, rfl⟩ | ⟨g, off, cap, cur, rfl, hh, hl, _, _, hc⟩
  · omega
  · refine ⟨g, off, cap, rfl, hl, fun j u hu => ?_⟩
    have hj : j < n * sz := by rw [← h.1]; exact (List.getElem?_eq_some_iff.1 hu).1
    rw [cell_of_row w g (off + j) cur e (0, 0) hh, hc j hj, hu]
theorem OwnS.frozen {g' off c : Nat} (h : OwnS w e sz (.slice (some ⟨g', off, none⟩) n c) n xs) (j : Nat) : w.frozen? ⟨g', j, none⟩ = false := by
  rcases h.2 with ⟨e1, _⟩ | ⟨g, o, cap, cur, e1, hh, _⟩
  · cases e1
  · injection e1 with e2
    injection e2 with e2
    injection e2 with e2
    subst e2
    simp [World.frozen?, hh]
theorem OwnS.reads {A : Option Addr} {c : Nat} (h : OwnS w e sz (.slice A n c) n xs) : Reads w w.heap.size sz A n xs := by
  refine ⟨h.1, fun h0 => ?_⟩
  obtain ⟨g, off, c', hv, _, hc⟩ := h.some_ h0
  have hlt := h.lt
  injection hv with e1
  subst e1
  exact ⟨_, rfl, hlt g (by simp [Value.ownBlock]), fun j u hu => by rw [add_off]; exact hc j u hu⟩
theorem OwnS.ofRow {base : Nat} (h : w.ownsRow base e sz v n xs) : OwnS w e sz v n xs := by
  refine ⟨h.1, ?_⟩
  rcases h.2 with ⟨rfl, h0⟩ | ⟨g, cap, cur, rfl, _, hh, hl, hm, hsz, ht⟩
  · exact .inl ⟨rfl, h0⟩
  · refine .inr ⟨g, 0, cap, cur, rfl, hh, hl, hm, by omega, fun j hj => ?_⟩
    rw [← ht, List.getElem?_take, if_pos hj, Nat.zero_add]
    simp
/-- Its head, its capacity left. -/
theorem OwnS.take {A : Option Addr} {c : Nat} (h : OwnS w e sz (.slice A n c) n xs) (m : Nat) (hm : m ≤ n) : OwnS w e sz (.slice A m c) m (xs.take (m * sz)) := by
  have hmn : m * sz ≤ n * sz := Nat.mul_le_mul_right _ hm
  refine ⟨by rw [List.length_take, h.1]; omega, ?_⟩
  rcases h.2 with ⟨hs, hn⟩ | ⟨g, off, cap, cur, hs, hh, hl, hm2, hsz, hc⟩
  · injection hs with e1 e2 e3
    subst e1; subst e3
    exact .inl ⟨by congr; omega, by omega⟩
  · injection hs with e1 e2 e3
    subst e1; subst e3
    exact .inr ⟨g, off, c, cur, rfl, hh, by omega, hm2, hsz, fun j hj => by rw [hc j (by omega), List.getElem?_take, if_pos hj]⟩
/-- Its head, cut off behind (three-index slice). -/
theorem OwnS.clip {A : Option Addr} {c : Nat} (h : OwnS w e sz (.slice A n c) n xs) (m : Nat) (hm : m ≤ n) : OwnS w e sz (.slice A m m) m (xs.take (m * sz)) := by
  have hmn : m * sz ≤ n * sz := Nat.mul_le_mul_right _ hm
  refine ⟨by rw [List.length_take, h.1]; omega, ?_⟩
  rcases h.2 with ⟨hs, hn⟩ | ⟨g, off, cap, cur, hs, hh, hl, hm2, hsz, hc⟩
  · injection hs with e1 e2 e3
    subst e1; subst e3
    obtain rfl : m = 0 := by omega
    exact .inl ⟨rfl, rfl⟩
  · injection hs with e1 e2 e3
    subst e1; subst e3
    have hmc : m * sz ≤ c * sz := Nat.mul_le_mul_right _ (by omega)
    exact .inr ⟨g, off, m, cur, rfl, hh, Nat.le_refl _, by omega, by omega, fun j hj => by rw [hc j (by omega), List.getElem?_take, if_pos hj]⟩
/-- All but its head. -/
theorem OwnS.tail {g off c : Nat} (h : OwnS w e sz (.slice (some ⟨g, off, none⟩) n c) n xs) (h2 : 2 ≤ n) : OwnS w e sz (.slice (some ⟨g, off + sz, none⟩) (n - 1) (c - 1)) (n - 1) (xs.drop sz) := by
  obtain ⟨k, rfl⟩ : ∃ k, n = k + 1 := ⟨n - 1, by omega⟩
  refine ⟨by rw [List.length_drop, h.1, Nat.add_sub_cancel, Nat.succ_mul]; omega, ?_⟩
  rcases h.2 with ⟨hs, hn⟩ | ⟨g', off', cap, cur, hs, hh, hl, hm2, hsz, hc⟩
  · cases hs
  · injection hs with e1 e2 e3
    injection e1 with e1
    injection e1 with e1 e4
    subst e1; subst e4; subst e3
    obtain ⟨d, rfl⟩ : ∃ d, c = d + 1 := ⟨c - 1, by omega⟩
    rw [Nat.succ_mul] at hsz
    simp only [Nat.add_sub_cancel]
    refine .inr ⟨g, off + sz, d, cur, rfl, hh, by omega, by omega, by omega, fun j hj => ?_⟩
    rw [show off + sz + j = off + (sz + j) by omega, hc (sz + j) (by rw [Nat.succ_mul]; omega), List.getElem?_drop]
theorem OwnS.blk (h : OwnS w e sz v n xs) {k : Nat} (hk : v.ownBlock = some k) : ∃ cs, Blk w k e cs := by
  rcases h.2 with ⟨rfl, _⟩ | ⟨g, off, cap, cur, rfl, hh, _⟩
  · simp [Value.ownBlock] at hk
  · have : g = k := by simpa [Value.ownBlock] using hk
    subst this
    exact ⟨cur, hh⟩
theorem OwnS.ne_blk (h : OwnS w e sz v n xs) {g : Nat} {t : TypeId} {cs : Array Value} (hb : Blk w g t cs) (hne : e ≠ t) : v.ownBlock ≠ some g := by
  intro hk
  obtain ⟨cs', h'⟩ := h.blk hk
  exact Blk.ne_ h' hb hne rfl
theorem OwnS.ne_own {e' : TypeId} {sz' n' : Nat} {v' : Value} {xs' : List Value} (h : OwnS w e sz v n xs) (h' : OwnS w e' sz' v' n' xs') (hne : e ≠ e') {k : Nat} (hk : v.ownBlock = some k) : v'.ownBlock ≠ some k := by
  obtain ⟨cs, hb⟩ := h.blk hk
  exact h'.ne_blk hb (fun e => hne e.symm)
theorem OwnS.new (w : World) (e : TypeId) (sz n : Nat) (xs : List Value) (hl : xs.length = n * sz) (hm : n ≤ maxLen) : OwnS (w.alloc (.cells xs.toArray e)) e sz (.slice (some ⟨w.heap.size, 0, none⟩) n n) n xs :=
  ⟨hl, .inr ⟨w.heap.size, 0, n, xs.toArray, rfl, heap_alloc_new w _, Nat.le_refl _, hm, by simp [hl], fun j hj => by simp⟩⟩
end
section
variable {P : Program} {w : World}
theorem OwnS.app {t ty e : TypeId} {i : TypeInfo} {z : Value} {sz bytes : Nat} (ht : P.underlying t = some (.slice e)) (hi : P.info? e = some i) (hz : i.zero = some z)
    (hsize : i.size = sz) (hby : i.bytes = bytes) (hzs : z.cells.size = sz) (hsz : 0 < sz)
    {v : Value} {n : Nat} {xs : List Value} (h : OwnS w e sz v n xs)
    {B : Nat} {A : Option Addr} {m : Nat} (c : Nat) {news : List Value} (hr : Reads w B sz A m news) (h1 : ∀ u ∈ news, u.oneCell' = true)
    (h63 : n + m ≤ maxLen) (hbytes : (n + m) * bytes ≤ 140737488355328) :
    ∃ v' w', (Builtin.append_ #[t, t] ty #[v, .slice A m c]).run P w = .ok v' w' ∧ OwnS w' e sz v' (n + m) (xs ++ news) ∧ w.grownBy w' v.ownBlock ∧ (v'.ownBlock = v.ownBlock ∨ ∀ k, v'.ownBlock = some k → w.heap.size ≤ k) := by
  rcases h.2 with ⟨rfl, rfl⟩ | ⟨g, off, cap, cur, rfl, hh, hl, hm, hs, hc⟩
  · have hx : xs = [] := List.eq_nil_of_length_eq_zero (by simpa using h.1)
    subst hx
    obtain ⟨v', w', hrun, h2, h3, h4⟩ := run_append_any (P := P) w 0 t ty e i z sz bytes ht hi hz hsize hby hzs hsz (.slice none 0 0) 0 [] ⟨by simp, .inl ⟨rfl, rfl⟩⟩ B A m c news hr h1 h63 hbytes (Nat.zero_le _)
    exact ⟨v', w', hrun, OwnS.ofRow h2, h3, h4.imp id (fun e k hk => by rw [e] at hk; injection hk with hk; omega)⟩
  · rcases Nat.eq_zero_or_pos m with hm0 | hm0
    · subst hm0
      have hn : news = [] := List.eq_nil_of_length_eq_zero (by simpa using hr.1)
      subst hn
      refine ⟨.slice (some ⟨g, off, none⟩) n cap, w, ?_, by simpa using h, World.grownBy.refl w _, .inl rfl⟩
      cases A <;> simp [Builtin.append_, run_underlying ht, sizeOf, typeInfo, hi, Builtin.lenOf, Builtin.firstCells, hl, storeCells, loadCells, loadCellsFrom]
    · obtain ⟨ad, rfl, _, hcell⟩ := hr.2 hm0
      have hl2 : news.length = m * i.size := by rw [hsize]; exact hr.1
      by_cases hroom : n + m ≤ cap
      · have hmul : (n + m) * sz ≤ cap * sz := Nat.mul_le_mul_right _ hroom
        rw [Nat.add_mul] at hmul
        have hrl := hr.1
        have hrun := run_append_room_cells (P := P) w t ty e i ht hi g off n cap ad m c news hl2 hcell h1 hroom
          (fun j hj => by
            rw [hsize, cell_of_row _ g _ cur e (0, 0) hh, Array.getElem?_eq_getElem (by omega)]
            rfl)
          (fun j hj => by simp [World.frozen?, hh])
        rw [hsize] at hrun
        obtain ⟨cur', h4, h5, h6⟩ := setCells_row news (off + n * sz) w cur hh (by omega)
        refine ⟨_, _, hrun, ⟨by rw [List.length_append, h.1, hrl, Nat.add_mul], .inr ⟨g, off, cap, cur', rfl, h4, hroom, hm, by rw [h5]; exact hs, fun j hj => ?_⟩⟩, ?_, .inl (by simp [Value.ownBlock])⟩
        · rw [← Array.getElem?_toList, h6]
          rw [Nat.add_mul] at hj
          have hlen : (cur.toList.take (off + n * sz)).length = off + n * sz := by
            have e1 : cur.toList.length = cur.size := Array.length_toList
            rw [List.length_take, e1]
            omega
          by_cases hjx : j < n * sz
          · rw [List.append_assoc, List.getElem?_append_left (by omega), List.getElem?_take, if_pos (by omega), Array.getElem?_toList, hc j hjx, List.getElem?_append_left (by rw [h.1]; exact hjx)]
          · rw [List.append_assoc, List.getElem?_append_right (by omega), hlen, List.getElem?_append_left (by omega), List.getElem?_append_right (by rw [h.1]; omega), h.1]
            congr 1
            omega
        · obtain ⟨s1, s2, s3, s4⟩ := setCells_same g news (off + n * sz) w
          exact ⟨s1, s2, s3, by rw [s4]; exact Nat.le_refl _, fun k hk hne => setCells_far news (off + n * sz) k (fun e => hne (by rw [e]; simp [Value.ownBlock]))⟩
      · obtain ⟨v', w', hrun, h2, h3⟩ := run_append_arg_grows (P := P) w t ty e i z sz bytes ht hi hz hsize hby hzs hsz ⟨g, off, none⟩ n cap xs h.1
          (fun j u hu => by
            have hj : j < n * sz := by rw [← h.1]; exact (List.getElem?_eq_some_iff.1 hu).1
            rw [add_off, cell_of_row _ g _ cur e (0, 0) hh, hc j hj, hu])
          ad m c news hr.1 hcell (by omega) h63 hbytes
        refine ⟨v', w', hrun, OwnS.ofRow h2, ⟨h3.os, h3.tape, h3.output, h3.size, fun k hk _ => h3.block k hk (by simp)⟩, .inr (own_base h2)⟩
theorem wpList_append_s {ops : Array Oper} {rest : List Oper} {o : Oper} {a : Act} {Q : Exit → Act → World → Prop} (hgd : o.guard = none) (s x : Operand) (t : TypeId)
    (ho : o.op = .call { callee := .builtin .append, args := #[s, x], argTypes := #[t, t] })
    {e : TypeId} {i : TypeInfo} {z : Value} {sz bytes : Nat} (ht : P.underlying t = some (.slice e)) (hi : P.info? e = some i) (hz : i.zero = some z)
    (hsize : i.size = sz) (hby : i.bytes = bytes) (hzs : z.cells.size = sz) (hsz : 0 < sz)
    {v : Value} {n : Nat} {xs : List Value} (hs : a.eval s = v) (h : OwnS w e sz v n xs)
    {B : Nat} {A : Option Addr} {m c : Nat} {news : List Value} (hx : a.eval x = .slice A m c) (hr : Reads w B sz A m news) (h1 : ∀ u ∈ news, u.oneCell' = true)
    (h63 : n + m ≤ maxLen) (hbytes : (n + m) * bytes ≤ 140737488355328)
    (hK : ∀ v' w', OwnS w' e sz v' (n + m) (xs ++ news) → w.grownBy w' v.ownBlock → (v'.ownBlock = v.ownBlock ∨ ∀ k, v'.ownBlock = some k → w.heap.size ≤ k) → wpList P ops Q rest (a.put o.dst v') w') : wpList P ops Q (o :: rest) a w := by
  refine wpList_plain hgd fun K hK' => ?_
  obtain ⟨v', w', hrun, h2, h3, h4⟩ := OwnS.app (ty := o.type) ht hi hz hsize hby hzs hsz h c hr h1 h63 hbytes
  unfold Oper.wp execOp
  simp only [ho, resolve, invoke, builtin, Sem.run_bind, Sem.run_pure, Result.andThen_ok, List.map_toArray, List.map_cons, List.map_nil, hs, hx, hrun]
  exact hK' _ _ (hK v' w' h2 h3 h4)
theorem step_append_s {ops : Array Oper} {o : Oper} {a : Act} {K : Act → World → Prop} {Q : Exit → Act → World → Prop} {E : Prop} (hgd : o.guard = none) (s x : Operand) (t : TypeId)
    (ho : o.op = .call { callee := .builtin .append, args := #[s, x], argTypes := #[t, t] })
    {e : TypeId} {i : TypeInfo} {z : Value} {sz bytes : Nat} (ht : P.underlying t = some (.slice e)) (hi : P.info? e = some i) (hz : i.zero = some z)
    (hsize : i.size = sz) (hby : i.bytes = bytes) (hzs : z.cells.size = sz) (hsz : 0 < sz)
    {v : Value} {n : Nat} {xs : List Value} (hs : a.eval s = v) (h : OwnS w e sz v n xs)
    {B : Nat} {A : Option Addr} {m c : Nat} {news : List Value} (hx : a.eval x = .slice A m c) (hr : Reads w B sz A m news) (h1 : ∀ u ∈ news, u.oneCell' = true)
    (h63 : n + m ≤ maxLen) (hbytes : (n + m) * bytes ≤ 140737488355328)
    (hK : ∀ v' w', OwnS w' e sz v' (n + m) (xs ++ news) → w.grownBy w' v.ownBlock → (v'.ownBlock = v.ownBlock ∨ ∀ k, v'.ownBlock = some k → w.heap.size ≤ k) → K (a.put o.dst v') w') :
    if Region.wanted o (yielded ops a.tmps) = true then Oper.wp P o a w K Q else E := by
  have hw : Region.wanted o (yielded ops a.tmps) = true := by simp [Region.wanted, hgd]
  rw [if_pos hw]
  obtain ⟨v', w', hrun, h2, h3, h4⟩ := OwnS.app (ty := o.type) ht hi hz hsize hby hzs hsz h c hr h1 h63 hbytes
  unfold Oper.wp execOp
  simp only [ho, resolve, invoke, builtin, Sem.run_bind, Sem.run_pure, Result.andThen_ok, List.map_toArray, List.map_cons, List.map_nil, hs, hx, hrun]
  exact hK v' w' h2 h3 h4
end
end Go.Proofs.YtkpcnfchhnfpoaaDoor.Sep
