/- A grid in memory; its down and put. -/
import Derived.Test.YtceomobdolkfgaaDoorED
import Derived.Test.YtceomobdolkfgaaDoorWLast
set_option linter.unusedVariables false
namespace Go.Proofs.YtceomobdolkfgaaDoor
open Go.RowKit Go.Proofs.YtceomobdolkfgaaDoorW.PrintWords Go.Proofs.YtceomobdolkfgaaDoorW.PrintLast Go.Proofs.YtceomobdolkfgaaDoor.Sep Go.Lib
namespace U
/-- A grid: what has been laid, and the pen. -/
structure LG where
  W : Nat
  rows : List Row
  r : Nat
  c : Nat
def LG.down (g : LG) : LG := { g with rows := g.rows ++ [[]], r := g.r + 1, c := 0 }
def LG.add (g : LG) (x : C) : LG := { g with rows := g.rows.set g.r (g.rows.getD g.r [] ++ [x]), c := g.c + 1 }
def LG.put (g : LG) (x : C) : LG := if g.c + 1 = g.W then (g.add x).down else g.add x
def gcells (g : LG) (m : Mem) : Array Value := #[.int .i64 g.W, m.rv, .int .i64 g.r, .int .i64 g.c]
structure GAt (w : World) (p : Nat) (g : LG) (m : Mem) : Prop where
  blk : Blk w p 42 (gcells g m)
  rows : RowsAt w m g.rows
def gfoot (p : Nat) (g : LG) (m : Mem) (k : Nat) : Prop := k = p ∨ m.foot g.rows.length k
/-- What a call has made of a grid. -/
structure GTurned (w w' : World) (p : Nat) (g : LG) (m : Mem) (g' : LG) (m' : Mem) : Prop where
  at_ : GAt w' p g' m'
  upd : Upd (gfoot p g m) w w'
  foot : ∀ k, gfoot p g' m' k → gfoot p g m k ∨ w.heap.size ≤ k
section
variable {w w' w1 w2 wa w8 : World} {p : Nat} {g g' g2 : LG} {m m' m2 : Mem}
theorem GAt.lt (h : GAt w p g m) : ∀ k, gfoot p g m k → k < w.heap.size := by
  rintro k (rfl | hk)
  · exact h.blk.lt
  · exact h.rows.lt k hk
theorem GAt.below (h : GAt w p g m) (hb : Below w.heap.size w w') : GAt w' p g m := ⟨h.blk.keep (hb.block _ h.blk.lt), h.rows.below hb⟩
theorem GAt.upd {S : Nat → Prop} (h : GAt w p g m) (u : Upd S w w') (hS : ∀ k, gfoot p g m k → ¬ S k) : GAt w' p g m := ⟨h.blk.upd u (hS p (.inl rfl)), h.rows.upd u fun k hk => hS k (.inr hk)⟩
theorem GAt.pne (h : GAt w p g m) : ¬ m.foot g.rows.length p := h.rows.ne h.blk (by decide) (by decide)
theorem GAt.keep (h : GAt w p g m) (hk : ∀ k, gfoot p g m k → w'.heap[k]? = w.heap[k]?) : GAt w' p g m := ⟨h.blk.keep (hk p (.inl rfl)), h.rows.keep fun k e => hk k (.inr e)⟩
theorem GTurned.refl (h : GAt w p g m) : GTurned w w p g m g m := ⟨h, Upd.refl _ _, fun k hk => .inl hk⟩
theorem GTurned.trans (h : GTurned w w1 p g m g' m') (k : GTurned w1 w2 p g' m' g2 m2) : GTurned w w2 p g m g2 m2 :=
  ⟨k.at_, h.upd.then_ k.upd h.foot, fun j hj => by
    rcases k.foot j hj with h1 | h1
    · exact h.foot j h1
    · exact .inr (Nat.le_trans h.upd.size h1)⟩
theorem GTurned.below (h : GTurned w w1 p g m g' m') (hb : Below w1.heap.size w1 w2) : GTurned w w2 p g m g' m' :=
  ⟨h.at_.below hb, h.upd.then_ (Upd.below hb No) (fun k hk => hk.elim), h.foot⟩
theorem GTurned.from_below (hb : Below w.heap.size w w1) (h : GTurned w1 w2 p g m g' m') : GTurned w w2 p g m g' m' :=
  ⟨h.at_, (Upd.below hb (gfoot p g m)).then_ h.upd (fun k hk => .inl hk), fun k hk => (h.foot k hk).imp id (fun e => Nat.le_trans hb.size e)⟩
theorem GTurned.top {h' : LG} (h : GAt w p g m) (hr : h'.rows = g.rows) (hu : Upd (fun k => k = p) w w') (hb : Blk w' p 42 (gcells h' m)) : GTurned w w' p g m h' m :=
  ⟨⟨hb, by rw [hr]; exact h.rows.upd hu fun k hk e => by subst e; exact h.pne hk⟩, hu.mono (fun k e => .inl e), fun k hk => .inl (by unfold gfoot at hk ⊢; rw [hr] at hk; exact hk)⟩
/-- A row more, appended. -/
theorem GAt.snoc (h : GAt w p g m) (ha : Below w.heap.size w wa) {v8 : Value} (ho : OwnS w8 33 1 v8 (g.rows.length + 1) (m.vs ++ [.slice none 0 0])) (hg : wa.grownBy w8 m.rv.ownBlock) (hb : v8.ownBlock = m.rv.ownBlock ∨ ∀ k, v8.ownBlock = some k → wa.heap.size ≤ k) :
    GTurned w (w8.setCell ⟨p, 1, none⟩ v8) p g m { g with rows := g.rows ++ [[]] } ⟨v8, m.vs ++ [.slice none 0 0]⟩ := by
  have hlen := h.rows.vlen
  have hu : Upd (fun k => m.rv.ownBlock = some k) w w8 := (Upd.below ha _).then_ (Upd.grown hg (S := fun k => m.rv.ownBlock = some k) (fun k hk => hk)) (fun k hk => .inl hk)
  have hnew : ∀ k, v8.ownBlock = some k → m.rv.ownBlock = some k ∨ w.heap.size ≤ k := fun k hk => by
    rcases hb with e | e
    · exact .inl (by rw [← e]; exact hk)
    · exact .inr (Nat.le_trans ha.size (e k hk))
  have hrow8 : RowsAt w8 ⟨v8, m.vs ++ [.slice none 0 0]⟩ (g.rows ++ [[]]) := by
    refine h.rows.snoc rfl ho (fun i k hi hk => ?_)
    exact hu.block k ((h.rows.row i hi).lt k hk) (h.rows.ne_rv hi hk)
  have hm8 : ∀ k, Mem.foot ⟨v8, m.vs ++ [.slice none 0 0]⟩ (g.rows ++ [[]]).length k → m.foot g.rows.length k ∨ w.heap.size ≤ k := by
    rintro k (hk | ⟨i, hi, hk⟩)
    · exact (hnew k hk).imp .inl id
    · rw [List.length_append] at hi
      by_cases hii : i < g.rows.length
      · rw [v_app_lt _ _ _ _ (by omega)] at hk
        exact .inl (.inr ⟨i, hii, hk⟩)
      · have hie : i = m.vs.length := by simp at hi; omega
        rw [hie, v_app_eq] at hk
        cases hk
  have hp8 : ¬ m.rv.ownBlock = some p := fun e => h.pne (.inl e)
  refine ⟨⟨?_, ?_⟩, ?_, ?_⟩
  · exact Blk.eq_ ((h.blk.upd hu hp8).set_ 1 _) rfl
  · refine hrow8.upd (Upd.setCell (S := fun k => k = p) (p := ⟨p, 1, none⟩) (Upd.refl _ _) (.inl rfl) _) (fun k hk e => ?_)
    subst e
    rcases hm8 k hk with e2 | e2
    · exact h.pne e2
    · have := h.blk.lt
      omega
  · exact Upd.setCell (p := ⟨p, 1, none⟩) (hu.mono (fun k hk => .inr (.inl hk))) (.inl (.inl rfl)) _
  · rintro k (rfl | hk)
    · exact .inl (.inl rfl)
    · rcases hm8 k hk with e2 | e2
      · exact .inl (.inr e2)
      · exact .inr e2
theorem GAt.snoc_top (h : GAt w p g m) (ha : Below w.heap.size w wa) (hg : wa.grownBy w8 m.rv.ownBlock) : w8.frozen? ⟨p, 1, none⟩ = false ∧ w8.cell? ⟨p, 1, none⟩ = some m.rv := by
  have hu : Upd (fun k => m.rv.ownBlock = some k) w w8 := (Upd.below ha _).then_ (Upd.grown hg (S := fun k => m.rv.ownBlock = some k) (fun k hk => hk)) (fun k hk => .inl hk)
  have := h.blk.upd hu (fun e => h.pne (.inl e))
  exact ⟨this.frozen 1, this.cell 1⟩
theorem GAt.putrow {wx : World} {i b off c : Nat} {v' : Value} {r' : Row} (h : GAt w p g m) (hil : i < g.rows.length) (hv : m.rv = .slice (some ⟨b, off, none⟩) g.rows.length c) (hu : Upd (fun k => (m.v i).ownBlock = some k) w wx) (ho : OwnS wx 32 2 v' r'.length (flat r')) (hb : ∀ k, v'.ownBlock = some k → (m.v i).ownBlock = some k ∨ w.heap.size ≤ k) :
    GTurned w (wx.setCell ⟨b, off + i, none⟩ v') p g m { g with rows := g.rows.set i r' } ⟨m.rv, m.vs.set i v'⟩ := by
  have hgo : m.rv.ownBlock = some b := by rw [hv]; simp [Value.ownBlock]
  have hpg : p ≠ b := fun e => h.pne (.inl (by rw [hgo, e]))
  have hft := h.rows.foot_put hil (r' := r') hb
  refine ⟨⟨?_, h.rows.put hil hv hu ho hb⟩, ?_, ?_⟩
  · exact (h.blk.upd hu (fun e => h.pne (.inr ⟨i, hil, e⟩))).far (by show p ≠ b; exact hpg) _
  · exact Upd.setCell (hu.mono (fun k hk => .inr (.inr ⟨i, hil, hk⟩))) (.inl (.inr (.inl hgo))) _
  · rintro k (rfl | hk)
    · exact .inl (.inl rfl)
    · rcases hft k hk with h1 | h1
      · exact .inl (.inr h1)
      · exact .inr h1
theorem GAt.putrow_top {wx : World} {i b off c : Nat} (h : GAt w p g m) (hil : i < g.rows.length) (hv : m.rv = .slice (some ⟨b, off, none⟩) g.rows.length c) (hu : Upd (fun k => (m.v i).ownBlock = some k) w wx) : wx.frozen? ⟨b, off + i, none⟩ = false ∧ wx.cell? ⟨b, off + i, none⟩ = some (m.v i) := by
  have ho := h.rows.own.upd hu (fun k hk e => h.rows.ne_rv hil e hk)
  rw [hv] at ho
  obtain ⟨g', o', c', e', -, -, hcell, hfz⟩ := own_cell ho (by omega)
  injection e' with e1 _ _
  injection e1 with e1
  injection e1 with e1 e2
  subst e1 e2
  refine ⟨hfz _, hcell i (m.v i) ?_⟩
  have := h.rows.vlen
  unfold Mem.v
  rw [List.getD_eq_getElem?_getD, List.getElem?_eq_getElem (by omega)]
  rfl
theorem put_step {V v8 : Value} {q : Row} {x : C} {wb : World} (hb : Below w.heap.size w wb) (hg8 : wb.grownBy w8 V.ownBlock) (hb8 : v8.ownBlock = V.ownBlock ∨ ∀ k, v8.ownBlock = some k → wb.heap.size ≤ k) (ho8 : OwnS w8 32 2 v8 (q.length + 1) (flat q ++ [.string x.1, .int .i64 x.2])) :
    Upd (fun k => V.ownBlock = some k) w w8 ∧ (∀ k, v8.ownBlock = some k → V.ownBlock = some k ∨ w.heap.size ≤ k) ∧ OwnS w8 32 2 v8 (q ++ [x]).length (flat (q ++ [x])) := by
  refine ⟨(Upd.below hb _).then_ (Upd.grown hg8 (S := fun k => V.ownBlock = some k) (fun k hk => hk)) (fun k hk => .inl hk), fun k hk => ?_, ?_⟩
  · rcases hb8 with e | e
    · exact .inl (by rw [← e]; exact hk)
    · exact .inr (Nat.le_trans hb.size (e k hk))
  · rw [flat_app, List.length_append]
    exact ho8
theorem gdr {w w' : World} {row : Option Nat} (h : w.drew.drew.grownBy w' row) : w.grownBy w' row := ⟨h.os, h.tape, h.output, h.size, h.block⟩
theorem gdr1 {w w' : World} {row : Option Nat} (h : w.drew.grownBy w' row) : w.grownBy w' row := ⟨h.os, h.tape, h.output, h.size, h.block⟩
theorem GAt.put_keep {x : C} {W1 : World} {o : Obj} {i : Nat} (h : GAt w p g m) (hil : i < g.rows.length) (hW : w.alloc (.cells #[.string x.1, .int .i64 x.2] 32) = W1) (hg : (W1.alloc o).grownBy w8 (m.v i).ownBlock) :
    w8.cell? ⟨p, 1, none⟩ = some m.rv ∧ w8.cell? ⟨p, 2, none⟩ = some (.int .i64 g.r) ∧ w8.cell? ⟨w.heap.size, 0, none⟩ = some (.string x.1) ∧ w8.cell? ⟨w.heap.size, 1, none⟩ = some (.int .i64 x.2) := by
  have hu : Upd (fun k => (m.v i).ownBlock = some k) W1 w8 := (Upd.below (below_one W1 o) _).then_ (Upd.grown hg (S := fun k => (m.v i).ownBlock = some k) (fun k hk => hk)) (fun k hk => .inl hk)
  have h1 : GAt W1 p g m := h.below (by rw [← hW]; exact below_one _ _)
  have hX : Blk W1 w.heap.size 32 #[.string x.1, .int .i64 x.2] := by rw [← hW]; exact Blk.new _ _ _
  have hb := h1.blk.upd hu (fun e => h.pne (.inr ⟨i, hil, e⟩))
  have hx := hX.upd hu (fun e => by have := (h.rows.row i hil).lt _ e; omega)
  exact ⟨hb.cell 1, hb.cell 2, hx.cell 0, hx.cell 1⟩
theorem gcol_turn (h : GAt w p g m) (c : Nat) : GTurned w (w.setCell ⟨p, 3, none⟩ (.int .i64 c)) p g m { g with c := c } m :=
  GTurned.top h rfl ((Upd.refl (fun k => k = p) w).setCell (p := ⟨p, 3, none⟩) (.inl rfl) _) (Blk.eq_ (h.blk.set_ 3 (.int .i64 c)) rfl)
theorem gpen_turn (h : GAt w p g m) (r c : Nat) : GTurned w ((w.setCell ⟨p, 2, none⟩ (.int .i64 r)).setCell ⟨p, 3, none⟩ (.int .i64 c)) p g m { g with r := r, c := c } m :=
  GTurned.top h rfl (((Upd.refl (fun k => k = p) w).setCell (p := ⟨p, 2, none⟩) (.inl rfl) _).setCell (p := ⟨p, 3, none⟩) (.inl rfl) _) (Blk.eq_ ((h.blk.set_ 2 (.int .i64 r)).set_ 3 (.int .i64 c)) rfl)
end
section
variable {w w' : World} {p : Nat} {g : LG} {m : Mem}
set_option maxHeartbeats 4000000
set_option maxRecDepth 100000
theorem gheld_ (n : Int) (w : World) : Calls Tryd.prog 44 #[.int .i64 n] w fun e w' => e = .returned (.int .i64 (min (max n 1) 65535)) ∧ w' = w := by
  go_enter Tryd.func44, Tryd.ntmps44
  go_wp2
  go_ret
  exact ⟨rfl, rfl⟩
theorem gdown_ (h : GAt w p g m) (hl : g.rows.length ≤ 1073741824) (hr : g.r ≤ 1073741824) : Calls Tryd.prog 29 #[.pointer (some ⟨p, 0, none⟩)] w fun e w' => e = .returned (.tuple #[]) ∧ ∃ m', GTurned w w' p g m g.down m' := by
  have c0 : w.cell? ⟨p, 0, none⟩ = some (.int .i64 g.W) := h.blk.cell 0
  have c1 : w.cell? ⟨p, 1, none⟩ = some m.rv := h.blk.cell 1
  have c2 : w.cell? ⟨p, 2, none⟩ = some (.int .i64 g.r) := h.blk.cell 2
  have c3 : w.cell? ⟨p, 3, none⟩ = some (.int .i64 g.c) := h.blk.cell 3
  have cf : ∀ j, w.frozen? ⟨p, j, none⟩ = false := fun j => h.blk.frozen j
  obtain ⟨A1, cap1, hv1, hc1⟩ := h.rows.own.form
  have HP := Lib.hid h
  have HV1 := Lib.hid hv1
  rw [hv1] at c1
  obtain ⟨i0, hi0, hz0, hz1, hz2⟩ := info_parts info_row
  have mx1 : g.rows.length + 1 ≤ maxLen := by unfold maxLen; omega
  have mx2 : (g.rows.length + 1) * 24 ≤ 140737488355328 := by omega
  have hone1 : ∀ u ∈ [Value.slice none 0 0], u.oneCell' = true := by intro u hu; simp at hu; subst hu; rfl
  have hbx := (Below.refl w.heap.size w).alloc (Nat.le_refl _) (.cells #[.slice none 0 0] 33)
  have hrd := (OwnS.new w 33 1 1 [.slice none 0 0] rfl (by unfold maxLen; omega)).reads
  have hown := (hv1 ▸ h.rows.own).keep (w' := w.alloc (.cells #[.slice none 0 0] 33)) (fun k hk => hbx.block k (h.rows.own.lt k (by rw [hv1]; exact hk)))
  have HBX := Lib.hid hbx
  clear h hv1 hbx
  go_enter Tryd.func29, Tryd.ntmps29
  go_wp2_with (at_builtin; go_loud (refine wpList_append_s (v := .slice A1 g.rows.length cap1) rfl (.tmp 6) (.tmp 7) _ rfl Tryd.underlying24 hi0 hz0 hz1 hz2 rfl (by omega) rfl hown rfl hrd hone1 mx1 mx2 ?_; intro v8 w8 ho8 hg8 hb8; obtain ⟨A8, c8, rfl, -⟩ := ho8.form; have ht8 := HP.out.snoc HBX.out (by exact ho8) (by rw [HV1.out]; exact hg8) (by rw [HV1.out]; exact hb8); obtain ⟨pf8, pc8⟩ := GAt.snoc_top HP.out HBX.out (by rw [HV1.out]; exact hg8); have r2 : (w8.setCell ⟨p, 1, none⟩ (.slice A8 (g.rows.length + 1) c8)).cell? ⟨p, 2, none⟩ = some (.int .i64 g.r) := ht8.at_.blk.cell 2; have rf : ∀ j, (w8.setCell ⟨p, 1, none⟩ (.slice A8 (g.rows.length + 1) c8)).frozen? ⟨p, j, none⟩ = false := (fun j => ht8.at_.blk.frozen j); have r3 : (w8.setCell ⟨p, 1, none⟩ (.slice A8 (g.rows.length + 1) c8)).cell? ⟨p, 3, none⟩ = some (.int .i64 g.c) := ht8.at_.blk.cell 3; have HT8 := Lib.hid ht8; clear ho8 hg8 hb8 ht8))
  go_returns
  have ht9 := gpen_turn HT8.out.at_ (g.r + 1) 0
  rw [show (((g.r + 1 : Nat)) : Int) = (g.r : Int) + 1 from by omega, show ((0 : Nat) : Int) = 0 from rfl] at ht9
  refine ⟨rfl, ⟨.slice A8 (g.rows.length + 1) c8, m.vs ++ [Value.slice none 0 0]⟩, ?_⟩
  exact HT8.out.trans ht9
/-- One cell more in the pen's row. -/
theorem gput_ (h : GAt w p g m) (x : C) (hl : g.rows.length ≤ 1073741824) (hr : g.r < g.rows.length) (hc : (g.rows.getD g.r []).length ≤ 65535) (hcc : g.c ≤ 65535) (hw : g.W ≤ 65535) : Calls Tryd.prog 30 #[.pointer (some ⟨p, 0, none⟩), .agg #[.string x.1, .int .i64 x.2]] w fun e w' => e = .returned (.tuple #[]) ∧ ∃ m', GTurned w w' p g m (g.put x) m' := by
  obtain ⟨W1, hW1⟩ : ∃ W1, w.alloc (.cells #[.string x.1, .int .i64 x.2] 32) = W1 := ⟨_, rfl⟩
  have hb0 : Below w.heap.size w W1 := by rw [← hW1]; exact below_one _ _
  have hX : Blk W1 w.heap.size 32 #[.string x.1, .int .i64 x.2] := by rw [← hW1]; exact Blk.new _ _ _
  have h1 := h.below hb0
  have c0 : W1.cell? ⟨p, 0, none⟩ = some (.int .i64 g.W) := h1.blk.cell 0
  have c2 : W1.cell? ⟨p, 2, none⟩ = some (.int .i64 g.r) := h1.blk.cell 2
  have c3 : W1.cell? ⟨p, 3, none⟩ = some (.int .i64 g.c) := h1.blk.cell 3
  have cf : ∀ j, W1.frozen? ⟨p, j, none⟩ = false := fun j => h1.blk.frozen j
  obtain ⟨b, off, cap, hv, hg, hcg, hcell, hfz⟩ := own_cell h1.rows.own (show 0 < g.rows.length by omega)
  have c1 : W1.cell? ⟨p, 1, none⟩ = some (.slice (some ⟨b, off, none⟩) g.rows.length cap) := by rw [← hv]; exact h1.blk.cell 1
  have r0 := hcell g.r (m.v g.r) (by unfold Mem.v; rw [List.getD_eq_getElem?_getD, List.getElem?_eq_getElem (by have := h1.rows.vlen; exact (show g.r < m.vs.length by rw [this]; exact hr))]; rfl)
  have horow := h1.rows.row g.r hr
  obtain ⟨q, hq⟩ : ∃ q, g.rows.getD g.r [] = q := ⟨_, rfl⟩
  rw [hq] at horow hc
  obtain ⟨V, hV⟩ : ∃ V, m.v g.r = V := ⟨_, rfl⟩
  rw [hV] at horow r0
  obtain ⟨A6, c6, hV6, hc6⟩ := horow.form
  rw [hV6] at horow r0
  have x0 := Blk.cell hX 0
  have x1 := Blk.cell hX 1
  have hri : (g.r : Int) < (g.rows.length : Int) := by omega
  have HA := Lib.hid h
  have HB0 := Lib.hid hb0
  have HA1 := Lib.hid h1
  have HQ := Lib.hid hq
  have HV := Lib.hid hV
  have HVR := Lib.hid hv
  have HV6 := Lib.hid hV6
  have HOR := Lib.hid horow
  clear h h1 hq hV hv hV6 horow hcell hX hb0
  go_enter Tryd.func30, Tryd.ntmps30
  go_wp2
  have hbx := HB0.out.alloc HB0.out.size (.cells #[.string x.1, .int .i64 x.2] 32)
  have HBX := Lib.hid hbx
  have hbx2 := (Below.refl W1.heap.size W1).alloc (Nat.le_refl _) (.cells #[.string x.1, .int .i64 x.2] 32)
  have HRD := Lib.hid (OwnS.new W1 32 2 1 [.string x.1, .int .i64 x.2] rfl (by unfold maxLen; omega)).reads
  have HOW := Lib.hid (HOR.out.keep (w' := W1.alloc (.cells #[.string x.1, .int .i64 x.2] 32)) (fun k hk => hbx2.block k (HOR.out.lt k hk)))
  obtain ⟨i0, hi0, hz0, hz1, hz2⟩ := info_parts info_cell
  have HON : Hid (∀ u ∈ [Value.string x.1, Value.int .i64 x.2], u.oneCell' = true) := Lib.hid (by intro u hu; simp at hu; rcases hu with rfl | rfl <;> rfl)
  have hx2 := fun (a : Addr) (h : a.block < W1.heap.size) => hbx2.cell (p := a) h
  have hpl := HA1.out.blk.lt
  have hwl : w.heap.size < W1.heap.size := by rw [← hW1]; simp
  have c1' := (hx2 ⟨p, 1, none⟩ hpl).trans c1
  have c2' := (hx2 ⟨p, 2, none⟩ hpl).trans c2
  have r0' := (hx2 ⟨b, off + g.r, none⟩ hg).trans r0
  have x0' := (hx2 ⟨w.heap.size, 0, none⟩ hwl).trans x0
  have x1' := (hx2 ⟨w.heap.size, 1, none⟩ hwl).trans x1
  have HK := Lib.hid (fun (w8 : World) (hg : (W1.alloc (.cells #[.string x.1, .int .i64 x.2] 32)).grownBy w8 (m.v g.r).ownBlock) => GAt.put_keep HA.out hr hW1 hg)
  clear hbx hbx2 hx2
  have HRR := Lib.hid hr
  have mx1 : q.length + 1 ≤ maxLen := by unfold maxLen; omega
  have mx2 : (q.length + 1) * 24 ≤ 140737488355328 := by omega
  -- REGION BEGIN
  refine start_ (n := 25) (S := fun w' => w'.cell? ⟨p, 1, none⟩ = some (.slice (some ⟨b, off, none⟩) g.rows.length cap) ∧ w'.cell? ⟨p, 2, none⟩ = some (.int .i64 g.r) ∧ w'.cell? ⟨b, off + g.r, none⟩ = some (.slice A6 q.length c6) ∧ w'.cell? ⟨w.heap.size, 0, none⟩ = some (.string x.1) ∧ w'.cell? ⟨w.heap.size, 1, none⟩ = some (.int .i64 x.2)) (ds := [24]) #[false, false, false, false, false, false, false, false, false, false, false, false, false, false, false, false, false, false, false, false, false, false, false, false, false] (by kernel_rfl) rfl rfl ⟨c1, c2, r0, x0, x1⟩ (fun hHeld => ?_)
  refine pure_ (i := 0) (N := some 4) (v := ?_) (a' := ?_) #[true, false, false, false, false, false, false, false, false, false, false, false, false, false, false, false, false, false, false, false, false, false, false, false, false] rfl rfl (by kernel_rfl) (fun _ _ _ h => h) (Or.inl ⟨by rfl, ?_⟩) ?_ ?_
  rotate_left
  · intro w'
    go_simp
    with_reducible rfl
  rotate_left
  · simp only [Act.put, List.setIfInBounds_toArray, List.set_cons_zero, List.set_cons_succ, i64_w, i32_w]
    rfl
  refine pure_ (i := 1) (N := some 5) (v := ?_) (a' := ?_) #[true, true, false, false, false, false, false, false, false, false, false, false, false, false, false, false, false, false, false, false, false, false, false, false, false] rfl rfl (by kernel_rfl) (fun _ _ _ h => h) (Or.inl ⟨by rfl, ?_⟩) ?_ ?_
  rotate_left
  · intro w'
    go_simp
    with_reducible rfl
  rotate_left
  · simp only [Act.put, List.setIfInBounds_toArray, List.set_cons_zero, List.set_cons_succ, i64_w, i32_w]
    rfl
  refine pure_ (i := 2) (N := some 6) (v := ?_) (a' := ?_) #[true, true, true, false, false, false, false, false, false, false, false, false, false, false, false, false, false, false, false, false, false, false, false, false, false] rfl rfl (by kernel_rfl) (fun _ _ _ h => h) (Or.inl ⟨by rfl, ?_⟩) ?_ ?_
  rotate_left
  · intro w'
    go_simp
    with_reducible rfl
  rotate_left
  · simp only [Act.put, List.setIfInBounds_toArray, List.set_cons_zero, List.set_cons_succ, i64_w, i32_w]
    rfl
  refine pure_ (i := 4) (N := some 8) (v := ?_) (a' := ?_) #[true, true, true, false, true, false, false, false, false, false, false, false, false, false, false, false, false, false, false, false, false, false, false, false, false] rfl rfl (by kernel_rfl) (fun _ _ _ h => h) (Or.inl ⟨by rfl, ?_⟩) ?_ ?_
  rotate_left
  · intro w'
    go_simp
    with_reducible rfl
  rotate_left
  · simp only [Act.put, List.setIfInBounds_toArray, List.set_cons_zero, List.set_cons_succ, i64_w, i32_w]
    rfl
  refine pure_ (i := 5) (N := some 9) (v := ?_) (a' := ?_) #[true, true, true, false, true, true, false, false, false, false, false, false, false, false, false, false, false, false, false, false, false, false, false, false, false] rfl rfl (by kernel_rfl) (fun _ _ _ h => h) (Or.inl ⟨by rfl, ?_⟩) ?_ ?_
  rotate_left
  · intro w'
    go_simp
    with_reducible rfl
  rotate_left
  · simp only [Act.put, List.setIfInBounds_toArray, List.set_cons_zero, List.set_cons_succ, i64_w, i32_w]
    rfl
  refine pure_ (i := 6) (N := some 10) (v := ?_) (a' := ?_) #[true, true, true, false, true, true, true, false, false, false, false, false, false, false, false, false, false, false, false, false, false, false, false, false, false] rfl rfl (by kernel_rfl) (fun _ _ _ h => h) (Or.inl ⟨by rfl, ?_⟩) ?_ ?_
  rotate_left
  · intro w'
    go_simp
    with_reducible rfl
  rotate_left
  · simp only [Act.put, List.setIfInBounds_toArray, List.set_cons_zero, List.set_cons_succ, i64_w, i32_w]
    rfl
  refine pure_ (i := 7) (N := some 11) (v := ?_) (a' := ?_) #[true, true, true, false, true, true, true, true, false, false, false, false, false, false, false, false, false, false, false, false, false, false, false, false, false] rfl rfl (by kernel_rfl) (fun _ _ _ h => h) (Or.inl ⟨by rfl, ?_⟩) ?_ ?_
  rotate_left
  · intro w'
    go_simp
    with_reducible rfl
  rotate_left
  · simp only [Act.put, List.setIfInBounds_toArray, List.set_cons_zero, List.set_cons_succ, i64_w, i32_w]
    rfl
  refine pure_ (i := 9) (N := some 13) (v := ?_) (a' := ?_) #[true, true, true, false, true, true, true, true, false, true, false, false, false, false, false, false, false, false, false, false, false, false, false, false, false] rfl rfl (by kernel_rfl) (fun _ _ _ h => h) (Or.inl ⟨by rfl, ?_⟩) ?_ ?_
  rotate_left
  · intro w'
    go_simp
    with_reducible rfl
  rotate_left
  · simp only [Act.put, List.setIfInBounds_toArray, List.set_cons_zero, List.set_cons_succ, i64_w, i32_w]
    rfl
  refine pure_ (i := 10) (N := some 14) (v := ?_) (a' := ?_) #[true, true, true, false, true, true, true, true, false, true, true, false, false, false, false, false, false, false, false, false, false, false, false, false, false] rfl rfl (by kernel_rfl) (fun _ _ _ h => h) (Or.inl ⟨by rfl, ?_⟩) ?_ ?_
  rotate_left
  · intro w'
    go_simp
    with_reducible rfl
  rotate_left
  · simp only [Act.put, List.setIfInBounds_toArray, List.set_cons_zero, List.set_cons_succ, i64_w, i32_w]
    rfl
  refine pure_ (i := 11) (N := some 15) (v := ?_) (a' := ?_) #[true, true, true, false, true, true, true, true, false, true, true, true, false, false, false, false, false, false, false, false, false, false, false, false, false] rfl rfl (by kernel_rfl) (fun _ _ _ h => h) (Or.inl ⟨by rfl, ?_⟩) ?_ ?_
  rotate_left
  · intro w'
    go_simp
    with_reducible rfl
  rotate_left
  · simp only [Act.put, List.setIfInBounds_toArray, List.set_cons_zero, List.set_cons_succ, i64_w, i32_w]
    rfl
  refine pure_ (i := 13) (N := some 17) (v := ?_) (a' := ?_) #[true, true, true, false, true, true, true, true, false, true, true, true, false, true, false, false, false, false, false, false, false, false, false, false, false] rfl rfl (by kernel_rfl) (fun _ _ _ h => h) (Or.inl ⟨by rfl, ?_⟩) ?_ ?_
  rotate_left
  · intro w'
    go_simp
    with_reducible rfl
  rotate_left
  · simp only [Act.put, List.setIfInBounds_toArray, List.set_cons_zero, List.set_cons_succ, i64_w, i32_w]
    rfl
  refine pure_ (i := 14) (N := some 18) (v := ?_) (a' := ?_) #[true, true, true, false, true, true, true, true, false, true, true, true, false, true, true, false, false, false, false, false, false, false, false, false, false] rfl rfl (by kernel_rfl) (fun _ _ _ h => h) (Or.inl ⟨by rfl, ?_⟩) ?_ ?_
  rotate_left
  · intro w'
    go_simp
    with_reducible rfl
  rotate_left
  · simp only [Act.put, List.setIfInBounds_toArray, List.set_cons_zero, List.set_cons_succ, i64_w, i32_w]
    rfl
  refine pure_ (i := 15) (N := some 19) (v := ?_) (a' := ?_) #[true, true, true, false, true, true, true, true, false, true, true, true, false, true, true, true, false, false, false, false, false, false, false, false, false] rfl rfl (by kernel_rfl) (fun _ _ _ h => h) (Or.inl ⟨by rfl, ?_⟩) ?_ ?_
  rotate_left
  · intro w'
    go_simp
    with_reducible rfl
  rotate_left
  · simp only [Act.put, List.setIfInBounds_toArray, List.set_cons_zero, List.set_cons_succ, i64_w, i32_w]
    rfl
  refine pure_ (i := 16) (N := some 20) (v := ?_) (a' := ?_) #[true, true, true, false, true, true, true, true, false, true, true, true, false, true, true, true, true, false, false, false, false, false, false, false, false] rfl rfl (by kernel_rfl) (fun _ _ _ h => h) (Or.inl ⟨by rfl, ?_⟩) ?_ ?_
  rotate_left
  · intro w'
    go_simp
    with_reducible rfl
  rotate_left
  · simp only [Act.put, List.setIfInBounds_toArray, List.set_cons_zero, List.set_cons_succ, i64_w, i32_w]
    rfl
  refine take_ (i := 3) (N := some 7) (v := ?_) (a' := ?_) #[true, true, true, true, true, true, true, true, false, true, true, true, false, true, true, true, true, false, false, false, false, false, false, false, false] rfl rfl (by kernel_rfl) (fun _ _ _ h => h) (Or.inl ⟨by rfl, ?_⟩) hHeld ?_ ?_
  rotate_left
  · rintro w' ⟨s0, s1, s2, s3, s4⟩
    go_simp
    with_reducible rfl
  rotate_left
  · simp only [Act.put, List.setIfInBounds_toArray, List.set_cons_zero, List.set_cons_succ, i64_w, i32_w]
    rfl
  refine take_ (i := 8) (N := some 12) (v := ?_) (a' := ?_) #[true, true, true, true, true, true, true, true, true, true, true, true, false, true, true, true, true, false, false, false, false, false, false, false, false] rfl rfl (by kernel_rfl) (fun _ _ _ h => h) (Or.inl ⟨by rfl, ?_⟩) hHeld ?_ ?_
  rotate_left
  · rintro w' ⟨s0, s1, s2, s3, s4⟩
    go_simp
    with_reducible rfl
  rotate_left
  · simp only [Act.put, List.setIfInBounds_toArray, List.set_cons_zero, List.set_cons_succ, i64_w, i32_w]
    rfl
  refine take_ (i := 12) (N := some 16) (v := ?_) (a' := ?_) #[true, true, true, true, true, true, true, true, true, true, true, true, true, true, true, true, true, false, false, false, false, false, false, false, false] rfl rfl (by kernel_rfl) (fun _ _ _ h => h) (Or.inl ⟨by rfl, ?_⟩) hHeld ?_ ?_
  rotate_left
  · rintro w' ⟨s0, s1, s2, s3, s4⟩
    go_simp
    with_reducible rfl
  rotate_left
  · simp only [Act.put, List.setIfInBounds_toArray, List.set_cons_zero, List.set_cons_succ, i64_w, i32_w]
    rfl
  refine take_ (i := 17) (N := some 21) (v := ?_) (a' := ?_) #[true, true, true, true, true, true, true, true, true, true, true, true, true, true, true, true, true, true, false, false, false, false, false, false, false] rfl rfl (by kernel_rfl) (fun _ _ _ h => h) (Or.inl ⟨by rfl, ?_⟩) hHeld ?_ ?_
  rotate_left
  · rintro w' ⟨s0, s1, s2, s3, s4⟩
    go_simp
    with_reducible rfl
  rotate_left
  · simp only [Act.put, List.setIfInBounds_toArray, List.set_cons_zero, List.set_cons_succ, i64_w, i32_w]
    rfl
  refine pure_ (i := 18) (N := some 22) (v := ?_) (a' := ?_) #[true, true, true, true, true, true, true, true, true, true, true, true, true, true, true, true, true, true, true, false, false, false, false, false, false] rfl rfl (by kernel_rfl) (fun _ _ _ h => h) (Or.inl ⟨by rfl, ?_⟩) ?_ ?_
  rotate_left
  · intro w'
    go_simp
    with_reducible rfl
  rotate_left
  · simp only [Act.put, List.setIfInBounds_toArray, List.set_cons_zero, List.set_cons_succ, i64_w, i32_w]
    rfl
  refine take_ (i := 19) (N := some 23) (v := ?_) (a' := ?_) #[true, true, true, true, true, true, true, true, true, true, true, true, true, true, true, true, true, true, true, true, false, false, false, false, false] rfl rfl (by kernel_rfl) (fun _ _ _ h => h) (Or.inl ⟨by rfl, ?_⟩) hHeld ?_ ?_
  rotate_left
  · rintro w' ⟨s0, s1, s2, s3, s4⟩
    go_simp
    with_reducible rfl
  rotate_left
  · simp only [Act.put, List.setIfInBounds_toArray, List.set_cons_zero, List.set_cons_succ, i64_w, i32_w]
    rfl
  refine take_ (i := 20) (N := some 24) (v := ?_) (a' := ?_) #[true, true, true, true, true, true, true, true, true, true, true, true, true, true, true, true, true, true, true, true, true, false, false, false, false] rfl rfl (by kernel_rfl) (fun _ _ _ h => h) (Or.inl ⟨by rfl, ?_⟩) hHeld ?_ ?_
  rotate_left
  · rintro w' ⟨s0, s1, s2, s3, s4⟩
    go_simp
    with_reducible rfl
  rotate_left
  · simp only [Act.put, List.setIfInBounds_toArray, List.set_cons_zero, List.set_cons_succ, i64_w, i32_w]
    rfl
  refine Go.Proofs.YtceomobdolkfgaaDoorW.PrintLast.one_ (i := 21) (N := some 25) #[true, true, true, true, true, true, true, true, true, true, true, true, true, true, true, true, true, true, true, true, true, true, false, false, false] rfl rfl (by kernel_rfl) (by decide) (fun K hK => ?_)
  refine value_ (w1 := ?_) (v := ?_) (by rfl) rfl ?_ ?_
  rotate_left 2
  · go_simp
    constructor
    · rfl
    · rfl
  refine hK.out _ _ ⟨c1', c2', r0', x0', x1'⟩ (fun hHeld => ?_)
  clear hK K
  refine norm_ (a' := ?_) ?_ ?_
  rotate_left
  · show Act.put _ (some 25) _ = _
    simp only [Act.put, List.setIfInBounds_toArray, List.set_cons_zero, List.set_cons_succ, i64_w, i32_w]
    rfl
  refine Go.Proofs.YtceomobdolkfgaaDoorW.PrintLast.one_ (i := 22) (N := some 26) #[true, true, true, true, true, true, true, true, true, true, true, true, true, true, true, true, true, true, true, true, true, true, true, false, false] rfl rfl (by kernel_rfl) (by decide) (fun K hK => ?_)
  refine step_append_s (v := .slice A6 q.length c6) (by rfl) _ _ _ (by rfl) (by exact Tryd.underlying33) (by exact hi0) (by exact hz0) (by exact hz1) (by exact hz2) (by rfl) (by decide) (by rfl) (by exact HOW.out) (by rfl) (by exact HRD.out) (by exact HON.out) (by exact mx1) (by exact mx2) ?_
  intro v8 w8 ho8 hg8 hb8
  have hg9 : (W1.alloc (.cells #[.string x.1, .int .i64 x.2] 32)).grownBy w8 (Value.slice A6 q.length c6).ownBlock := by first | exact gdr1 hg8 | exact gdr hg8
  obtain ⟨A8, c8, rfl, -⟩ := ho8.form
  obtain ⟨hu8, hob8, ho9⟩ := put_step (x := x) HBX.out hg9 hb8 ho8
  rw [← HV6.out, ← HV.out] at hu8
  have hob9 : ∀ k, (Value.slice A8 (q.length + 1) c8).ownBlock = some k → (m.v g.r).ownBlock = some k ∨ w.heap.size ≤ k := by rw [HV.out, HV6.out]; exact hob8
  obtain ⟨bf, bc⟩ := GAt.putrow_top HA.out HRR.out HVR.out hu8
  rw [HV.out, HV6.out] at bc
  have ht8 := GAt.putrow HA.out HRR.out HVR.out hu8 ho9 hob9
  have t3 : (w8.setCell ⟨b, off + g.r, none⟩ (.slice A8 (q.length + 1) c8)).cell? ⟨p, 3, none⟩ = some (.int .i64 g.c) := ht8.at_.blk.cell 3
  have t0 : (w8.setCell ⟨b, off + g.r, none⟩ (.slice A8 (q.length + 1) c8)).cell? ⟨p, 0, none⟩ = some (.int .i64 g.W) := ht8.at_.blk.cell 0
  have tf : ∀ j, (w8.setCell ⟨b, off + g.r, none⟩ (.slice A8 (q.length + 1) c8)).frozen? ⟨p, j, none⟩ = false := fun j => ht8.at_.blk.frozen j
  have HT8 := Lib.hid ht8
  have k0 := HK.out w8 (by rw [HV.out, HV6.out]; exact hg9)
  rw [HVR.out] at k0
  have k1 := k0.1
  have k2 := k0.2.1
  have k3 := k0.2.2.1
  have k4 := k0.2.2.2
  clear k0 ho8 hg8 hg9 hb8 hu8 hob8 ho9 hob9 ht8
  refine hK.out _ _ ⟨k1, k2, bc, k3, k4⟩ (fun hHeld => ?_)
  clear hK K
  refine norm_ (a' := ?_) ?_ ?_
  rotate_left
  · show Act.put _ (some 26) _ = _
    simp only [Act.put, List.setIfInBounds_toArray, List.set_cons_zero, List.set_cons_succ, i64_w, i32_w]
    rfl
  refine pure_ (i := 23) (N := some 27) (v := ?_) (a' := ?_) #[true, true, true, true, true, true, true, true, true, true, true, true, true, true, true, true, true, true, true, true, true, true, true, true, false] rfl rfl (by kernel_rfl) (fun _ _ _ h => h) (Or.inl ⟨by rfl, ?_⟩) ?_ ?_
  rotate_left
  · intro w'
    go_simp
    with_reducible rfl
  rotate_left
  · simp only [Act.put, List.setIfInBounds_toArray, List.set_cons_zero, List.set_cons_succ, i64_w, i32_w]
    rfl
  refine Go.Proofs.YtceomobdolkfgaaDoorW.PrintLast.last_ (i := 24) (N := none) #[true, true, true, true, true, true, true, true, true, true, true, true, true, true, true, true, true, true, true, true, true, true, true, true, true] rfl rfl (by kernel_rfl) (by decide) (fun K hK => ?_)
  refine skip_ (w1 := ?_) (by rfl) rfl ?_ ?_
  rotate_left
  · go_simp
    rfl
  refine hK.out _ _ ?_
  clear hK K
  refine Go.Proofs.YtceomobdolkfgaaDoorW.PrintLast.done_ (by kernel_rfl) ?_
  -- REGION END
  by_cases hw1 : g.c + 1 = g.W
  · have q1 : (g.c : Int) + 1 = (g.W : Int) := by omega
    have HE : Hid (g.put x = (g.add x).down) := Lib.hid (by unfold LG.put; rw [if_pos hw1])
    go_wp2
    go_quiet (fail)
    have ht9 := gcol_turn HT8.out.at_ (g.c + 1)
    rw [show ((g.c + 1 : Nat) : Int) = (g.W : Int) from by omega] at ht9
    have HT9 := Lib.hid ((HT8.out.trans ht9).below (below_drewN_ (Below.refl _ _) nq))
    have HD := Lib.hid (gdown_ HT9.out.at_ (by show (g.rows.set _ _).length ≤ _; rw [List.length_set]; omega) (by show g.r ≤ _; omega))
    have HQ2 := Lib.hid HQ.out
    clear ht9 t0 t3 tf bf bc
    go_wp2_with (go_at_call 29; refine HD.out.mono ?_; rintro e w9 ⟨rfl, m9, ht9⟩; have HT10 := Lib.hid ht9; clear ht9)
    go_returns
    refine ⟨rfl, m9, ?_⟩
    rw [HE.out]
    have := HT9.out.trans HT10.out
    rw [← HQ.out] at this
    exact this
  · have q1 : ((g.c : Int) + 1 == (g.W : Int)) = false := by rw [beq_eq_false_iff_ne]; omega
    have HE : Hid (g.put x = g.add x) := Lib.hid (by unfold LG.put; rw [if_neg hw1])
    go_wp2
    go_quiet (fail)
    have ht9 := gcol_turn HT8.out.at_ (g.c + 1)
    rw [show ((g.c + 1 : Nat) : Int) = (g.c : Int) + 1 from by omega] at ht9
    have HT9 := Lib.hid ((HT8.out.trans ht9).below (below_drewN_ (Below.refl _ _) nq))
    clear ht9 t0 t3 tf bf bc
    go_wp2
    go_returns
    refine ⟨rfl, ⟨m.rv, m.vs.set g.r (Value.slice A8 (q.length + 1) c8)⟩, ?_⟩
    rw [HE.out]
    have := HT9.out
    rw [← HQ.out] at this ⊢
    exact this
end
end U
end Go.Proofs.YtceomobdolkfgaaDoor
/- A cluster laid on the grid. -/
set_option linter.unusedVariables false
namespace Go.Proofs.YtceomobdolkfgaaDoor
open Go.RowKit Go.Proofs.YtceomobdolkfgaaDoorW.PrintWords Go.Proofs.YtceomobdolkfgaaDoor.Sep Go.Lib
namespace U
/-- A cluster of class k and n cells, drawn as d, is laid. -/
def LG.lay (g : LG) (d : Bs) (k n : Int) : LG :=
  if n = 0 then g.down
  else if n = 1 then g.put (S d, 1)
  else if g.W = 1 then g.put (bad3, 1)
  else if k = 4 then ((if g.c + 1 = g.W then g.down else g).put (S d, 2)).put cz
  else ((if g.c + 1 = g.W then g.down else g).put (S (d.take (sz d)), 1)).put (S (d.drop (sz d)), 1)
/-- What holds of a grid. -/
structure LG.Inv (g : LG) : Prop where
  w1 : 1 ≤ g.W
  w2 : g.W ≤ 65535
  r : g.r + 1 = g.rows.length
  c : g.c = (g.rows.getD g.r []).length
  cw : g.c < g.W
  len : ∀ i, (g.rows.getD i []).length ≤ g.W
section
variable {g : LG}
theorem getD_app_lt (rs : List Row) (q : List Row) (i : Nat) (h : i < rs.length) : (rs ++ q).getD i [] = rs.getD i [] := by simp [List.getD, List.getElem?_append_left h]
theorem getD_app_eq (rs : List Row) (r : Row) : (rs ++ [r]).getD rs.length [] = r := by simp [List.getD]
theorem getD_app_nil (rs : List Row) (i : Nat) : (rs ++ [([] : Row)]).getD i [] = rs.getD i [] := by
  rcases Nat.lt_trichotomy i rs.length with h | h | h
  · exact getD_app_lt _ _ _ h
  · subst h; rw [getD_app_eq, List.getD_eq_getElem?_getD, List.getElem?_eq_none (Nat.le_refl _)]; rfl
  · rw [List.getD_eq_getElem?_getD, List.getElem?_eq_none (by simp; omega), List.getD_eq_getElem?_getD, List.getElem?_eq_none (by omega)]
theorem gdown_len : g.down.rows.length = g.rows.length + 1 := by show (g.rows ++ [[]]).length = _; simp
theorem gdown_inv (h1 : 1 ≤ g.W) (h2 : g.W ≤ 65535) (hr : g.r + 1 = g.rows.length) (hl : ∀ i, (g.rows.getD i []).length ≤ g.W) : g.down.Inv := by
  refine ⟨h1, h2, ?_, ?_, h1, fun i => ?_⟩
  · rw [gdown_len]; show g.r + 1 + 1 = _; omega
  · show 0 = ((g.rows ++ [[]]).getD (g.r + 1) []).length
    rw [getD_app_nil, List.getD_eq_getElem?_getD, List.getElem?_eq_none (by omega)]; rfl
  · show ((g.rows ++ [[]]).getD i []).length ≤ g.W
    rw [getD_app_nil]; exact hl i
theorem gadd_facts (h : g.Inv) (x : C) : (g.add x).rows.length = g.rows.length ∧ (∀ i, ((g.add x).rows.getD i []).length ≤ g.W) ∧ (g.add x).c = ((g.add x).rows.getD g.r []).length := by
  have hr := h.r
  refine ⟨?_, fun i => ?_, ?_⟩
  · show (g.rows.set _ _).length = _; rw [List.length_set]
  · show ((g.rows.set g.r _).getD i []).length ≤ _
    rw [getD_set _ _ _ _ (by omega)]
    split
    · have h1 := h.c
      have h2 := h.cw
      rw [List.length_append]
      show _ + 1 ≤ _
      omega
    · exact h.len i
  · show g.c + 1 = ((g.rows.set g.r _).getD g.r []).length
    rw [getD_set _ _ _ _ (by omega), if_pos rfl, List.length_append, ← h.c]
    rfl
theorem gput_inv (h : g.Inv) (x : C) : (g.put x).Inv := by
  obtain ⟨a1, a2, a3⟩ := gadd_facts h x
  unfold LG.put
  split
  · exact gdown_inv h.w1 h.w2 (by rw [a1]; exact h.r) a2
  · have := h.cw
    exact ⟨h.w1, h.w2, by rw [a1]; exact h.r, a3, by show g.c + 1 < g.W; omega, a2⟩
theorem gput_len (x : C) : (g.put x).rows.length ≤ g.rows.length + 1 := by
  unfold LG.put
  split
  · rw [gdown_len]; show (g.rows.set _ _).length + 1 ≤ _; rw [List.length_set]; omega
  · show (g.rows.set _ _).length ≤ _; rw [List.length_set]; omega
theorem gput_W (x : C) : (g.put x).W = g.W := by unfold LG.put; split <;> rfl
theorem gdown_inv' (h : g.Inv) : g.down.Inv := gdown_inv h.w1 h.w2 h.r h.len
theorem gstep_inv (h : g.Inv) : (if g.c + 1 = g.W then g.down else g).Inv := by
  split
  · exact gdown_inv' h
  · exact h
theorem gstep_len : (if g.c + 1 = g.W then g.down else g).rows.length ≤ g.rows.length + 1 := by
  split
  · rw [gdown_len]; omega
  · omega
theorem glay_inv (h : g.Inv) (d : Bs) (k n : Int) : (g.lay d k n).Inv := by
  unfold LG.lay
  split
  · exact gdown_inv' h
  · split
    · exact gput_inv h _
    · split
      · exact gput_inv h _
      · split
        · exact gput_inv (gput_inv (gstep_inv h) _) _
        · exact gput_inv (gput_inv (gstep_inv h) _) _
theorem glay_len (d : Bs) (k n : Int) : (g.lay d k n).rows.length ≤ g.rows.length + 3 := by
  unfold LG.lay
  have hs := gstep_len (g := g)
  split
  · rw [gdown_len]; omega
  · split
    · have := gput_len (g := g) (S d, 1); omega
    · split
      · have := gput_len (g := g) (bad3, 1); omega
      · split
        · have h1 := gput_len (g := if g.c + 1 = g.W then g.down else g) (S d, 2)
          have h2 := gput_len (g := (if g.c + 1 = g.W then g.down else g).put (S d, 2)) cz
          omega
        · have h1 := gput_len (g := if g.c + 1 = g.W then g.down else g) (S (d.take (sz d)), 1)
          have h2 := gput_len (g := (if g.c + 1 = g.W then g.down else g).put (S (d.take (sz d)), 1)) (S (d.drop (sz d)), 1)
          omega
end
/-- A grid that lies beside the tables. -/
structure GOff (p : Nat) (g : LG) (m : Mem) : Prop where
  a : ¬ gfoot p g m 0
  b : ¬ gfoot p g m 1
section
variable {w w' : World} {p : Nat} {g g' : LG} {m m' : Mem}
theorem GTurned.tabs (h : GTurned w w' p g m g' m') (hT : Tabs w) (ho : GOff p g m) : Tabs w' := hT.upd h.upd ho.a ho.b
theorem GTurned.off (h : GTurned w w' p g m g' m') (hT : Tabs w) (ho : GOff p g m) : GOff p g' m' :=
  ⟨fun e => (h.foot _ e).elim ho.a (fun e => by have := hT.two.1; omega), fun e => (h.foot _ e).elim ho.b (fun e => by have := hT.two.2; omega)⟩
theorem gput_i (h : GAt w p g m) (hi : g.Inv) (hl : g.rows.length ≤ 1073741000) (x : C) : Calls Tryd.prog 30 #[.pointer (some ⟨p, 0, none⟩), .agg #[.string x.1, .int .i64 x.2]] w fun e w' => e = .returned (.tuple #[]) ∧ ∃ m', GTurned w w' p g m (g.put x) m' := by
  have h1 := hi.r
  have h2 := hi.w2
  have h3 := hi.cw
  exact gput_ h x (by omega) (by omega) (Nat.le_trans (hi.len _) h2) (by omega) h2
theorem gdown_i (h : GAt w p g m) (hi : g.Inv) (hl : g.rows.length ≤ 1073741000) : Calls Tryd.prog 29 #[.pointer (some ⟨p, 0, none⟩)] w fun e w' => e = .returned (.tuple #[]) ∧ ∃ m', GTurned w w' p g m g.down m' := by
  have h1 := hi.r
  exact gdown_ h (by omega) (by omega)
theorem decode_S (d : Bs) (w : World) (hT : Tabs w) : Calls Tryd.prog 31 #[.string (S d)] w fun e w' => (∃ c : Int, e = .returned (.tuple #[.int .i32 c, .int .i64 (sz d : Nat)])) ∧ Below w.heap.size w w' := by
  refine (Tryd.utf8_DecodeRuneInString (S d) w hT).mono ?_
  rintro e w' ⟨rfl, hb⟩
  have hu := uni_go (S d)
  rw [L_S] at hu
  have hz : sz d = (Lib.decodeGo (S d)).2 := by
    unfold sz
    rw [hu]
    split
    · rename_i h; exact h.2.symm
    · rfl
  rw [hz]
  exact ⟨⟨_, rfl⟩, hb⟩
theorem S_take (d : Bs) (n : Nat) : S (d.take n) = (S d).extract 0 n := by
  have : L (S (d.take n)) = L ((S d).extract 0 n) := by rw [L_S, L_take, L_S, List.drop_zero, Nat.sub_zero]
  rw [← S_L (S (d.take n)), this, S_L]
theorem S_drop (d : Bs) (n : Nat) : S (d.drop n) = (S d).extract n (S d).size := by
  have : L (S (d.drop n)) = L ((S d).extract n (S d).size) := by rw [L_S, L_drop, L_S]
  rw [← S_L (S (d.drop n)), this, S_L]
set_option maxHeartbeats 4000000
set_option maxRecDepth 100000
theorem glay_ (h : GAt w p g m) (hi : g.Inv) (hl : g.rows.length ≤ 1073740000) (hT : Tabs w) (ho : GOff p g m) (s : ByteArray) (hs : s.size ≤ 4194304) (a b : Nat) (hab : a ≤ b) (hb : b ≤ s.size) (k n : Int) :
    Calls Tryd.prog 11 #[.pointer (some ⟨p, 0, none⟩), .string s, .agg #[.int .i64 a, .int .i64 b, .int .i64 k, .int .i64 n]] w fun e w' => e = .returned (.tuple #[]) ∧ ∃ m', GTurned w w' p g m (g.lay (drawn (L (s.extract a b))) k n) m' := by
  obtain ⟨d, hd⟩ : ∃ d, drawn (L (s.extract a b)) = d := ⟨_, rfl⟩
  have HDR := Lib.hid (fun (w0 : World) (hb0 : Below w.heap.size w w0) => drawn_ (s.extract a b) w0 (hT.below hb0) (by rw [ByteArray.size_extract]; omega))
  rw [hd] at HDR
  rw [hd]
  have HA := Lib.hid h
  have HI := Lib.hid hi
  have HT := Lib.hid hT
  have HO := Lib.hid ho
  have HB1 := Lib.hid (below_one w (.cells #[.int .i64 a, .int .i64 b, .int .i64 k, .int .i64 n] 48))
  have HX1 := Lib.hid (Blk.new w 48 #[.int .i64 a, .int .i64 b, .int .i64 k, .int .i64 n])
  have hai : (a : Int) ≤ (b : Int) := by omega
  have hbi : (b : Int) ≤ (s.size : Int) := by omega
  obtain ⟨res, hres⟩ : ∃ r, g.lay d k n = r := ⟨_, rfl⟩
  have hR := hres
  unfold LG.lay at hR
  rw [hres]
  have hW1 := hi.w1
  have hW2 := hi.w2
  clear h hi hT ho hd hres
  by_cases n0 : n = 0
  · subst n0
    rw [if_pos rfl] at hR
    have HR := Lib.hid hR
    clear hR
    go_enter Tryd.func11, Tryd.ntmps11
    go_wp2_with (first
      | (go_at_call 28; refine (HDR.out _ HB1.out).mono ?_; rintro e w2 ⟨rfl, hq⟩; have HB2 := Lib.hid (below_then HB1.out hq); obtain ⟨b0, b1, b2, b3, -⟩ := Blk.four (Blk.below HX1.out hq); have HD2 := Lib.hid (gdown_i (HA.out.below HB2.out) HI.out (by omega)); clear hq)
      | (go_at_call 29; refine HD2.out.mono ?_; rintro e w3 ⟨rfl, m3, ht⟩; have HT3 := Lib.hid ht; clear ht))
    go_returns
    rw [← HR.out]
    exact ⟨rfl, m3, GTurned.from_below HB2.out HT3.out⟩
  rw [if_neg n0] at hR
  have q0 : (n == 0) = false := by rw [beq_eq_false_iff_ne]; exact n0
  by_cases n1 : n = 1
  · subst n1
    rw [if_pos rfl] at hR
    have HR := Lib.hid hR
    clear hR
    go_enter Tryd.func11, Tryd.ntmps11
    go_wp2_with (first
      | (go_at_call 28; refine (HDR.out _ HB1.out).mono ?_; rintro e w2 ⟨rfl, hq⟩; have HB2 := Lib.hid (below_then HB1.out hq); obtain ⟨b0, b1, b2, b3, -⟩ := Blk.four (Blk.below HX1.out hq); have HD2 := Lib.hid (gput_i (HA.out.below HB2.out) HI.out (by omega) (S d, 1)); clear hq)
      | (go_at_call 30; refine HD2.out.mono ?_; rintro e w3 ⟨rfl, m3, ht⟩; have HT3 := Lib.hid ht; clear ht))
    go_returns
    rw [← HR.out]
    exact ⟨rfl, m3, GTurned.from_below HB2.out HT3.out⟩
  rw [if_neg n1] at hR
  have q1 : (n == 1) = false := by rw [beq_eq_false_iff_ne]; exact n1
  by_cases hw1 : g.W = 1
  · rw [if_pos hw1] at hR
    have HR := Lib.hid hR
    have qw : (g.W : Int) = 1 := by omega
    clear hR
    go_enter Tryd.func11, Tryd.ntmps11
    go_wp2_with (first
      | (go_at_call 28; refine (HDR.out _ HB1.out).mono ?_; rintro e w2 ⟨rfl, hq⟩; have HB2 := Lib.hid (below_then HB1.out hq); obtain ⟨b0, b1, b2, b3, -⟩ := Blk.four (Blk.below HX1.out hq); have c0 : w2.cell? ⟨p, 0, none⟩ = some (.int .i64 g.W) := (HA.out.below HB2.out).blk.cell 0; have HD2 := Lib.hid (gput_i (HA.out.below HB2.out) HI.out (by omega) (bad3, 1)); clear hq)
      | (go_at_call 30; refine HD2.out.mono ?_; rintro e w3 ⟨rfl, m3, ht⟩; have HT3 := Lib.hid ht; clear ht))
    go_returns
    rw [← HR.out]
    exact ⟨rfl, m3, GTurned.from_below HB2.out HT3.out⟩
  rw [if_neg hw1] at hR
  have qw : ((g.W : Int) == 1) = false := by rw [beq_eq_false_iff_ne]; omega
  have qwn : ¬ (g.W : Int) = 1 := by omega
  -- WALKS BEGIN
  by_cases hk : k = 4
  · subst hk
    rw [if_pos rfl] at hR
    by_cases hcw : g.c + 1 = g.W
    · obtain ⟨g1, hg1⟩ : ∃ g1, (if g.c + 1 = g.W then g.down else g) = g1 := ⟨_, rfl⟩
      rw [hg1] at hR
      have HI1 : Hid g1.Inv := Lib.hid (hg1 ▸ gstep_inv HI.out)
      have hl1 : g1.rows.length ≤ g.rows.length + 1 := hg1 ▸ gstep_len
      rw [if_pos hcw] at hg1
      subst hg1
      have HR := Lib.hid hR
      have qc : (g.c : Int) = (g.W : Int) - 1 := by omega
      clear hR hcw
      go_enter Tryd.func11, Tryd.ntmps11
      go_wp2_with (go_at_call 28; refine (HDR.out _ HB1.out).mono ?_; rintro e w2 ⟨rfl, hq⟩; have HB2 := Lib.hid (below_then HB1.out hq); have HX2 := Lib.hid (Blk.below HX1.out hq); obtain ⟨b0, b1, b2, b3, -⟩ := Blk.four HX2.out; have HA2 := Lib.hid (HA.out.below HB2.out); have c0 : w2.cell? ⟨p, 0, none⟩ = some (.int .i64 g.W) := HA2.out.blk.cell 0; have c3 : w2.cell? ⟨p, 3, none⟩ = some (.int .i64 g.c) := HA2.out.blk.cell 3; clear hq)
      go_quiet (fail)
      have HB3 := Lib.hid (HB2.out.trans ((below_drewN_ (Below.refl w2.heap.size w2) nq).mono HB2.out.size))
      have HA3 := Lib.hid (HA.out.below HB3.out)
      have HT3 := Lib.hid (HT.out.below HB3.out)
      have HX3 := Lib.hid (Blk.below HX2.out (below_drewN_ (Below.refl w2.heap.size w2) nq))
      have HU := Lib.hid (fun (w' : World) (hu : Upd (gfoot p g m) (w2.drewN nq) w') => Blk.upd HX3.out hu (fun e => by have := HA.out.lt _ e; omega))
      clear b0 b1 b2 b3 c0 c3
      have qd : True := trivial
      go_wp2_with (first
        | (go_at_call 29; refine (gdown_i HA3.out HI.out (by omega)).mono ?_; rintro e w4 ⟨rfl, m4, ht⟩; obtain ⟨-, -, y2, -, -⟩ := Blk.four (HU.out _ ht.upd); have HT4 := Lib.hid ht; clear ht)
        | (go_at_call 30; refine (gput_i HT4.out.at_ HI1.out (by omega) (S d, 2)).mono ?_; rintro e w5 ⟨rfl, m5, ht⟩; have HT5 := Lib.hid (HT4.out.trans ht); have HI5 := Lib.hid (gput_inv HI1.out (S d, 2)); have hl5 := gput_len (g := g.down) (S d, 2); clear ht HT4)
        | (go_at_call 30; refine (gput_i HT5.out.at_ HI5.out (by omega) cz).mono ?_; rintro e w6 ⟨rfl, m6, ht⟩; have HT6 := Lib.hid (HT5.out.trans ht); clear ht))
      go_returns
      rw [← HR.out]
      exact ⟨rfl, m6, GTurned.from_below HB3.out HT6.out⟩
    · obtain ⟨g1, hg1⟩ : ∃ g1, (if g.c + 1 = g.W then g.down else g) = g1 := ⟨_, rfl⟩
      rw [hg1] at hR
      have HI1 : Hid g1.Inv := Lib.hid (hg1 ▸ gstep_inv HI.out)
      have hl1 : g1.rows.length ≤ g.rows.length + 1 := hg1 ▸ gstep_len
      rw [if_neg hcw] at hg1
      subst hg1
      have HR := Lib.hid hR
      have qc : ((g.c : Int) == (g.W : Int) - 1) = false := by rw [beq_eq_false_iff_ne]; omega
      have qcn : ¬ (g.c : Int) = (g.W : Int) - 1 := by omega
      clear hR hcw
      go_enter Tryd.func11, Tryd.ntmps11
      go_wp2_with (go_at_call 28; refine (HDR.out _ HB1.out).mono ?_; rintro e w2 ⟨rfl, hq⟩; have HB2 := Lib.hid (below_then HB1.out hq); have HX2 := Lib.hid (Blk.below HX1.out hq); obtain ⟨b0, b1, b2, b3, -⟩ := Blk.four HX2.out; have HA2 := Lib.hid (HA.out.below HB2.out); have c0 : w2.cell? ⟨p, 0, none⟩ = some (.int .i64 g.W) := HA2.out.blk.cell 0; have c3 : w2.cell? ⟨p, 3, none⟩ = some (.int .i64 g.c) := HA2.out.blk.cell 3; clear hq)
      go_quiet (fail)
      have HB3 := Lib.hid (HB2.out.trans ((below_drewN_ (Below.refl w2.heap.size w2) nq).mono HB2.out.size))
      have HA3 := Lib.hid (HA.out.below HB3.out)
      have HT3 := Lib.hid (HT.out.below HB3.out)
      have HX3 := Lib.hid (Blk.below HX2.out (below_drewN_ (Below.refl w2.heap.size w2) nq))
      have HU := Lib.hid (fun (w' : World) (hu : Upd (gfoot p g m) (w2.drewN nq) w') => Blk.upd HX3.out hu (fun e => by have := HA.out.lt _ e; omega))
      obtain ⟨w4, hw4⟩ : ∃ w4, w2.drewN nq = w4 := ⟨_, rfl⟩
      obtain ⟨m4, hm4⟩ : ∃ m4, m = m4 := ⟨_, rfl⟩
      have HT4 : Hid (GTurned (w2.drewN nq) w4 p g m g m4) := Lib.hid (by rw [← hw4, ← hm4]; exact GTurned.refl HA3.out)
      obtain ⟨-, -, y2, -, -⟩ := Blk.four HX3.out
      rw [hw4] at y2 ⊢
      clear hw4 hm4
      clear b0 b1 b2 b3 c0 c3
      go_wp2_with (first
        | (go_at_call 30; refine (gput_i HT4.out.at_ HI1.out (by omega) (S d, 2)).mono ?_; rintro e w5 ⟨rfl, m5, ht⟩; have HT5 := Lib.hid (HT4.out.trans ht); have HI5 := Lib.hid (gput_inv HI1.out (S d, 2)); have hl5 := gput_len (g := g) (S d, 2); clear ht HT4)
        | (go_at_call 30; refine (gput_i HT5.out.at_ HI5.out (by omega) cz).mono ?_; rintro e w6 ⟨rfl, m6, ht⟩; have HT6 := Lib.hid (HT5.out.trans ht); clear ht))
      go_returns
      rw [← HR.out]
      exact ⟨rfl, m6, GTurned.from_below HB3.out HT6.out⟩
  · rw [if_neg hk] at hR
    have qk : (k == 4) = false := by rw [beq_eq_false_iff_ne]; exact hk
    by_cases hcw : g.c + 1 = g.W
    · obtain ⟨g1, hg1⟩ : ∃ g1, (if g.c + 1 = g.W then g.down else g) = g1 := ⟨_, rfl⟩
      rw [hg1] at hR
      have HI1 : Hid g1.Inv := Lib.hid (hg1 ▸ gstep_inv HI.out)
      have hl1 : g1.rows.length ≤ g.rows.length + 1 := hg1 ▸ gstep_len
      rw [if_pos hcw] at hg1
      subst hg1
      have HR := Lib.hid hR
      have qc : (g.c : Int) = (g.W : Int) - 1 := by omega
      clear hR hcw
      go_enter Tryd.func11, Tryd.ntmps11
      go_wp2_with (go_at_call 28; refine (HDR.out _ HB1.out).mono ?_; rintro e w2 ⟨rfl, hq⟩; have HB2 := Lib.hid (below_then HB1.out hq); have HX2 := Lib.hid (Blk.below HX1.out hq); obtain ⟨b0, b1, b2, b3, -⟩ := Blk.four HX2.out; have HA2 := Lib.hid (HA.out.below HB2.out); have c0 : w2.cell? ⟨p, 0, none⟩ = some (.int .i64 g.W) := HA2.out.blk.cell 0; have c3 : w2.cell? ⟨p, 3, none⟩ = some (.int .i64 g.c) := HA2.out.blk.cell 3; clear hq)
      go_quiet (fail)
      have HB3 := Lib.hid (HB2.out.trans ((below_drewN_ (Below.refl w2.heap.size w2) nq).mono HB2.out.size))
      have HA3 := Lib.hid (HA.out.below HB3.out)
      have HT3 := Lib.hid (HT.out.below HB3.out)
      have HX3 := Lib.hid (Blk.below HX2.out (below_drewN_ (Below.refl w2.heap.size w2) nq))
      have HU := Lib.hid (fun (w' : World) (hu : Upd (gfoot p g m) (w2.drewN nq) w') => Blk.upd HX3.out hu (fun e => by have := HA.out.lt _ e; omega))
      clear b0 b1 b2 b3 c0 c3
      have qd : True := trivial
      have hsz : (sz d : Int) ≤ ((S d).size : Int) := by have := sz_le d; rw [S_size]; omega
      have hszn : sz d ≤ (S d).size := by omega
      go_wp2_with (first
        | (go_at_call 29; refine (gdown_i HA3.out HI.out (by omega)).mono ?_; rintro e w4 ⟨rfl, m4, ht⟩; obtain ⟨-, -, y2, -, -⟩ := Blk.four (HU.out _ ht.upd); have HT4 := Lib.hid ht; clear ht)
        | (go_at_call 31; refine (decode_S d _ (HT4.out.tabs HT3.out (GOff.mk HO.out.a HO.out.b))).mono ?_; rintro e w5 ⟨⟨ch, rfl⟩, hq⟩; have HT5 := Lib.hid (HT4.out.below hq); clear hq)
        | (go_at_call 30; refine (gput_i HT5.out.at_ HI1.out (by omega) ((S d).extract 0 (sz d), 1)).mono ?_; rintro e w6 ⟨rfl, m6, ht⟩; have HT6 := Lib.hid (HT5.out.trans ht); have HI6 := Lib.hid (gput_inv HI1.out ((S d).extract 0 (sz d), 1)); have hl6 := gput_len (g := g.down) ((S d).extract 0 (sz d), 1); clear ht HT5)
        | (go_at_call 30; refine (gput_i HT6.out.at_ HI6.out (by omega) ((S d).extract (sz d) (S d).size, 1)).mono ?_; rintro e w7 ⟨rfl, m7, ht⟩; have HT7 := Lib.hid (HT6.out.trans ht); clear ht))
      go_returns
      rw [← HR.out]
      rw [S_take, S_drop]
      exact ⟨rfl, m7, GTurned.from_below HB3.out HT7.out⟩
    · obtain ⟨g1, hg1⟩ : ∃ g1, (if g.c + 1 = g.W then g.down else g) = g1 := ⟨_, rfl⟩
      rw [hg1] at hR
      have HI1 : Hid g1.Inv := Lib.hid (hg1 ▸ gstep_inv HI.out)
      have hl1 : g1.rows.length ≤ g.rows.length + 1 := hg1 ▸ gstep_len
      rw [if_neg hcw] at hg1
      subst hg1
      have HR := Lib.hid hR
      have qc : ((g.c : Int) == (g.W : Int) - 1) = false := by rw [beq_eq_false_iff_ne]; omega
      have qcn : ¬ (g.c : Int) = (g.W : Int) - 1 := by omega
      clear hR hcw
      go_enter Tryd.func11, Tryd.ntmps11
      go_wp2_with (go_at_call 28; refine (HDR.out _ HB1.out).mono ?_; rintro e w2 ⟨rfl, hq⟩; have HB2 := Lib.hid (below_then HB1.out hq); have HX2 := Lib.hid (Blk.below HX1.out hq); obtain ⟨b0, b1, b2, b3, -⟩ := Blk.four HX2.out; have HA2 := Lib.hid (HA.out.below HB2.out); have c0 : w2.cell? ⟨p, 0, none⟩ = some (.int .i64 g.W) := HA2.out.blk.cell 0; have c3 : w2.cell? ⟨p, 3, none⟩ = some (.int .i64 g.c) := HA2.out.blk.cell 3; clear hq)
      go_quiet (fail)
      have HB3 := Lib.hid (HB2.out.trans ((below_drewN_ (Below.refl w2.heap.size w2) nq).mono HB2.out.size))
      have HA3 := Lib.hid (HA.out.below HB3.out)
      have HT3 := Lib.hid (HT.out.below HB3.out)
      have HX3 := Lib.hid (Blk.below HX2.out (below_drewN_ (Below.refl w2.heap.size w2) nq))
      have HU := Lib.hid (fun (w' : World) (hu : Upd (gfoot p g m) (w2.drewN nq) w') => Blk.upd HX3.out hu (fun e => by have := HA.out.lt _ e; omega))
      obtain ⟨w4, hw4⟩ : ∃ w4, w2.drewN nq = w4 := ⟨_, rfl⟩
      obtain ⟨m4, hm4⟩ : ∃ m4, m = m4 := ⟨_, rfl⟩
      have HT4 : Hid (GTurned (w2.drewN nq) w4 p g m g m4) := Lib.hid (by rw [← hw4, ← hm4]; exact GTurned.refl HA3.out)
      obtain ⟨-, -, y2, -, -⟩ := Blk.four HX3.out
      rw [hw4] at y2 ⊢
      clear hw4 hm4
      clear b0 b1 b2 b3 c0 c3
      have hsz : (sz d : Int) ≤ ((S d).size : Int) := by have := sz_le d; rw [S_size]; omega
      have hszn : sz d ≤ (S d).size := by omega
      go_wp2_with (first
        | (go_at_call 31; refine (decode_S d _ (HT4.out.tabs HT3.out (GOff.mk HO.out.a HO.out.b))).mono ?_; rintro e w5 ⟨⟨ch, rfl⟩, hq⟩; have HT5 := Lib.hid (HT4.out.below hq); clear hq)
        | (go_at_call 30; refine (gput_i HT5.out.at_ HI1.out (by omega) ((S d).extract 0 (sz d), 1)).mono ?_; rintro e w6 ⟨rfl, m6, ht⟩; have HT6 := Lib.hid (HT5.out.trans ht); have HI6 := Lib.hid (gput_inv HI1.out ((S d).extract 0 (sz d), 1)); have hl6 := gput_len (g := g) ((S d).extract 0 (sz d), 1); clear ht HT5)
        | (go_at_call 30; refine (gput_i HT6.out.at_ HI6.out (by omega) ((S d).extract (sz d) (S d).size, 1)).mono ?_; rintro e w7 ⟨rfl, m7, ht⟩; have HT7 := Lib.hid (HT6.out.trans ht); clear ht))
      go_returns
      rw [← HR.out]
      rw [S_take, S_drop]
      exact ⟨rfl, m7, GTurned.from_below HB3.out HT7.out⟩
  -- WALKS END
end
end U
end Go.Proofs.YtceomobdolkfgaaDoor
/- A new grid; a prompt laid on it. -/
set_option linter.unusedVariables false
namespace Go.Proofs.YtceomobdolkfgaaDoor
open Go.RowKit Go.Shelf Go.Proofs.YtceomobdolkfgaaDoorW.PrintWords Go.Proofs.YtceomobdolkfgaaDoor.Sep Go.Lib
attribute [local go_sem] Oper.semAt_some
namespace U
/-- The clusters of a text, laid one behind the other. -/
def layF (t : Bs) (g : LG) (cs : List Cl) : LG := cs.foldl (fun g c => g.lay (drawn (cut t c.at_ c.to_)) c.cls c.cells) g
theorem layF_snoc (t : Bs) (g : LG) (cs : List Cl) (c : Cl) : layF t g (cs ++ [c]) = (layF t g cs).lay (drawn (cut t c.at_ c.to_)) c.cls c.cells := by unfold layF; rw [List.foldl_append]; rfl
theorem layF_inv (t : Bs) {g : LG} (h : g.Inv) (cs : List Cl) : (layF t g cs).Inv := by
  induction cs generalizing g with
  | nil => exact h
  | cons c cs ih => exact ih (glay_inv h _ _ _)
theorem layF_len (t : Bs) (g : LG) (cs : List Cl) : (layF t g cs).rows.length ≤ g.rows.length + 3 * cs.length := by
  induction cs generalizing g with
  | nil => exact Nat.le_refl _
  | cons c cs ih =>
    have h1 := ih (g.lay (drawn (cut t c.at_ c.to_)) c.cls c.cells)
    have h2 := glay_len (g := g) (drawn (cut t c.at_ c.to_)) c.cls c.cells
    show (layF t (g.lay _ _ _) cs).rows.length ≤ _
    rw [List.length_cons]
    omega
def LG.new (W : Nat) : LG := ⟨W, [[]], 0, 0⟩
theorem gnew_inv (W : Nat) (h1 : 1 ≤ W) (h2 : W ≤ 65535) : (LG.new W).Inv := ⟨h1, h2, rfl, rfl, h1, fun i => by
  show (([[]] : List Row).getD i []).length ≤ W
  cases i with
  | zero => exact Nat.zero_le _
  | succ i => exact Nat.zero_le _⟩
/-- A grid that this call has made. -/
def GNew (B p : Nat) (g : LG) (W : World) : Prop := ∃ m, GAt W p g m ∧ ∀ k, gfoot p g m k → B ≤ k
section
variable {w w' : World} {p : Nat} {g g' : LG} {m m' : Mem}
theorem GAt.cells_ (h : GAt w p g m) : ∀ k, gfoot p g m k → ∃ cs t, Blk w k t cs := by
  rintro k (rfl | hk)
  · exact ⟨_, _, h.blk⟩
  · exact h.rows.cells_ k hk
theorem gnew_own {β : Type} (B p : Nat) (f : β → LG) : Own (fun s W => GNew B p (f s) W) := fun s X Y row hs hg hr => by
  obtain ⟨m, h, hf⟩ := hs
  refine ⟨m, h.keep fun k hk => ?_, hf⟩
  obtain ⟨cs, t, hb⟩ := h.cells_ k hk
  exact hg.block k hb.lt (fun e => by obtain ⟨o, ho, hc⟩ := hr k e.symm; rw [show X.heap[k]? = _ from hb] at ho; cases ho; cases hc)
theorem GTurned.keeps {B : Nat} (ha : GAt w p g m) (h : GTurned w w' p g m g' m') : KeepsFrom B w w' :=
  ⟨h.upd.size, fun k o _ hk ho => by
    refine (h.upd.block k (Array.getElem?_eq_some_iff.1 hk).1 (fun e => ?_)).trans hk
    obtain ⟨cs, t, hb⟩ := ha.cells_ k e
    rw [show w.heap[k]? = _ from hb] at hk
    cases hk
    cases ho⟩
theorem GAt.ne (h : GAt w p g m) {b : Nat} {t : TypeId} {cs : Array Value} (hb : Blk w b t cs) (h1 : 33 ≠ t) (h2 : 32 ≠ t) (h3 : 42 ≠ t) : ¬ gfoot p g m b := by
  rintro (rfl | hk)
  · exact Blk.ne_ h.blk hb h3 rfl
  · exact h.rows.ne hb h1 h2 hk
theorem GTurned.blk (ha : GAt w p g m) (h : GTurned w w' p g m g' m') {b : Nat} {t : TypeId} {cs : Array Value} (hb : Blk w b t cs) (h1 : 33 ≠ t) (h2 : 32 ≠ t) (h3 : 42 ≠ t) : Blk w' b t cs := hb.upd h.upd (ha.ne hb h1 h2 h3)
theorem GTurned.kps (ha : GAt w p g m) (h : GTurned w w' p g m g' m') {B b : Nat} (hf : ∀ k, gfoot p g m k → B ≤ k) (h0 : 0 < B) (h1 : 1 < B) {cs : Array Value} (hb : Blk w b 9 cs) : KpS b w w' := by
  refine ⟨h.upd.size, fun k hk hl => h.upd.block k hl (fun e => ?_)⟩
  rcases hk with rfl | rfl | rfl
  · exact ha.ne hb (by decide) (by decide) (by decide) e
  · have := hf _ e; omega
  · have := hf _ e; omega
theorem GTurned.belowB {B : Nat} {w0 : World} (hB : Below B w0 w) (hw : B ≤ w.heap.size) (h : GTurned w w' p g m g' m') (hf : ∀ k, gfoot p g m k → B ≤ k) : Below B w0 w' :=
  ⟨h.upd.os.trans hB.os, h.upd.tape.trans hB.tape, h.upd.output.trans hB.output, Nat.le_trans hB.size h.upd.size, fun k hk => (h.upd.block k (by omega) (fun e => by have := hf k e; omega)).trans (hB.block k hk)⟩
theorem GTurned.new {B : Nat} (hB : B ≤ w.heap.size) (hf : ∀ k, gfoot p g m k → B ≤ k) (h : GTurned w w' p g m g' m') : GNew B p g' w' :=
  ⟨m', h.at_, fun k hk => (h.foot k hk).elim (hf k) (fun e => by omega)⟩
theorem GNew.below {B : Nat} (h : GNew B p g w) (hb : Below w.heap.size w w') : GNew B p g w' := by
  obtain ⟨m, h1, h2⟩ := h
  exact ⟨m, h1.below hb, h2⟩
set_option maxHeartbeats 4000000
set_option maxRecDepth 100000
theorem newGrid_ (n : Int) (w : World) : Calls Tryd.prog 24 #[.int .i64 n] w fun e w' => ∃ p, e = .returned (.pointer (some ⟨p, 0, none⟩)) ∧ GNew w.heap.size p (LG.new (min (max n 1) 65535).toNat) w' ∧ Below w.heap.size w w' := by
  have e1 : (((min (max n 1) 65535).toNat : Nat) : Int) = min (max n 1) 65535 := by omega
  have HE := Lib.hid e1
  have HH := Lib.hid (fun w => gheld_ n w)
  clear e1
  go_enter Tryd.func24, Tryd.ntmps24
  go_wp2_with (go_at_call 44; refine (HH.out _).mono ?_; rintro e w1 ⟨rfl, rfl⟩)
  go_ret
  have hb1 := below_one w1 (.cells #[.slice none 0 0] 33)
  have hb2 := hb1.alloc hb1.size (.cells #[.int .i64 (min (max n 1) 65535), .slice (some ⟨w1.heap.size, 0, none⟩) 1 1, .int .i64 0, .int .i64 0] 42)
  refine ⟨_, rfl, ⟨⟨.slice (some ⟨w1.heap.size, 0, none⟩) 1 1, [.slice none 0 0]⟩, ⟨?_, ⟨?_, ?_, ?_⟩⟩, ?_⟩, hb2⟩
  · have := Blk.new (w1.alloc (.cells #[.slice none 0 0] 33)) 42 #[.int .i64 (min (max n 1) 65535), .slice (some ⟨w1.heap.size, 0, none⟩) 1 1, .int .i64 0, .int .i64 0]
    rw [World.size_alloc] at this
    unfold gcells LG.new
    dsimp only
    rw [HE.out]
    exact this
  · exact (OwnS.new w1 33 1 1 [.slice none 0 0] rfl (by unfold maxLen; omega)).keep (fun k hk => (below_one (w1.alloc (.cells #[.slice none 0 0] 33)) _).block k (by have : w1.heap.size = k := (by simpa [Value.ownBlock] using hk); simp; omega))
  · intro i hi
    have : i = 0 := by have : i < 1 := hi; omega
    subst this
    exact OwnS.nil _ _ _
  · intro i j k hi hj hne
    have h1 : i < 1 := hi
    have h2 : j < 1 := hj
    omega
  · rintro k (rfl | hk | ⟨i, hi, hk⟩)
    · simp
    · have : w1.heap.size = k := by simpa [Value.ownBlock] using hk
      omega
    · have : i = 0 := by have : i < 1 := hi; omega
      subst this
      cases hk
/-- How far a text's grid goes. -/
def gridOf (t : Bs) (W : Nat) : LG := layF t (LG.new W) (clus 0 t)
theorem prompted_ (s : ByteArray) (n : Int) (w : World) (hT : Tabs w) (hs : s.size ≤ 4194304) :
    Calls Tryd.prog 9 #[.string s, .int .i64 n] w fun e w' => ∃ p, e = .returned (.pointer (some ⟨p, 0, none⟩)) ∧ GNew w.heap.size p (gridOf (L s) (min (max n 1) 65535).toNat) w' ∧ Below w.heap.size w w' := by
  have hcl := clus_len (L s) _ 0 (Nat.le_refl _)
  rw [L_len] at hcl
  have hlS := L_len s
  have hg0 := gnew_inv (min (max n 1) 65535).toNat (by omega) (by omega)
  have HNG := Lib.hid (fun w => newGrid_ n w)
  unfold gridOf
  have hg0l : (LG.new (min (max n 1) 65535).toNat).rows.length ≤ 8 := by show 1 ≤ 8; omega
  generalize LG.new (min (max n 1) 65535).toNat = g0 at hg0 hg0l HNG ⊢
  refine (callsIn_wide (n := 6)).1 ?_
  refine callsIn_of_wp_marks Tryd.func9 rfl trivial ?_ rfl
  simp only [Tryd.ntmps9, List.size_toArray, List.length_cons, List.length_nil, Nat.reduceAdd, Nat.reduceSub, Array.replicate_succ, Array.replicate_zero, List.push_toArray, List.append_toArray, List.nil_append, List.cons_append]
  gi_wp2_with (first
    | (refine ⟨trivial, ?_⟩; gi_at_call 24; refine (callsIn_wide.2 (HNG.out _)).mono ?_; rintro e w1 ⟨p, rfl, hgn, hb1⟩; have hS1 := (Blk.below (Blk.new w 9 #[.string s]) hb1).alloc (.cells #[.pointer (some ⟨p, 0, none⟩)] 39); have cS : (w1.alloc (.cells #[.pointer (some ⟨p, 0, none⟩)] 39)).cell? ⟨w.heap.size, 0, none⟩ = some (.string s) := hS1.cell 0)
    | (refine ⟨trivial, ?_⟩; gi_at_call 10; refine (callsIn_wide.2 (walk_ s _)).mono ?_; rintro e w2 ⟨rfl, rfl⟩))
  obtain ⟨Wp, hWp⟩ : ∃ Wp, w1.alloc (.cells #[.pointer (some ⟨p, 0, none⟩)] 39) = Wp := ⟨_, rfl⟩
  have bP := Blk.new w1 39 #[.pointer (some ⟨p, 0, none⟩)]
  have hb1' : Below w.heap.size w w1 := below_alloc hb1
  have hbp : Below w.heap.size w Wp := by rw [← hWp]; exact hb1'.alloc hb1'.size _
  have hsp : Wp.heap.size = w1.heap.size + 1 := by rw [← hWp]; simp
  rw [hWp] at hS1 cS bP ⊢
  obtain ⟨W0, hW0⟩ : ∃ W0, Wp.alloc (.cells #[.string s] 9) = W0 := ⟨_, rfl⟩
  have bW : Blk W0 Wp.heap.size 9 #[.string s] := by rw [← hW0]; exact Blk.new _ _ _
  have bP0 : Blk W0 w1.heap.size 39 #[.pointer (some ⟨p, 0, none⟩)] := by rw [← hW0]; exact bP.alloc _
  have bS0 : Blk W0 w.heap.size 9 #[.string s] := by rw [← hW0]; exact hS1.alloc _
  have hB0 : Below w.heap.size w W0 := by rw [← hW0]; exact hbp.alloc hbp.size _
  have hG0 : GNew w.heap.size p g0 W0 := by
    have h1 : GNew w.heap.size p g0 w1 := by
      obtain ⟨m, h1, h2⟩ := hgn
      exact ⟨m, h1, fun k hk => by have := h2 k hk; simp at this; omega⟩
    have h2 : GNew w.heap.size p g0 Wp := by rw [← hWp]; exact h1.below (below_one _ _)
    rw [← hW0]; exact h2.below (below_one _ _)
  have hTT := hT.below hB0
  have hsz : W0.heap.size = w1.heap.size + 2 := by rw [← hW0, World.size_alloc, hsp]
  have hws := hb1'.size
  rw [hW0]
  have hW := hT.two
  rw [hsp] at bW
  clear hWp hW0 hgn hb1 hS1 cS bP HNG
  refine wpIn_rangeFunc_ownH rfl (by omega) (gf := 25) (lb := #[.pointer (some ⟨w1.heap.size + 1, 0, none⟩)]) rfl trivial (enters_of Tryd.func25 (by kernel_rfl) rfl)
    (walk_stops (6 - 1) (by omega) s (by omega) (w1.heap.size + 1) W0 (bW.cell 0) hTT s.size hcl) KpS.t (fun W l o o' hl h _ _ => KpS.b_ (by omega) W l o o' hl h) (Below.refl _ _) (fun _ => rfl)
    (fun pre W => (((GNew w.heap.size p (layF (L s) g0 (posC s pre)) W ∧ Blk W w.heap.size 9 #[.string s]) ∧ Blk W w1.heap.size 39 #[.pointer (some ⟨p, 0, none⟩)]) ∧ Blk W (w1.heap.size + 1) 9 #[.string s]) ∧ Below w.heap.size w W)
    (fun _ _ _ => False)
    (OwnFrom.and (OwnFrom.and (OwnFrom.and (OwnFrom.and (Own.from (gnew_own _ _ (fun pre => layF (L s) g0 (posC s pre))) _) (Own.from (blk_own _ _ _) _)) (Own.from (blk_own _ _ _) _)) (Own.from (blk_own _ _ _) _)) (ownFrom_below (Nat.le_refl _) (by omega)))
    (fun _ _ _ _ _ hs _ _ => hs)
    ⟨⟨⟨⟨hG0, bS0⟩, bP0⟩, bW⟩, hB0⟩
    (fun x a' W => ∃ Bx, Blk W Bx 48 (clcells (clAt (L s) x.1)).toArray ∧ a' = { tmps := #[.string s, .int .i64 n, .pointer (some ⟨w.heap.size, 0, none⟩), undef, .pointer none, .pointer (some ⟨w1.heap.size, 0, none⟩), .pointer (some ⟨Bx, 0, none⟩), .int .i64 n, .pointer (some ⟨p, 0, none⟩), .string s, .func (.func 25) #[] #[.pointer (some ⟨w1.heap.size + 1, 0, none⟩)], .agg (clv x.1 (x.1 + clen ((L s).drop x.1) : Nat) (mcls ((L s).drop x.1)) (mcells ((L s).drop x.1))), undef, undef, undef, undef, undef], defers := [] })
    (fun x a' _ X Y row hs hg hr => by
      obtain ⟨Bx, h2, h3⟩ := hs
      refine ⟨Bx, ?_, h3⟩
      exact (hg.block Bx h2.lt (fun e => by obtain ⟨o, ho, hc⟩ := (hr Bx e.symm).2; rw [h2] at ho; cases ho; cases hc)).trans h2)
    ?assign ?body ?done ?stop
  case assign =>
    rintro l pre x W K ⟨⟨⟨⟨hG, hbS⟩, hbP⟩, hbW⟩, hB⟩ hK
    dsimp only [posV, clv]
    gi_wp2
    exact hK _ _ ((KeepsOthers.alloc _ _).from _) (KpS.of_below (below_one _ _)) ⟨⟨⟨⟨hG.below (below_one _ _), hbS.alloc _⟩, hbP.alloc _⟩, hbW.alloc _⟩, hB.alloc hB.size _⟩ ⟨W.heap.size, Blk.new W _ _, rfl⟩
  case body =>
    rintro l pre x a' W hl ⟨r, hr⟩ ⟨⟨⟨⟨⟨m, hG, hF⟩, hbS⟩, hbP⟩, hbW⟩, hB⟩ ⟨Bx, bX, rfl⟩ hlt
    obtain ⟨i, hbd, hps⟩ := x
    have hps' : i < (L s).length := by omega
    obtain ⟨q, hq⟩ : ∃ q, i + clen ((L s).drop i) = q := ⟨_, rfl⟩
    have hin := clen_in (L s) i hps'
    rw [hq] at hin
    obtain ⟨k, hk⟩ : ∃ k, mcls ((L s).drop i) = k := ⟨_, rfl⟩
    obtain ⟨nc, hnc⟩ : ∃ nc, mcells ((L s).drop i) = nc := ⟨_, rfl⟩
    obtain ⟨b0, b1, b2, b3, -⟩ := Blk.four (v0 := .int .i64 i) (v1 := .int .i64 ((i + clen ((L s).drop i) : Nat) : Int)) (v2 := .int .i64 (mcls ((L s).drop i))) (v3 := .int .i64 (mcells ((L s).drop i))) bX
    rw [hq] at b1
    rw [hk] at b2
    rw [hnc] at b3
    have hcS := hbS.cell 0
    have hcP := hbP.cell 0
    simp only [List.getElem?_toArray, List.getElem?_cons_zero] at hcS hcP
    have hpl : (posC s pre).length = pre.length := by simp [posC]
    have hgl := layF_len (L s) g0 (posC s pre)
    have hnext : layF (L s) g0 (posC s (pre ++ [⟨i, hbd, hps⟩])) = (layF (L s) g0 (posC s pre)).lay (drawn (L (s.extract i q))) k nc := by
      rw [posC_snoc, layF_snoc, L_take]
      show (layF (L s) g0 (posC s pre)).lay (drawn (cut (L s) i (i + clen ((L s).drop i)))) (mcls ((L s).drop i)) (mcells ((L s).drop i)) = _
      rw [hq, hk, hnc]
      rfl
    obtain ⟨G, hGG⟩ : ∃ G, layF (L s) g0 (posC s pre) = G := ⟨_, rfl⟩
    have hGi : G.Inv := hGG ▸ layF_inv (L s) hg0 (posC s pre)
    rw [hGG] at hG hF hgl hnext
    have HNX := Lib.hid hnext
    have hTW := hTT.below ((show Below W0.heap.size W0 W0 from Below.refl _ _))
    have hTW2 : Tabs W := hT.below hB
    have hoff : GOff p G m := ⟨fun e => by have := hF _ e; have := hW.1; omega, fun e => by have := hF _ e; have := hW.2; omega⟩
    have HL := Lib.hid (glay_ hG hGi (by omega) hTW2 hoff s hs i q (by omega) (by omega) k nc)
    have HG := Lib.hid hG
    have HF := Lib.hid hF
    have HB := Lib.hid hB
    have HbS := Lib.hid hbS
    have HbP := Lib.hid hbP
    have HbW := Lib.hid hbW
    have hBw := hB.size
    clear hG hF hB hbS hbP hbW hnext bX hgl hGG hoff hTW
    dsimp only [clv]
    gi_wp2_with (refine ⟨trivial, ?_⟩; gi_at_call 11; go_loud (refine (CallsIn.inRound l (callsIn_wide.2 HL.out)).mono ?_; rintro e w2 ⟨rfl, m2, ht⟩; have HT2 := Lib.hid ht; clear ht))
    exact ⟨HT2.out.keeps HG.out, HT2.out.kps HG.out HF.out hW.1 hW.2 HbW.out, ⟨⟨⟨by rw [HNX.out]; exact GTurned.new hBw HF.out HT2.out, HT2.out.blk HG.out HbS.out (by decide) (by decide) (by decide)⟩, HT2.out.blk HG.out HbP.out (by decide) (by decide) (by decide)⟩, HT2.out.blk HG.out HbW.out (by decide) (by decide) (by decide)⟩, GTurned.belowB HB.out hBw HT2.out HF.out⟩
  case done =>
    rintro D ys W hD hys ⟨⟨⟨⟨hG, hbS⟩, hbP⟩, hbW⟩, hB⟩ hK
    have hcP := hbP.cell 0
    simp only [List.getElem?_toArray, List.getElem?_cons_zero] at hcP
    gi_wp2
    refine ⟨by simp, .inl ⟨_, _, rfl, run_takeDeferred hK, ?_⟩⟩
    refine ⟨_, results_tmp rfl _ _ _, p, rfl, ?_, hB.trans (belowK_b (w := w) (Nat.le_refl _) W D _ _ (by omega) hK rfl rfl)⟩
    have := (gnew_own w.heap.size p (fun (_ : Unit) => layF (L s) g0 (posC s ys))).putObj (s := ()) (.deferred none) hG hK rfl
    rw [hys] at this
    exact this
  case stop =>
    rintro D c pre W _ _ h _
    exact h.elim
end
end U
end Go.Proofs.YtceomobdolkfgaaDoor
/- The frame of a grid. -/
set_option linter.unusedVariables false
namespace Go.Proofs.YtceomobdolkfgaaDoor
open Go.RowKit Go.Proofs.YtceomobdolkfgaaDoorW.PrintWords Go.Proofs.YtceomobdolkfgaaDoorW.PrintLast Go.Proofs.YtceomobdolkfgaaDoor.Sep Go.Lib
namespace U
/-- The first n rows trimmed. -/
def trs (rows : List Row) : Nat → List Row
  | 0 => rows
  | n + 1 => (trs rows n).set n (trim (rows.getD n []))
theorem trs_len (rows : List Row) : ∀ n, (trs rows n).length = rows.length
  | 0 => rfl
  | n + 1 => by show (List.set _ _ _).length = _; rw [List.length_set, trs_len]
theorem trs_getD (rows : List Row) : ∀ n, n ≤ rows.length → ∀ j, (trs rows n).getD j [] = if j < n then trim (rows.getD j []) else rows.getD j []
  | 0, _, j => rfl
  | n + 1, h, j => by
    show ((trs rows n).set n _).getD j [] = _
    rw [getD_set _ _ _ _ (by rw [trs_len]; omega), trs_getD rows n (by omega)]
    by_cases e : n = j
    · subst e; rw [if_pos rfl, if_pos (by omega)]
    · rw [if_neg e]
      by_cases h2 : j < n
      · rw [if_pos h2, if_pos (by omega)]
      · rw [if_neg h2, if_neg (by omega)]
theorem trs_all (rows : List Row) : trs rows rows.length = rows.map trim := by
  apply List.ext_getElem?
  intro j
  have h := trs_getD rows rows.length (Nat.le_refl _) j
  by_cases hj : j < rows.length
  · rw [if_pos hj, List.getD_eq_getElem?_getD, List.getD_eq_getElem?_getD, List.getElem?_eq_getElem (by rw [trs_len]; exact hj), List.getElem?_eq_getElem hj] at h
    rw [List.getElem?_map, List.getElem?_eq_getElem (by rw [trs_len]; exact hj), List.getElem?_eq_getElem hj]
    exact congrArg some h
  · rw [List.getElem?_eq_none (by rw [trs_len]; omega), List.getElem?_map, List.getElem?_eq_none (by omega)]
    rfl
def LG.trim (g : LG) (n : Nat) : LG := { g with rows := trs g.rows n }
section
variable {w w' : World} {p : Nat} {g : LG} {m : Mem}
theorem GAt.rd (h : GAt w p g m) : RdRows w m.rv g.rows := by
  obtain ⟨A, c, hv, hc⟩ := h.rows.own.form
  have ho := h.rows.own
  refine ⟨A, c, m.vs, hv, hc, ?_, fun i hi => ?_⟩
  · rw [hv] at ho
    exact ho.reads
  · obtain ⟨A2, c2, e, h2, h3⟩ := reads_own (h.rows.row i hi)
    exact ⟨A2, c2, e, h2, h3⟩
set_option maxHeartbeats 8000000
set_option maxRecDepth 100000
theorem gblank_ (w : World) : Calls Tryd.prog 32 #[] w fun e w' => e = .returned (.agg #[.string ⟨#[32]⟩, .int .i64 1]) ∧ Below w.heap.size w w' := by
  go_enter Tryd.func32, Tryd.ntmps32
  go_wp2
  go_returns
  exact ⟨rfl, below_one _ _⟩
theorem res_frame (W : World) (R : Nat) (x0 x1 x2 x3 : Value) (K : Blk W R 28 #[x0, x1, x2, x3]) (tmps : Array Value) (ht : tmps[4]?.getD undef = .pointer (some ⟨R, 0, none⟩)) :
    (results Tryd.f12 tmps).run Tryd.prog W = .ok (.agg #[x0, x1, x2, x3]) W := by
  obtain ⟨c0, c1, c2, c3, -⟩ := Blk.four K
  simp [results, Tryd.results12, go_sem, ht, c0, c1, c2, c3]
theorem gframe_ (h : GAt w p g m) (hi : g.Inv) (hl : g.rows.length ≤ 1073741000) (cr cc : Int) :
    Calls Tryd.prog 12 #[.pointer (some ⟨p, 0, none⟩), .agg #[.int .i64 cr, .int .i64 cc]] w fun e w' => ∃ m', e = .returned (.agg #[.int .i64 g.W, m'.rv, .int .i64 cr, .int .i64 cc]) ∧ GTurned w w' p g m (g.trim g.rows.length) m' := by
  have hir := hi.r
  have hiw := hi.w2
  have hlen := hi.len
  obtain ⟨Wa, hWa⟩ : ∃ Wa, (w.alloc (.cells #[.int .i64 cr, .int .i64 cc] 26)).alloc (.cells #[.int .i64 0, .slice none 0 0, .int .i64 0, .int .i64 0] 28) = Wa := ⟨_, rfl⟩
  have hb0 : Below w.heap.size w Wa := by rw [← hWa]; exact (below_one _ _).alloc (by simp) _
  have bC : Blk Wa w.heap.size 26 #[.int .i64 cr, .int .i64 cc] := by rw [← hWa]; exact (Blk.new w _ _).alloc _
  have bF : Blk Wa (w.heap.size + 1) 28 #[.int .i64 0, .slice none 0 0, .int .i64 0, .int .i64 0] := by
    have := Blk.new (w.alloc (.cells #[.int .i64 cr, .int .i64 cc] 26)) 28 #[.int .i64 0, .slice none 0 0, .int .i64 0, .int .i64 0]
    rw [World.size_alloc] at this
    rw [← hWa]; exact this
  have h1 := h.below hb0
  obtain ⟨b, off, cap, hv, hg, hcg, hcell, hfz⟩ := own_cell h1.rows.own (show 0 < g.rows.length by omega)
  have c1 : Wa.cell? ⟨p, 1, none⟩ = some (.slice (some ⟨b, off, none⟩) g.rows.length cap) := by rw [← hv]; exact h1.blk.cell 1
  have HA := Lib.hid h
  have HA1 := Lib.hid h1
  have HB0 := Lib.hid hb0
  have HV := Lib.hid hv
  have HC := Lib.hid bC
  have HF := Lib.hid bF
  have HLN := Lib.hid hlen
  clear h h1 hi hv hcell hb0 bC bF hlen
  go_enter Tryd.func12, Tryd.ntmps12
  go_wp2
  go_loopg [12] g.rows.length (fun k v12 w' => ∃ (i : Nat) (mi : Mem), v12 = .int .i64 i ∧ i + k = g.rows.length ∧ Hid (GTurned Wa w' p g m (g.trim i) mi) ∧ Hid (mi.rv = m.rv))
  case atStart => exact ⟨0, m, rfl, by omega, Lib.hid (GTurned.refl HA1.out), Lib.hid rfl⟩
  case round =>
    obtain ⟨i, mi, rfl, hik, HT, HM⟩ := hrel
    cases gk with
    | zero =>
      obtain rfl : i = g.rows.length := by omega
      have e1 : decide ((g.rows.length : Int) < (g.rows.length : Int)) = false := decide_eq_false (by omega)
      have hbc := HC.out.upd HT.out.upd (fun e => by have := HA.out.lt _ e; omega)
      have hbf := HF.out.upd HT.out.upd (fun e => by have := HA.out.lt _ e; omega)
      have hat := HT.out.at_
      go_wp2
      refine still_tail 10 (by kernel_rfl) (by kernel_rfl) (fun w9 hw9 => ?_)
      have hb9 : Below wr.heap.size wr w9 := by rw [hw9]; exact drew_below _
      have ha9 := hat.below hb9
      have z0 : w9.cell? ⟨p, 0, none⟩ = some (.int .i64 g.W) := ha9.blk.cell 0
      have z1 : w9.cell? ⟨p, 1, none⟩ = some mi.rv := ha9.blk.cell 1
      have y0 := (Blk.below hbc hb9).cell 0
      have y1 := (Blk.below hbc hb9).cell 1
      have hbf9 := Blk.below hbf hb9
      obtain ⟨f0, f1, f2, f3, k0, k1, k2, k3⟩ := Blk.four hbf9
      have HBF := Lib.hid hbf9
      have HT9 := Lib.hid (HT.out.below hb9)
      have HA9 := Lib.hid ha9
      obtain ⟨Ar, capr, hvr, -⟩ := ha9.rows.own.form
      rw [hvr] at z1
      have HVR := Lib.hid hvr
      simp only [List.take_succ_cons, List.take_zero, List.drop_succ_cons, List.drop_zero]
      clear hw9 hb9 ha9 hbc hbf hbf9 hat hvr
      repeat still_step
      refine wpStill_nil ?_
      go_wp2
      (try simp only [Exit.inBlock, Exit.then])
      refine bodyPost_ret (res_frame _ _ _ _ _ _ (Blk.set4 HBF.out _ _ _ _) _ rfl) rfl ?_
      refine ⟨mi, by rw [HVR.out], ?_⟩
      have hu4 : ∀ (a b c d : Value), Upd (gfoot p g m) w ((((w9.setCell ⟨w.heap.size + 1, 0, none⟩ a).setCell ⟨w.heap.size + 1, 1, none⟩ b).setCell ⟨w.heap.size + 1, 2, none⟩ c).setCell ⟨w.heap.size + 1, 3, none⟩ d) := fun a b c d => by
        have h1 : Upd (gfoot p g m) w w9 := (Upd.below HB0.out _).then_ HT9.out.upd (fun k hk => .inl hk)
        exact (((h1.setCell (p := ⟨w.heap.size + 1, 0, none⟩) (.inr (by show w.heap.size ≤ w.heap.size + 1; omega)) a).setCell (p := ⟨w.heap.size + 1, 1, none⟩) (.inr (by show w.heap.size ≤ w.heap.size + 1; omega)) b).setCell (p := ⟨w.heap.size + 1, 2, none⟩) (.inr (by show w.heap.size ≤ w.heap.size + 1; omega)) c).setCell (p := ⟨w.heap.size + 1, 3, none⟩) (.inr (by show w.heap.size ≤ w.heap.size + 1; omega)) d
      have hne : ∀ k, gfoot p (g.trim g.rows.length) mi k → k ≠ w.heap.size + 1 := fun k hk e => HA9.out.ne HBF.out (by decide) (by decide) (by decide) (e ▸ hk)
      refine ⟨HA9.out.keep (fun k hk => ?_), hu4 _ _ _ _, fun k hk => ?_⟩
      · have hx := hne k hk
        rw [Below.heap_setCell _ _ _ _ hx, Below.heap_setCell _ _ _ _ hx, Below.heap_setCell _ _ _ _ hx, Below.heap_setCell _ _ _ _ hx]
      · rcases HT9.out.foot k hk with e | e
        · exact .inl e
        · exact .inr (Nat.le_trans HB0.out.size e)
    | succ k1 =>
      have hil : i < g.rows.length := by omega
      have e1 : decide ((i : Int) < (g.rows.length : Int)) = true := decide_eq_true (by omega)
      have hin : (i : Int) < (g.rows.length : Int) := by omega
      have hvi : mi.rv = .slice (some ⟨b, off, none⟩) g.rows.length cap := HM.out.trans HV.out
      have htl : (g.trim i).rows.length = g.rows.length := trs_len g.rows i
      obtain ⟨r0f, r0⟩ := GAt.putrow_top HT.out.at_ (i := i) (by rw [htl]; exact hil) (by rw [htl]; exact hvi) (Upd.refl _ _)
      have horow := HT.out.at_.rows.row i (by rw [htl]; exact hil)
      have hqe : (g.trim i).rows.getD i [] = g.rows.getD i [] := by
        show (trs g.rows i).getD i [] = _
        rw [trs_getD _ _ (by omega), if_neg (by omega)]
      rw [hqe] at horow
      have hql := HLN.out i
      obtain ⟨q, hq⟩ : ∃ q, g.rows.getD i [] = q := ⟨_, rfl⟩
      rw [hq] at horow hql
      obtain ⟨A, c, hV, hc⟩ := horow.form
      rw [hV] at r0 horow
      have HQ := Lib.hid hq
      have HVI := Lib.hid hvi
      have HVR := Lib.hid hV
      have HOR := Lib.hid horow
      obtain ⟨w2, hw2⟩ : ∃ x, x = wr := ⟨_, rfl⟩
      subst hw2
      clear hvi hq hV horow hqe
      go_wp2
      go_loopg [6] q.length (fun k v6 w' => ∃ n : Nat, v6 = .slice A n c ∧ n = k ∧ n ≤ q.length ∧ Hid (trim q = trim (q.take n)) ∧ Hid (Below w2.heap.size w2 w'))
      case atStart => exact ⟨q.length, rfl, rfl, Nat.le_refl _, Lib.hid (by rw [List.take_length]), Lib.hid (Below.refl _ _)⟩
      case round =>
        obtain ⟨n, rfl, hnk, hle, HI, HW⟩ := hrel
        subst hnk
        -- INNER BEGIN
        have stop : ¬ (0 < n ∧ q.getD (n - 1) cz = cb) → n = (trim q).length ∧ trim q = q.take (trim q).length := fun h => by
          have hlen : (q.take n).length = n := by rw [List.length_take]; omega
          have e : trim q = q.take n := by
            rw [HI.out]
            refine trim_stop _ (fun hh => h ?_)
            rw [hlen] at hh
            rw [take_getD _ _ _ (by omega)] at hh
            exact hh
          rw [e, hlen]
          exact ⟨rfl, rfl⟩
        have HST := Lib.hid stop
        have HTL := Lib.hid htl
        clear stop htl
        cases n with
        | zero =>
          obtain ⟨h1, h2⟩ := HST.out (by omega)
          have H1 := Lib.hid h1
          have H2 := Lib.hid h2
          clear h1 h2
          go_wp2
          go_quiet (fail)
          go_wp2
          have HW5 := Lib.hid (HW.out.trans ((below_drewN_ (Below.refl wr.heap.size wr) nq).mono HW.out.size))
          generalize wr.drewN nq = w5 at HW5 ⊢
          have HCL := Lib.hid (fun (w0 : World) (hb : Below w5.heap.size w5 w0) => clone_c w0 A 0 c (flat (trim q)) (by
            have ho := HOR.out.keep (w' := w0) (fun k hk => ((HW5.out.trans (hb.mono HW5.out.size)).block k (HOR.out.lt k hk)))
            have hr := reads_take ho.reads (m := 0) hle
            have hf : flat (trim q) = (flat q).take (0 * 2) := by rw [H2.out, ← H1.out, flat_take]
            rw [hf]
            exact hr) (fun u hu => flat_one _ u hu) (by omega))
          have e1c : w5.cell? ⟨p, 1, none⟩ = some (.slice (some ⟨b, off, none⟩) g.rows.length cap) := by rw [← HVI.out]; exact (GAt.below HT.out.at_ HW5.out).blk.cell 1
          refine start_ (n := 9) (S := fun w' => w'.cell? ⟨p, 1, none⟩ = some (.slice (some ⟨b, off, none⟩) g.rows.length cap)) (ds := [8]) #[false, false, false, false, false, false, false, false, false] (by kernel_rfl) rfl rfl (e1c) (fun hHeld => ?_)
          refine pure_ (i := 0) (N := some 35) (v := ?_) (a' := ?_) #[true, false, false, false, false, false, false, false, false] rfl rfl (by kernel_rfl) (fun _ _ _ h => h) (Or.inl ⟨by rfl, ?_⟩) ?_ ?_
          rotate_left
          · intro w'
            go_simp
            with_reducible rfl
          rotate_left
          · simp only [Act.put, List.setIfInBounds_toArray, List.set_cons_zero, List.set_cons_succ, i64_w, i32_w]
            rfl
          refine pure_ (i := 1) (N := some 36) (v := ?_) (a' := ?_) #[true, true, false, false, false, false, false, false, false] rfl rfl (by kernel_rfl) (fun _ _ _ h => h) (Or.inl ⟨by rfl, ?_⟩) ?_ ?_
          rotate_left
          · intro w'
            go_simp
            with_reducible rfl
          rotate_left
          · simp only [Act.put, List.setIfInBounds_toArray, List.set_cons_zero, List.set_cons_succ, i64_w, i32_w]
            rfl
          refine pure_ (i := 2) (N := some 37) (v := ?_) (a' := ?_) #[true, true, true, false, false, false, false, false, false] rfl rfl (by kernel_rfl) (fun _ _ _ h => h) (Or.inl ⟨by rfl, ?_⟩) ?_ ?_
          rotate_left
          · intro w'
            go_simp
            with_reducible rfl
          rotate_left
          · simp only [Act.put, List.setIfInBounds_toArray, List.set_cons_zero, List.set_cons_succ, i64_w, i32_w]
            rfl
          refine pure_ (i := 4) (N := some 39) (v := ?_) (a' := ?_) #[true, true, true, false, true, false, false, false, false] rfl rfl (by kernel_rfl) (fun _ _ _ h => h) (Or.inl ⟨by rfl, ?_⟩) ?_ ?_
          rotate_left
          · intro w'
            go_simp
            with_reducible rfl
          rotate_left
          · simp only [Act.put, List.setIfInBounds_toArray, List.set_cons_zero, List.set_cons_succ, i64_w, i32_w]
            rfl
          refine pure_ (i := 5) (N := some 40) (v := ?_) (a' := ?_) #[true, true, true, false, true, true, false, false, false] rfl rfl (by kernel_rfl) (fun _ _ _ h => h) (Or.inl ⟨by rfl, ?_⟩) ?_ ?_
          rotate_left
          · intro w'
            go_simp
            with_reducible rfl
          rotate_left
          · simp only [Act.put, List.setIfInBounds_toArray, List.set_cons_zero, List.set_cons_succ, i64_w, i32_w]
            rfl
          refine take_ (i := 3) (N := some 38) (v := ?_) (a' := ?_) #[true, true, true, true, true, true, false, false, false] rfl rfl (by kernel_rfl) (fun _ _ _ h => h) (Or.inl ⟨by rfl, ?_⟩) hHeld ?_ ?_
          rotate_left
          · intro w' s0
            go_simp
            with_reducible rfl
          rotate_left
          · simp only [Act.put, List.setIfInBounds_toArray, List.set_cons_zero, List.set_cons_succ, i64_w, i32_w]
            rfl
          refine Go.Proofs.YtceomobdolkfgaaDoorW.PrintLast.one_ (i := 6) (N := some 41) #[true, true, true, true, true, true, true, false, false] rfl rfl (by kernel_rfl) (by decide) (fun K hK => ?_)
          refine goes_ Tryd.func33 (by kernel_rfl) rfl #[.slice A 0 c] (by rfl) rfl rfl (by simp only [List.map_toArray, List.map_cons, List.map_nil]; rfl) ?_
          with_reducible refine (HCL.out _ (drew_below _)).mono ?_
          rintro e w6 ⟨v6, rfl, ho6, hf6, hb6⟩
          refine ⟨_, rfl, ?_⟩
          have hb7 : Below w2.heap.size w2 w6 := HW5.out.trans (((drew_below w5).trans (hb6.mono (drew_below w5).size)).mono HW5.out.size)
          have HB7 := Lib.hid hb7
          have d1 := (GAt.below HT.out.at_ hb7).blk.cell 1
          obtain ⟨bf, bc⟩ := GAt.putrow_top (GAt.below HT.out.at_ hb7) (i := i) (by rw [HTL.out]; exact hil) (by rw [HTL.out]; exact HVI.out) (Upd.refl _ _)
          have d2 : w6.cell? ⟨p, 1, none⟩ = some (.slice (some ⟨b, off, none⟩) g.rows.length cap) := by rw [← HVI.out]; exact d1
          obtain ⟨A6, c6, rfl, hc6⟩ := ho6.form
          have HO6 := Lib.hid ho6
          have HF6 := Lib.hid hf6
          clear ho6 hf6 hb6 hb7 d1
          refine hK.out _ _ (d2) (fun hHeld => ?_)
          clear hK K
          refine norm_ (a' := ?_) ?_ ?_
          rotate_left
          · show Act.put _ (some 41) _ = _
            simp only [Act.put, List.setIfInBounds_toArray, List.set_cons_zero, List.set_cons_succ, i64_w, i32_w]
            rfl
          refine pure_ (i := 7) (N := some 42) (v := ?_) (a' := ?_) #[true, true, true, true, true, true, true, true, false] rfl rfl (by kernel_rfl) (fun _ _ _ h => h) (Or.inl ⟨by rfl, ?_⟩) ?_ ?_
          rotate_left
          · intro w'
            go_simp
            with_reducible rfl
          rotate_left
          · simp only [Act.put, List.setIfInBounds_toArray, List.set_cons_zero, List.set_cons_succ, i64_w, i32_w]
            rfl
          refine Go.Proofs.YtceomobdolkfgaaDoorW.PrintLast.last_ (i := 8) (N := none) #[true, true, true, true, true, true, true, true, true] rfl rfl (by kernel_rfl) (by decide) (fun K hK => ?_)
          refine skip_ (w1 := ?_) (by rfl) rfl ?_ ?_
          rotate_left
          · go_simp
            rfl
          refine hK.out _ _ ?_
          clear hK K
          refine Go.Proofs.YtceomobdolkfgaaDoorW.PrintLast.done_ (by kernel_rfl) ?_
          have hte : 0 = (trim q).length := H1.out
          have hu6 : Upd (fun k => (mi.v i).ownBlock = some k) w2 w6 := Upd.below HB7.out _
          have ht8 := GAt.putrow (r' := trim q) HT.out.at_ (i := i) (by rw [HTL.out]; exact hil) (by rw [HTL.out]; exact HVI.out) hu6 (by rw [← hte]; exact HO6.out) (fun k hk => .inr (Nat.le_trans HW5.out.size (Nat.le_trans (drew_below w5).size (HF6.out k hk))))
          have HT8 := Lib.hid (HT.out.trans ht8)
          clear ht8 hte hu6 bf bc d2 e1c
          go_wp2
          go_roundg k1
          case measure => omega
          case rel => exact ⟨i + 1, ⟨mi.rv, mi.vs.set i (.slice A6 0 c6)⟩, by simp, by omega, Lib.hid (by have := HT8.out; rw [← HQ.out] at this; exact this), HM⟩
        | succ n =>
          have hcn : ((n : Nat) : Int) + 1 - 1 = (n : Int) := by omega
          obtain ⟨bq, oq, cq, eq_, hbq, -, hcellq, -⟩ := own_cell HOR.out (show 0 < q.length by omega)
          injection eq_ with eA _ eC
          subst eA eC
          obtain ⟨f0, f1⟩ := flat_at q n (by omega)
          have c0 := (HW.out.cell (p := ⟨bq, oq + n * 2, none⟩) hbq).trans (hcellq _ _ f0)
          have c1' := (HW.out.cell (p := ⟨bq, oq + (n * 2 + 1), none⟩) hbq).trans (hcellq _ _ f1)
          rw [← Nat.add_assoc] at c1'
          clear hcellq f0 f1
          have hinq : (n : Int) < (q.length : Int) := by omega
          obtain ⟨x, hx⟩ : ∃ x, q.getD n cz = x := ⟨_, rfl⟩
          rw [hx] at c0 c1'
          have heq := fun w0 => eql_c w0 x cb
          unfold cagg at heq
          obtain ⟨ι, hι, Wf, hWf1, hWf2⟩ := world_class wr
          have g0 := fun j => ((hWf1 j).cell (p := ⟨bq, oq + n * 2, none⟩) (Nat.lt_of_lt_of_le hbq HW.out.size)).trans c0
          have g1 := fun j => ((hWf1 j).cell (p := ⟨bq, oq + n * 2 + 1, none⟩) (Nat.lt_of_lt_of_le hbq HW.out.size)).trans c1'
          have Q1 : Hid (∀ j, Calls Tryd.prog 32 #[] (Wf j) fun e w'' => e = .returned (.agg #[.string ⟨#[32]⟩, .int .i64 1]) ∧ ∃ j, w'' = Wf j) := Lib.hid (fun j => (gblank_ _).mono (fun e w1 h1 => ⟨h1.1, hWf2 _ ((hWf1 j).trans (h1.2.mono (hWf1 j).size))⟩))
          have HF1 := Lib.hid hWf1
          have hdr := hWf2 _ (show Below wr.heap.size wr wr.drew from ⟨rfl, rfl, rfl, Nat.le_refl _, fun _ _ => rfl⟩)
          clear hWf1 hWf2
          have hn1 : ((n : Int) + 1) ≤ (c : Int) := by omega
          have hn2 : (n : Int) ≤ (c : Int) := by omega
          by_cases hb : x = cb
          · rw [decide_eq_true hb] at heq
            have HT2 : Hid (trim q = trim (q.take n)) := Lib.hid (by
              have hlen : (q.take (n + 1)).length = n + 1 := by rw [List.length_take]; omega
              rw [HI.out, trim_go _ (by rw [hlen]; omega) (by rw [hlen, take_getD _ _ _ (by omega)]; show q.getD n cz = cb; rw [hx, hb]), List.take_take, hlen]
              congr 2
              omega)
            clear hb hx
            obtain ⟨xt, xn⟩ := x
            dsimp only at c0 c1' heq g0 g1
            go_wp2
            refine region_class Wf (by kernel_rfl) (by kernel_rfl) hdr ?_
            clear hdr
            repeat (go_big_quiet_step (first | (go_at_call 32; with_reducible exact Q1.out _)))
            refine wpQuiet_nil ?_
            intro w9 hw9
            obtain ⟨j9, rfl⟩ := hw9
            go_wp2
            go_roundg n
            case measure => omega
            case rel => exact ⟨n, rfl, rfl, by omega, HT2, Lib.hid (HW.out.trans ((HF1.out j9).mono HW.out.size))⟩
          · rw [decide_eq_false hb] at heq
            obtain ⟨h1, h2⟩ := HST.out (fun hh => hb (by rw [← hx]; exact hh.2))
            have H1 := Lib.hid h1
            have H2 := Lib.hid h2
            clear h1 h2 hb hx
            obtain ⟨xt, xn⟩ := x
            dsimp only at c0 c1' heq g0 g1
            go_wp2
            refine region_class Wf (by kernel_rfl) (by kernel_rfl) hdr ?_
            clear hdr
            repeat (go_big_quiet_step (first | (go_at_call 32; with_reducible exact Q1.out _)))
            refine wpQuiet_nil ?_
            intro w9 hw9
            obtain ⟨j9, rfl⟩ := hw9
            go_wp2
            have HW5 := Lib.hid (HW.out.trans ((HF1.out j9).mono HW.out.size))
            clear g0 g1
            generalize Wf j9 = w5 at HW5 ⊢
            obtain ⟨nn, hnn⟩ : ∃ nn, n + 1 = nn := ⟨_, rfl⟩
            rw [hnn] at H1 hle
            rw [show Value.slice (some ⟨bq, oq, none⟩) (n + 1) c = Value.slice (some ⟨bq, oq, none⟩) nn c by rw [hnn]]
            have HCL := Lib.hid (fun (w0 : World) (hb : Below w5.heap.size w5 w0) => clone_c w0 (some ⟨bq, oq, none⟩) nn c (flat (trim q)) (by
              have ho := HOR.out.keep (w' := w0) (fun k hk => ((HW5.out.trans (hb.mono HW5.out.size)).block k (HOR.out.lt k hk)))
              have hr := reads_take ho.reads (m := nn) hle
              have hf : flat (trim q) = (flat q).take (nn * 2) := by rw [H2.out, ← H1.out, flat_take]
              rw [hf]
              exact hr) (fun u hu => flat_one _ u hu) (by omega))
            have e1c : w5.cell? ⟨p, 1, none⟩ = some (.slice (some ⟨b, off, none⟩) g.rows.length cap) := by rw [← HVI.out]; exact (GAt.below HT.out.at_ HW5.out).blk.cell 1
            refine start_ (n := 9) (S := fun w' => w'.cell? ⟨p, 1, none⟩ = some (.slice (some ⟨b, off, none⟩) g.rows.length cap)) (ds := [8]) #[false, false, false, false, false, false, false, false, false] (by kernel_rfl) rfl rfl (e1c) (fun hHeld => ?_)
            refine pure_ (i := 0) (N := some 35) (v := ?_) (a' := ?_) #[true, false, false, false, false, false, false, false, false] rfl rfl (by kernel_rfl) (fun _ _ _ h => h) (Or.inl ⟨by rfl, ?_⟩) ?_ ?_
            rotate_left
            · intro w'
              go_simp
              with_reducible rfl
            rotate_left
            · simp only [Act.put, List.setIfInBounds_toArray, List.set_cons_zero, List.set_cons_succ, i64_w, i32_w]
              rfl
            refine pure_ (i := 1) (N := some 36) (v := ?_) (a' := ?_) #[true, true, false, false, false, false, false, false, false] rfl rfl (by kernel_rfl) (fun _ _ _ h => h) (Or.inl ⟨by rfl, ?_⟩) ?_ ?_
            rotate_left
            · intro w'
              go_simp
              with_reducible rfl
            rotate_left
            · simp only [Act.put, List.setIfInBounds_toArray, List.set_cons_zero, List.set_cons_succ, i64_w, i32_w]
              rfl
            refine pure_ (i := 2) (N := some 37) (v := ?_) (a' := ?_) #[true, true, true, false, false, false, false, false, false] rfl rfl (by kernel_rfl) (fun _ _ _ h => h) (Or.inl ⟨by rfl, ?_⟩) ?_ ?_
            rotate_left
            · intro w'
              go_simp
              with_reducible rfl
            rotate_left
            · simp only [Act.put, List.setIfInBounds_toArray, List.set_cons_zero, List.set_cons_succ, i64_w, i32_w]
              rfl
            refine pure_ (i := 4) (N := some 39) (v := ?_) (a' := ?_) #[true, true, true, false, true, false, false, false, false] rfl rfl (by kernel_rfl) (fun _ _ _ h => h) (Or.inl ⟨by rfl, ?_⟩) ?_ ?_
            rotate_left
            · intro w'
              go_simp
              with_reducible rfl
            rotate_left
            · simp only [Act.put, List.setIfInBounds_toArray, List.set_cons_zero, List.set_cons_succ, i64_w, i32_w]
              rfl
            refine pure_ (i := 5) (N := some 40) (v := ?_) (a' := ?_) #[true, true, true, false, true, true, false, false, false] rfl rfl (by kernel_rfl) (fun _ _ _ h => h) (Or.inl ⟨by rfl, ?_⟩) ?_ ?_
            rotate_left
            · intro w'
              go_simp
              with_reducible rfl
            rotate_left
            · simp only [Act.put, List.setIfInBounds_toArray, List.set_cons_zero, List.set_cons_succ, i64_w, i32_w]
              rfl
            refine take_ (i := 3) (N := some 38) (v := ?_) (a' := ?_) #[true, true, true, true, true, true, false, false, false] rfl rfl (by kernel_rfl) (fun _ _ _ h => h) (Or.inl ⟨by rfl, ?_⟩) hHeld ?_ ?_
            rotate_left
            · intro w' s0
              go_simp
              with_reducible rfl
            rotate_left
            · simp only [Act.put, List.setIfInBounds_toArray, List.set_cons_zero, List.set_cons_succ, i64_w, i32_w]
              rfl
            refine Go.Proofs.YtceomobdolkfgaaDoorW.PrintLast.one_ (i := 6) (N := some 41) #[true, true, true, true, true, true, true, false, false] rfl rfl (by kernel_rfl) (by decide) (fun K hK => ?_)
            refine goes_ Tryd.func33 (by kernel_rfl) rfl #[.slice (some ⟨bq, oq, none⟩) nn c] (by rfl) rfl rfl (by simp only [List.map_toArray, List.map_cons, List.map_nil]; rfl) ?_
            with_reducible refine (HCL.out _ (drew_below _)).mono ?_
            rintro e w6 ⟨v6, rfl, ho6, hf6, hb6⟩
            refine ⟨_, rfl, ?_⟩
            have hb7 : Below w2.heap.size w2 w6 := HW5.out.trans (((drew_below w5).trans (hb6.mono (drew_below w5).size)).mono HW5.out.size)
            have HB7 := Lib.hid hb7
            have d1 := (GAt.below HT.out.at_ hb7).blk.cell 1
            obtain ⟨bf, bc⟩ := GAt.putrow_top (GAt.below HT.out.at_ hb7) (i := i) (by rw [HTL.out]; exact hil) (by rw [HTL.out]; exact HVI.out) (Upd.refl _ _)
            have d2 : w6.cell? ⟨p, 1, none⟩ = some (.slice (some ⟨b, off, none⟩) g.rows.length cap) := by rw [← HVI.out]; exact d1
            obtain ⟨A6, c6, rfl, hc6⟩ := ho6.form
            have HO6 := Lib.hid ho6
            have HF6 := Lib.hid hf6
            clear ho6 hf6 hb6 hb7 d1
            refine hK.out _ _ (d2) (fun hHeld => ?_)
            clear hK K
            refine norm_ (a' := ?_) ?_ ?_
            rotate_left
            · show Act.put _ (some 41) _ = _
              simp only [Act.put, List.setIfInBounds_toArray, List.set_cons_zero, List.set_cons_succ, i64_w, i32_w]
              rfl
            refine pure_ (i := 7) (N := some 42) (v := ?_) (a' := ?_) #[true, true, true, true, true, true, true, true, false] rfl rfl (by kernel_rfl) (fun _ _ _ h => h) (Or.inl ⟨by rfl, ?_⟩) ?_ ?_
            rotate_left
            · intro w'
              go_simp
              with_reducible rfl
            rotate_left
            · simp only [Act.put, List.setIfInBounds_toArray, List.set_cons_zero, List.set_cons_succ, i64_w, i32_w]
              rfl
            refine Go.Proofs.YtceomobdolkfgaaDoorW.PrintLast.last_ (i := 8) (N := none) #[true, true, true, true, true, true, true, true, true] rfl rfl (by kernel_rfl) (by decide) (fun K hK => ?_)
            refine skip_ (w1 := ?_) (by rfl) rfl ?_ ?_
            rotate_left
            · go_simp
              rfl
            refine hK.out _ _ ?_
            clear hK K
            refine Go.Proofs.YtceomobdolkfgaaDoorW.PrintLast.done_ (by kernel_rfl) ?_
            have hte : nn = (trim q).length := H1.out
            have hu6 : Upd (fun k => (mi.v i).ownBlock = some k) w2 w6 := Upd.below HB7.out _
            have ht8 := GAt.putrow (r' := trim q) HT.out.at_ (i := i) (by rw [HTL.out]; exact hil) (by rw [HTL.out]; exact HVI.out) hu6 (by rw [← hte]; exact HO6.out) (fun k hk => .inr (Nat.le_trans HW5.out.size (Nat.le_trans (drew_below w5).size (HF6.out k hk))))
            have HT8 := Lib.hid (HT.out.trans ht8)
            clear ht8 hte hu6 bf bc d2 e1c
            go_wp2
            go_roundg k1
            case measure => omega
            case rel => exact ⟨i + 1, ⟨mi.rv, mi.vs.set i (.slice A6 nn c6)⟩, by simp, by omega, Lib.hid (by have := HT8.out; rw [← HQ.out] at this; exact this), HM⟩
        -- INNER END
end
end U
end Go.Proofs.YtceomobdolkfgaaDoor
/- layout.Lay. -/
set_option linter.unusedVariables false
namespace Go.Proofs.YtceomobdolkfgaaDoor
open Go.RowKit Go.Shelf Go.Proofs.YtceomobdolkfgaaDoorW.PrintWords Go.Proofs.YtceomobdolkfgaaDoor.Sep Go.Lib
attribute [local go_sem] Oper.semAt_some
namespace U
/-- A cluster laid, and where the cursor is then. -/
def layS (t : Bs) (cur : Int) (st : LG × Nat × Nat) (c : Cl) : LG × Nat × Nat :=
  let g := st.1.lay (drawn (cut t c.at_ c.to_)) c.cls c.cells
  (g, if (c.to_ : Int) ≤ cur then (g.r, g.c) else st.2)
def layA (t : Bs) (cur : Int) (st : LG × Nat × Nat) (cs : List Cl) : LG × Nat × Nat := cs.foldl (layS t cur) st
theorem layA_snoc (t : Bs) (cur : Int) (st : LG × Nat × Nat) (cs : List Cl) (c : Cl) : layA t cur st (cs ++ [c]) = layS t cur (layA t cur st cs) c := by unfold layA; rw [List.foldl_append]; rfl
theorem layA_fst (t : Bs) (cur : Int) (st : LG × Nat × Nat) (cs : List Cl) : (layA t cur st cs).1 = layF t st.1 cs := by
  induction cs generalizing st with
  | nil => rfl
  | cons c cs ih => exact ih _
def lay (prompt text : Bs) (cur : Int) (W : Nat) : LG × Nat × Nat :=
  let g := gridOf prompt W
  layA text (max cur 0) (g, g.r, g.c) (clus 0 text)
theorem blk_ownf {β : Type} (B : Nat) (t : TypeId) (f : β → Array Value) : Own (fun s W => Blk W B t (f s)) := fun _ X Y row hs hg hr =>
  (hg.block B hs.lt (fun e => by obtain ⟨o, ho, hc⟩ := hr B e.symm; rw [show X.heap[B]? = _ from hs] at ho; cases ho; cases hc)).trans hs
theorem res_lay (W : World) (R : Nat) (x0 x1 x2 x3 : Value) (K : Blk W R 28 #[x0, x1, x2, x3]) (tmps : Array Value) (ht : tmps[8]?.getD undef = .pointer (some ⟨R, 0, none⟩)) :
    (results Tryd.f4 tmps).run Tryd.prog W = .ok (.agg #[x0, x1, x2, x3]) W := by
  obtain ⟨c0, c1, c2, c3, -⟩ := Blk.four K
  simp [results, Tryd.results4, go_sem, ht, c0, c1, c2, c3]
def GridAt (B p : Nat) (g : LG) (W : World) : Prop := GNew B p g W
theorem KeepsFrom.of_set2 {B : Nat} {w : World} {b : Nat} {t : TypeId} {cs : Array Value} (h : Blk w b t cs) (u v : Value) : KeepsFrom B w ((w.setCell ⟨b, 0, none⟩ u).setCell ⟨b, 1, none⟩ v) :=
  ⟨by simp [World.setCell], fun k o _ hk ho => by
    have hne : k ≠ b := fun e => by subst e; rw [show w.heap[k]? = _ from h] at hk; cases hk; cases ho
    rw [Below.heap_setCell _ ⟨b, 1, none⟩ _ _ hne, Below.heap_setCell _ ⟨b, 0, none⟩ _ _ hne]
    exact hk⟩
set_option maxHeartbeats 4000000
set_option maxRecDepth 100000
theorem lay_ (pr s : ByteArray) (cur n : Int) (w : World) (hT : Tabs w) (hp : pr.size ≤ 4194304) (hs : s.size ≤ 4194304) :
    Calls Tryd.prog 4 #[.string pr, .string s, .int .i64 cur, .int .i64 n] w fun e w' => ∃ v, e = .returned (.agg #[.int .i64 (lay (L pr) (L s) cur (min (max n 1) 65535).toNat).1.W, v, .int .i64 (lay (L pr) (L s) cur (min (max n 1) 65535).toNat).2.1, .int .i64 (lay (L pr) (L s) cur (min (max n 1) 65535).toNat).2.2]) ∧
      RdRows w' v ((lay (L pr) (L s) cur (min (max n 1) 65535).toNat).1.rows.map trim) ∧ Below w.heap.size w w' := by
  have hcl := clus_len (L s) _ 0 (Nat.le_refl _)
  rw [L_len] at hcl
  have hclp := clus_len (L pr) _ 0 (Nat.le_refl _)
  rw [L_len] at hclp
  have hlS := L_len s
  have hg0 : (gridOf (L pr) (min (max n 1) 65535).toNat).Inv := layF_inv _ (gnew_inv (min (max n 1) 65535).toNat (by omega) (by omega)) _
  have hg0l : (gridOf (L pr) (min (max n 1) 65535).toNat).rows.length ≤ 1 + 3 * 4194304 := by
    have h1 := layF_len (L pr) (LG.new (min (max n 1) 65535).toNat) (clus 0 (L pr))
    have h2 : (LG.new (min (max n 1) 65535).toNat).rows.length = 1 := rfl
    have h3 : (clus 0 (L pr)).length ≤ 4194304 := by have := hclp; simp at this; omega
    unfold gridOf
    omega
  have HPR := Lib.hid (fun w0 (hb : Below w.heap.size w w0) => prompted_ pr n w0 (hT.below hb) hp)
  unfold lay
  generalize gridOf (L pr) (min (max n 1) 65535).toNat = g0 at hg0 hg0l HPR ⊢
  dsimp only
  refine (callsIn_wide (n := 6)).1 ?_
  refine callsIn_of_wp_marks Tryd.func4 rfl trivial ?_ rfl
  simp only [Tryd.ntmps4, List.size_toArray, List.length_cons, List.length_nil, Nat.reduceAdd, Nat.reduceSub, Array.replicate_succ, Array.replicate_zero, List.push_toArray, List.append_toArray, List.nil_append, List.cons_append]
  obtain ⟨Wa, hWa⟩ : ∃ Wa, ((((w.alloc (.cells #[.string s] 9)).alloc (.cells #[.int .i64 cur] 3)).alloc (.cells #[.int .i64 0, .slice none 0 0, .int .i64 0, .int .i64 0] 28)).setCell ⟨w.heap.size + 1, 0, none⟩ (.int .i64 (max cur 0))) = Wa := ⟨_, rfl⟩
  have hba : Below w.heap.size w Wa := by
    rw [← hWa]
    exact (((below_one _ _).alloc (by simp) _).alloc (by simp; omega) _).setCell (p := ⟨w.heap.size + 1, 0, none⟩) (by show w.heap.size ≤ w.heap.size + 1; omega) _
  have hza : Wa.heap.size = w.heap.size + 3 := by rw [← hWa]; simp [World.setCell]
  have bS : Blk Wa w.heap.size 9 #[.string s] := by
    rw [← hWa]; exact (((Blk.new w _ _).alloc _).alloc _).far (by show w.heap.size ≠ w.heap.size + 1; omega) _
  have bC : Blk Wa (w.heap.size + 1) 3 #[.int .i64 (max cur 0)] := by
    have := Blk.new (w.alloc (.cells #[.string s] 9)) 3 #[.int .i64 cur]
    rw [World.size_alloc] at this
    rw [← hWa]; exact (this.alloc _).set_ 0 _
  have bR : Blk Wa (w.heap.size + 2) 28 #[.int .i64 0, .slice none 0 0, .int .i64 0, .int .i64 0] := by
    have := Blk.new ((w.alloc (.cells #[.string s] 9)).alloc (.cells #[.int .i64 cur] 3)) 28 #[.int .i64 0, .slice none 0 0, .int .i64 0, .int .i64 0]
    rw [World.size_alloc, World.size_alloc] at this
    rw [← hWa]; exact this.far (by show w.heap.size + 1 + 1 ≠ w.heap.size + 1; omega) _
  have HPW := Lib.hid (HPR.out Wa hba)
  gi_wp2_with (first
    | (refine ⟨trivial, ?_⟩; gi_at_call 9; refine (callsIn_wide.2 HPW.out).mono ?_; rintro e w1 ⟨p, rfl, hgn, hb1⟩; obtain ⟨m1, hm1, hf1⟩ := hgn; have hm2 := hm1.below (below_one w1 (.cells #[.pointer (some ⟨p, 0, none⟩)] 39)); have c2 : (w1.alloc (.cells #[.pointer (some ⟨p, 0, none⟩)] 39)).cell? ⟨p, 2, none⟩ = some (.int .i64 g0.r) := hm2.blk.cell 2; have c3 : (w1.alloc (.cells #[.pointer (some ⟨p, 0, none⟩)] 39)).cell? ⟨p, 3, none⟩ = some (.int .i64 g0.c) := hm2.blk.cell 3; have cS : ((w1.alloc (.cells #[.pointer (some ⟨p, 0, none⟩)] 39)).alloc (.cells #[.int .i64 g0.r, .int .i64 g0.c] 26)).cell? ⟨w.heap.size, 0, none⟩ = some (.string s) := (((Blk.below bS hb1).alloc _).alloc _).cell 0)
    | (refine ⟨trivial, ?_⟩; gi_at_call 10; refine (callsIn_wide.2 (walk_ s _)).mono ?_; rintro e w2 ⟨rfl, rfl⟩))
  obtain ⟨Wb, hWb⟩ : ∃ Wb, (w1.alloc (.cells #[.pointer (some ⟨p, 0, none⟩)] 39)).alloc (.cells #[.int .i64 g0.r, .int .i64 g0.c] 26) = Wb := ⟨_, rfl⟩
  have hb1' : Below w.heap.size w w1 := hba.trans (hb1.mono hba.size)
  have bP : Blk Wb w1.heap.size 39 #[.pointer (some ⟨p, 0, none⟩)] := by rw [← hWb]; exact (Blk.new w1 _ _).alloc _
  have bA : Blk Wb (w1.heap.size + 1) 26 #[.int .i64 g0.r, .int .i64 g0.c] := by
    have := Blk.new (w1.alloc (.cells #[.pointer (some ⟨p, 0, none⟩)] 39)) 26 #[.int .i64 g0.r, .int .i64 g0.c]
    rw [World.size_alloc] at this
    rw [← hWb]; exact this
  have h1b : Below w1.heap.size w1 Wb := by rw [← hWb]; exact (below_one _ _).alloc (by simp) _
  have hszb : Wb.heap.size = w1.heap.size + 2 := by rw [← hWb]; simp
  have hszb' : Wb.heap.size = w1.heap.size + 1 + 1 := by omega
  rw [hWb] at cS ⊢
  obtain ⟨W0, hW0⟩ : ∃ W0, Wb.alloc (.cells #[.string s] 9) = W0 := ⟨_, rfl⟩
  have h01 : Below w1.heap.size w1 W0 := by rw [← hW0]; exact h1b.alloc h1b.size _
  have hB0 : Below w.heap.size w W0 := hb1'.trans (h01.mono hb1'.size)
  have ha1 := hb1.size
  have bW : Blk W0 (w1.heap.size + 1 + 1) 9 #[.string s] := by rw [← hW0, ← hszb']; exact Blk.new _ _ _
  have bP0 : Blk W0 w1.heap.size 39 #[.pointer (some ⟨p, 0, none⟩)] := by rw [← hW0]; exact bP.alloc _
  have bA0 : Blk W0 (w1.heap.size + 1) 26 #[.int .i64 g0.r, .int .i64 g0.c] := by rw [← hW0]; exact bA.alloc _
  have bS0 : Blk W0 w.heap.size 9 #[.string s] := Blk.below (Blk.below bS hb1) h01
  have bC0 : Blk W0 (w.heap.size + 1) 3 #[.int .i64 (max cur 0)] := Blk.below (Blk.below bC hb1) h01
  have bR0 : Blk W0 (w.heap.size + 2) 28 #[.int .i64 0, .slice none 0 0, .int .i64 0, .int .i64 0] := Blk.below (Blk.below bR hb1) h01
  have hG0 : GNew w.heap.size p g0 W0 := GNew.below ⟨m1, hm1, fun k hk => by have := hf1 k hk; omega⟩ h01
  have hTT := hT.below hB0
  have hsz : W0.heap.size = w1.heap.size + 3 := by rw [← hW0, World.size_alloc, hszb]
  have hws := hb1'.size
  rw [hW0]
  have hW := hT.two
  clear hWb hW0 hWa HPW hm1 hf1 hm2 c2 c3 cS bP bA bS bC bR HPR hba h1b h01 hb1
  obtain ⟨C, hC⟩ : ∃ C, max cur 0 = C := ⟨_, rfl⟩
  rw [hC] at bC0 ⊢
  have HCC := Lib.hid hC
  clear hC
  refine wpIn_rangeFunc_ownH rfl (by omega) (gf := 25) (lb := #[.pointer (some ⟨w1.heap.size + 1 + 1, 0, none⟩)]) rfl trivial (enters_of Tryd.func25 (by kernel_rfl) rfl)
    (walk_stops (6 - 1) (by omega) s (by omega) (w1.heap.size + 1 + 1) W0 (bW.cell 0) hTT s.size hcl) KpS.t (fun W l o o' hl h _ _ => KpS.b_ (by omega) W l o o' hl h) (Below.refl _ _) (fun _ => rfl)
    (fun pre W => (((((((GNew w.heap.size p (layA (L s) C (g0, g0.r, g0.c) (posC s pre)).1 W ∧ Blk W w.heap.size 9 #[.string s]) ∧ Blk W (w.heap.size + 1) 3 #[.int .i64 C]) ∧ Blk W (w.heap.size + 2) 28 #[.int .i64 0, .slice none 0 0, .int .i64 0, .int .i64 0]) ∧ Blk W w1.heap.size 39 #[.pointer (some ⟨p, 0, none⟩)]) ∧
      Blk W (w1.heap.size + 1) 26 #[.int .i64 (layA (L s) C (g0, g0.r, g0.c) (posC s pre)).2.1, .int .i64 (layA (L s) C (g0, g0.r, g0.c) (posC s pre)).2.2]) ∧ Blk W (w1.heap.size + 1 + 1) 9 #[.string s]) ∧ Below w.heap.size w W))
    (fun _ _ _ => False)
    (OwnFrom.and (OwnFrom.and (OwnFrom.and (OwnFrom.and (OwnFrom.and (OwnFrom.and (OwnFrom.and (Own.from (gnew_own _ _ (fun pre => (layA (L s) C (g0, g0.r, g0.c) (posC s pre)).1)) _) (Own.from (blk_own _ _ _) _)) (Own.from (blk_own _ _ _) _)) (Own.from (blk_own _ _ _) _)) (Own.from (blk_own _ _ _) _))
      (Own.from (blk_ownf _ _ (fun pre => #[.int .i64 (layA (L s) C (g0, g0.r, g0.c) (posC s pre)).2.1, .int .i64 (layA (L s) C (g0, g0.r, g0.c) (posC s pre)).2.2])) _)) (Own.from (blk_own _ _ _) _)) (ownFrom_below (Nat.le_refl _) (by omega)))
    (fun _ _ _ _ _ hs _ _ => hs)
    ⟨⟨⟨⟨⟨⟨⟨hG0, bS0⟩, bC0⟩, bR0⟩, bP0⟩, bA0⟩, bW⟩, hB0⟩
    (fun x a' W => ∃ Bx, Blk W Bx 48 (clcells (clAt (L s) x.1)).toArray ∧ a' = { tmps := #[.string pr, .string s, .int .i64 cur, .int .i64 n, undef, .pointer (some ⟨w.heap.size, 0, none⟩), .pointer (some ⟨w.heap.size + 1, 0, none⟩), undef, .pointer (some ⟨w.heap.size + 1 + 1, 0, none⟩), .pointer (some ⟨w1.heap.size, 0, none⟩), .pointer (some ⟨w1.heap.size + 1, 0, none⟩), .pointer (some ⟨Bx, 0, none⟩), .int .i64 cur, .int .i64 C, .string pr, .int .i64 n, .pointer (some ⟨p, 0, none⟩), .pointer (some ⟨p, 0, none⟩), .pointer (some ⟨p, 0, none⟩), .pointer (some ⟨p, 2, none⟩), .agg #[.int .i64 g0.r, .int .i64 g0.c], .string s, .func (.func 25) #[] #[.pointer (some ⟨w1.heap.size + 1 + 1, 0, none⟩)], .agg (clv x.1 (x.1 + clen ((L s).drop x.1) : Nat) (mcls ((L s).drop x.1)) (mcells ((L s).drop x.1))), undef, undef, undef, undef, undef, undef, undef, undef, undef, undef, undef, undef, undef, undef, undef], defers := [] })
    (fun x a' _ X Y row hs hg hr => by
      obtain ⟨Bx, h2, h3⟩ := hs
      refine ⟨Bx, ?_, h3⟩
      exact (hg.block Bx h2.lt (fun e => by obtain ⟨o, ho, hc⟩ := (hr Bx e.symm).2; rw [h2] at ho; cases ho; cases hc)).trans h2)
    ?assign ?body ?done ?stop
  case assign =>
    rintro l pre x W K ⟨⟨⟨⟨⟨⟨⟨hG, hbS⟩, hbC⟩, hbR⟩, hbP⟩, hbA⟩, hbW⟩, hB⟩ hK
    dsimp only [posV, clv]
    gi_wp2
    exact hK _ _ ((KeepsOthers.alloc _ _).from _) (KpS.of_below (below_one _ _)) ⟨⟨⟨⟨⟨⟨⟨hG.below (below_one _ _), hbS.alloc _⟩, hbC.alloc _⟩, hbR.alloc _⟩, hbP.alloc _⟩, hbA.alloc _⟩, hbW.alloc _⟩, hB.alloc hB.size _⟩ ⟨W.heap.size, Blk.new W _ _, rfl⟩
  case body =>
    rintro l pre x a' W hl ⟨r, hr⟩ ⟨⟨⟨⟨⟨⟨⟨⟨m, hG, hF⟩, hbS⟩, hbC⟩, hbR⟩, hbP⟩, hbA⟩, hbW⟩, hB⟩ ⟨Bx, bX, rfl⟩ hlt
    obtain ⟨i, hbd, hps⟩ := x
    have hps' : i < (L s).length := by omega
    obtain ⟨q, hq⟩ : ∃ q, i + clen ((L s).drop i) = q := ⟨_, rfl⟩
    have hin := clen_in (L s) i hps'
    rw [hq] at hin
    obtain ⟨k, hk⟩ : ∃ k, mcls ((L s).drop i) = k := ⟨_, rfl⟩
    obtain ⟨nc, hnc⟩ : ∃ nc, mcells ((L s).drop i) = nc := ⟨_, rfl⟩
    have bX2 : Blk W Bx 48 #[.int .i64 i, .int .i64 q, .int .i64 k, .int .i64 nc] := by
      refine Blk.eq_ bX ?_
      show #[Value.int .i64 i, .int .i64 ((i + clen ((L s).drop i) : Nat) : Int), .int .i64 (mcls ((L s).drop i)), .int .i64 (mcells ((L s).drop i))] = _
      rw [hq, hk, hnc]
    obtain ⟨b0, b1, b2, b3, -⟩ := Blk.four bX2
    have hcS := hbS.cell 0
    have hcP := hbP.cell 0
    simp only [List.getElem?_toArray, List.getElem?_cons_zero] at hcS hcP
    have hpl : (posC s pre).length = pre.length := by simp [posC]
    obtain ⟨st, hst⟩ : ∃ st, layA (L s) C (g0, g0.r, g0.c) (posC s pre) = st := ⟨_, rfl⟩
    have hs1 : st.1 = layF (L s) g0 (posC s pre) := by rw [← hst, layA_fst]
    have hgl := layF_len (L s) g0 (posC s pre)
    rw [← hs1] at hgl
    have hGi : st.1.Inv := hs1 ▸ layF_inv (L s) hg0 (posC s pre)
    rw [hst] at hG hF hbA
    have hnext : layA (L s) C (g0, g0.r, g0.c) (posC s (pre ++ [⟨i, hbd, hps⟩])) = (st.1.lay (drawn (L (s.extract i q))) k nc, if (q : Int) ≤ C then ((st.1.lay (drawn (L (s.extract i q))) k nc).r, (st.1.lay (drawn (L (s.extract i q))) k nc).c) else st.2) := by
      rw [posC_snoc, layA_snoc, L_take, hst]
      show layS (L s) C st ⟨i, i + clen ((L s).drop i), mcls ((L s).drop i), mcells ((L s).drop i)⟩ = _
      unfold layS
      dsimp only
      rw [hq, hk, hnc]
      rfl
    obtain ⟨a, ha⟩ : ∃ a, st.2 = a := ⟨_, rfl⟩
    obtain ⟨G, hGG⟩ : ∃ G, st.1 = G := ⟨_, rfl⟩
    rw [hGG] at hG hF hgl hnext hGi
    rw [ha] at hnext hbA
    have HNX := Lib.hid hnext
    have hTW2 : Tabs W := hT.below hB
    have hoff : GOff p G m := ⟨fun e => by have := hF _ e; have := hW.1; omega, fun e => by have := hF _ e; have := hW.2; omega⟩
    have HL := Lib.hid (glay_ hG hGi (by omega) hTW2 hoff s hs i q (by omega) (by omega) k nc)
    have HG := Lib.hid hG
    have HF := Lib.hid hF
    have HB := Lib.hid hB
    have HbS := Lib.hid hbS
    have HbC := Lib.hid hbC
    have HbR := Lib.hid hbR
    have HbP := Lib.hid hbP
    have HbA := Lib.hid hbA
    have HbW := Lib.hid hbW
    have HbX := Lib.hid bX2
    have hBw := hB.size
    obtain ⟨G2, hG2⟩ : ∃ G2, G.lay (drawn (L (s.extract i q))) k nc = G2 := ⟨_, rfl⟩
    rw [hG2] at HL HNX
    clear hG hF hB hbS hbC hbR hbP hbA hbW hnext bX bX2 hgl hGG hoff hs1 hst ha hG2
    dsimp only [clv]
    by_cases hqc : (q : Int) ≤ C
    · rw [if_pos hqc] at HNX
      have dq : decide ((q : Int) ≤ C) = true := decide_eq_true hqc
      gi_wp2_with (refine ⟨trivial, ?_⟩; gi_at_call 11; go_loud (refine (CallsIn.inRound l (callsIn_wide.2 HL.out)).mono ?_; rintro e w2 ⟨rfl, m2, ht⟩; have x1 : w2.cell? ⟨Bx, 1, none⟩ = some (.int .i64 q) := (ht.blk HG.out HbX.out (by decide) (by decide) (by decide)).cell 1; have x2 : w2.cell? ⟨w.heap.size + 1, 0, none⟩ = some (.int .i64 C) := (ht.blk HG.out HbC.out (by decide) (by decide) (by decide)).cell 0; have x3 : w2.cell? ⟨w1.heap.size, 0, none⟩ = some (.pointer (some ⟨p, 0, none⟩)) := (ht.blk HG.out HbP.out (by decide) (by decide) (by decide)).cell 0; have x4 : w2.cell? ⟨p, 2, none⟩ = some (.int .i64 G2.r) := ht.at_.blk.cell 2; have x5 : w2.cell? ⟨p, 3, none⟩ = some (.int .i64 G2.c) := ht.at_.blk.cell 3; have hA2 := ht.blk HG.out HbA.out (by decide) (by decide) (by decide); have x6 := hA2.cell 0; have x7 := hA2.cell 1; have x8 := hA2.frozen; have HT2 := Lib.hid ht; have HA2 := Lib.hid hA2; clear ht hA2))
      have hne : ∀ k, gfoot p G2 m2 k → k ≠ w1.heap.size + 1 := fun k hk e => HT2.out.at_.ne HA2.out (by decide) (by decide) (by decide) (e ▸ hk)
      have hset : ∀ (u v : Value), Upd (fun k => k = w1.heap.size + 1) w2 ((w2.setCell ⟨w1.heap.size + 1, 0, none⟩ u).setCell ⟨w1.heap.size + 1, 1, none⟩ v) := fun u v => ((Upd.refl (fun k => k = w1.heap.size + 1) w2).setCell (p := ⟨w1.heap.size + 1, 0, none⟩) (.inl rfl) u).setCell (p := ⟨w1.heap.size + 1, 1, none⟩) (.inl rfl) v
      have hkeep := HT2.out.keeps (B := W0.heap.size) HG.out
      have hW2 := HT2.out.blk HG.out HbW.out (by decide) (by decide) (by decide)
      have hG9 := GTurned.new hBw HF.out HT2.out
      have hB2 := GTurned.belowB HB.out hBw HT2.out HF.out
      refine ⟨hkeep.trans (KeepsFrom.of_set2 HA2.out _ _), ?_, ?_⟩
      · exact KpS.t (HT2.out.kps HG.out HF.out hW.1 hW.2 HbW.out) (KpS.of_upd (hset _ _) (by show ¬ w1.heap.size + 1 + 1 = w1.heap.size + 1; omega) (by show ¬ 0 = w1.heap.size + 1; have := hW.1; omega) (by show ¬ 1 = w1.heap.size + 1; have := hW.2; omega))
      · dsimp only
        rw [HNX.out]
        refine ⟨⟨⟨⟨⟨⟨⟨?_, ?_⟩, ?_⟩, ?_⟩, ?_⟩, ?_⟩, ?_⟩, ?_⟩
        · exact ⟨m2, HT2.out.at_.upd (hset _ _) (fun k hk e => hne k hk e), fun k hk => (HT2.out.foot k hk).elim (HF.out k) (fun e => by omega)⟩
        · exact (HT2.out.blk HG.out HbS.out (by decide) (by decide) (by decide)).upd (hset _ _) (by show ¬ w.heap.size = w1.heap.size + 1; omega)
        · exact (HT2.out.blk HG.out HbC.out (by decide) (by decide) (by decide)).upd (hset _ _) (by show ¬ w.heap.size + 1 = w1.heap.size + 1; omega)
        · exact (HT2.out.blk HG.out HbR.out (by decide) (by decide) (by decide)).upd (hset _ _) (by show ¬ w.heap.size + 2 = w1.heap.size + 1; omega)
        · exact (HT2.out.blk HG.out HbP.out (by decide) (by decide) (by decide)).upd (hset _ _) (by show ¬ w1.heap.size = w1.heap.size + 1; omega)
        · exact (HA2.out.set_ 0 _).set_ 1 _
        · exact hW2.upd (hset _ _) (by show ¬ w1.heap.size + 1 + 1 = w1.heap.size + 1; omega)
        · exact ((hB2.setCell (p := ⟨w1.heap.size + 1, 0, none⟩) (by show w.heap.size ≤ w1.heap.size + 1; omega) _).setCell (p := ⟨w1.heap.size + 1, 1, none⟩) (by show w.heap.size ≤ w1.heap.size + 1; omega) _)
    · rw [if_neg hqc] at HNX
      have dq : decide ((q : Int) ≤ C) = false := decide_eq_false hqc
      gi_wp2_with (refine ⟨trivial, ?_⟩; gi_at_call 11; go_loud (refine (CallsIn.inRound l (callsIn_wide.2 HL.out)).mono ?_; rintro e w2 ⟨rfl, m2, ht⟩; have x1 : w2.cell? ⟨Bx, 1, none⟩ = some (.int .i64 q) := (ht.blk HG.out HbX.out (by decide) (by decide) (by decide)).cell 1; have x2 : w2.cell? ⟨w.heap.size + 1, 0, none⟩ = some (.int .i64 C) := (ht.blk HG.out HbC.out (by decide) (by decide) (by decide)).cell 0; have HT2 := Lib.hid ht; clear ht))
      refine ⟨HT2.out.keeps HG.out, HT2.out.kps HG.out HF.out hW.1 hW.2 HbW.out, ?_⟩
      dsimp only
      rw [HNX.out]
      exact ⟨⟨⟨⟨⟨⟨⟨GTurned.new hBw HF.out HT2.out, HT2.out.blk HG.out HbS.out (by decide) (by decide) (by decide)⟩, HT2.out.blk HG.out HbC.out (by decide) (by decide) (by decide)⟩, HT2.out.blk HG.out HbR.out (by decide) (by decide) (by decide)⟩, HT2.out.blk HG.out HbP.out (by decide) (by decide) (by decide)⟩, HT2.out.blk HG.out HbA.out (by decide) (by decide) (by decide)⟩, HT2.out.blk HG.out HbW.out (by decide) (by decide) (by decide)⟩, GTurned.belowB HB.out hBw HT2.out HF.out⟩
  case done =>
    rintro D ys W hD hys ⟨⟨⟨⟨⟨⟨⟨⟨m, hG, hF⟩, hbS⟩, hbC⟩, hbR⟩, hbP⟩, hbA⟩, hbW⟩, hB⟩ hK
    rw [hys] at hG hF hbA
    obtain ⟨st, hst⟩ : ∃ st, layA (L s) C (g0, g0.r, g0.c) (clus 0 (L s)) = st := ⟨_, rfl⟩
    have hs1 : st.1 = layF (L s) g0 (clus 0 (L s)) := by rw [← hst, layA_fst]
    have hgl := layF_len (L s) g0 (clus 0 (L s))
    rw [← hs1] at hgl
    have hGi : st.1.Inv := hs1 ▸ layF_inv (L s) hg0 (clus 0 (L s))
    have hcl2 : (clus 0 (L s)).length ≤ 4194304 := by have := hcl; simp at this; omega
    have HST := Lib.hid hst
    rw [hst] at hG hF hbA
    have hcP := hbP.cell 0
    have a0 := hbA.cell 0
    have a1 := hbA.cell 1
    simp only [List.getElem?_toArray, List.getElem?_cons_zero] at hcP
    have HFR := Lib.hid (gframe_ hG hGi (by omega) (st.2.1 : Int) (st.2.2 : Int))
    have HG := Lib.hid hG
    have HF := Lib.hid hF
    have HbR := Lib.hid hbR
    have HB := Lib.hid hB
    have hBw := hB.size
    have hDK := Lib.hid hK
    clear hG hF hbS hbC hbR hbP hbA hbW hB hK hs1 hgl hst
    gi_wp2_with (refine ⟨trivial, ?_⟩; gi_at_call 12; go_loud (refine (callsIn_wide.2 HFR.out).mono ?_; rintro e w2 ⟨m2, rfl, ht⟩; have hb2 := ht.blk HG.out HbR.out (by decide) (by decide) (by decide); obtain ⟨r0, r1, r2, r3, k0, k1, k2, k3⟩ := Blk.four hb2; obtain ⟨A2, cp2, hv2, -⟩ := ht.at_.rows.own.form; rw [hv2]; have HV2 := Lib.hid hv2; have HT2 := Lib.hid ht; have HR2 := Lib.hid hb2; clear ht hb2 hv2))
    have hK2 : w2.heap[D]? = some (.deferred (some [])) := (HT2.out.keeps (B := 0) HG.out).same D _ (Nat.zero_le _) hDK.out rfl
    have hne : ∀ k, gfoot p (st.1.trim st.1.rows.length) m2 k → k ≠ w.heap.size + 2 := fun k hk e => HT2.out.at_.ne HR2.out (by decide) (by decide) (by decide) (e ▸ hk)
    have hK4 : ∀ (a b c d : Value), ((((w2.setCell ⟨w.heap.size + 2, 0, none⟩ a).setCell ⟨w.heap.size + 2, 1, none⟩ b).setCell ⟨w.heap.size + 2, 2, none⟩ c).setCell ⟨w.heap.size + 2, 3, none⟩ d).heap[D]? = some (.deferred (some [])) := fun a b c d => by
      have hx : D ≠ w.heap.size + 2 := by omega
      rw [Below.heap_setCell _ _ _ _ hx, Below.heap_setCell _ _ _ _ hx, Below.heap_setCell _ _ _ _ hx, Below.heap_setCell _ _ _ _ hx]
      exact hK2
    have hB2 := GTurned.belowB HB.out hBw HT2.out HF.out
    refine ⟨by simp, .inl ⟨_, _, rfl, run_takeDeferred (hK4 _ _ _ _), ?_⟩⟩
    have hset4 := Blk.set4 HR2.out (.int .i64 st.1.W) (.slice A2 (st.1.trim st.1.rows.length).rows.length cp2) (.int .i64 (st.2.1 : Int)) (.int .i64 (st.2.2 : Int))
    refine ⟨_, res_lay _ _ _ _ _ _ (hset4.keep (World.putObj_heap_other (by omega))) _ rfl, .slice A2 (st.1.trim st.1.rows.length).rows.length cp2, by rw [HCC.out, HST.out], ?_, ?_⟩
    · rw [HCC.out, HST.out, ← trs_all]
      have h5 : GAt _ p (st.1.trim st.1.rows.length) m2 := HT2.out.at_.keep (w' := (((((w2.setCell ⟨w.heap.size + 2, 0, none⟩ (.int .i64 st.1.W)).setCell ⟨w.heap.size + 2, 1, none⟩ (.slice A2 (st.1.trim st.1.rows.length).rows.length cp2)).setCell ⟨w.heap.size + 2, 2, none⟩ (.int .i64 (st.2.1 : Int))).setCell ⟨w.heap.size + 2, 3, none⟩ (.int .i64 (st.2.2 : Int))).putObj D (.deferred none))) (fun k hk => by
        have hx := hne k hk
        have hxd : k ≠ D := fun e => by
          obtain ⟨cs, t, hb⟩ := HT2.out.at_.cells_ k hk
          subst e
          rw [show w2.heap[k]? = _ from hb] at hK2
          cases hK2
        rw [World.putObj_heap_other hxd, Below.heap_setCell _ _ _ _ hx, Below.heap_setCell _ _ _ _ hx, Below.heap_setCell _ _ _ _ hx, Below.heap_setCell _ _ _ _ hx])
      have h6 := h5.rd
      rw [HV2.out] at h6
      exact h6
    · exact (below_set4 hB2 (by omega) _ _ _ _).trans (belowK_b (w := w) (Nat.le_refl _) _ D _ _ (by omega) (hK4 _ _ _ _) rfl rfl)
  case stop =>
    rintro D c pre W _ _ h _
    exact h.elim
end U
end Go.Proofs.YtceomobdolkfgaaDoor
