/- Calls that came in: a slice of ops, opened and read. -/
import Derived.Test.YtkpcnfchhnfpoaaDoorArgs
set_option linter.unusedVariables false
namespace Go.Proofs.YtkpcnfchhnfpoaaDoor
open Go.RowKit Go.Proofs.YtkpcnfchhnfpoaaDoorW.PrintWords Go.Proofs.YtkpcnfchhnfpoaaDoor.Sep Log
open Go.ChangeShapes Go.WideShapes Go.Deep
namespace Log
set_option maxRecDepth 100000
/-- One call: its kind, its number, its deltas (where, how many, room, which). -/
abbrev OpV := Int × Int × Option Addr × Nat × Nat × List Delta
abbrev O0 : OpV := (0, 0, none, 0, 0, [])
def ocells (o : OpV) : List Value := [.int .i64 o.1, .int .i64 o.2.1, .slice o.2.2.1 o.2.2.2.1 o.2.2.2.2.1]
def ods (o : OpV) : List Delta := o.2.2.2.2.2
structure ReadsO (w : World) (B : Nat) (A : Option Addr) (n : Nat) (os : List OpV) : Prop where
  len : os.length = n
  reads : Reads w B 3 A n (os.flatMap ocells)
  each : ∀ o ∈ os, ReadsD w B o.2.2.1 o.2.2.2.1 (ods o)
theorem flat_o (us : List OpV) : ∀ i, i < us.length → ((us.flatMap ocells)[i * 3]? = some (.int .i64 (us.getD i O0).1) ∧ (us.flatMap ocells)[i * 3 + 1]? = some (.int .i64 (us.getD i O0).2.1) ∧ (us.flatMap ocells)[i * 3 + 2]? = some (.slice (us.getD i O0).2.2.1 (us.getD i O0).2.2.2.1 (us.getD i O0).2.2.2.2.1)) := by
  induction us with
  | nil => intro i h; simp at h
  | cons u us ih =>
    intro i hi
    rw [List.flatMap_cons]
    cases i with
    | zero => exact ⟨rfl, rfl, rfl⟩
    | succ j =>
      have := ih j (by simpa using hi)
      rw [show (j + 1) * 3 = j * 3 + 3 by omega, show j * 3 + 3 + 1 = j * 3 + 1 + 3 by omega, show j * 3 + 3 + 2 = j * 3 + 2 + 3 by omega]
      simpa [ocells] using this
theorem op_at {w : World} {B : Nat} {A : Option Addr} {n : Nat} {os : List OpV} (h : ReadsO w B A n os) {i : Nat} (hi : i < n) :
    ∃ k off, A = some ⟨k, off, none⟩ ∧ w.cell? ⟨k, off + i * 3, none⟩ = some (.int .i64 (os.getD i O0).1) ∧ w.cell? ⟨k, off + i * 3 + 1, none⟩ = some (.int .i64 (os.getD i O0).2.1) ∧ w.cell? ⟨k, off + i * 3 + 2, none⟩ = some (.slice (os.getD i O0).2.2.1 (os.getD i O0).2.2.2.1 (os.getD i O0).2.2.2.2.1) ∧ k < B ∧ ReadsD w B (os.getD i O0).2.2.1 (os.getD i O0).2.2.2.1 (ods (os.getD i O0)) := by
  obtain ⟨ad, e, hlt, hc⟩ := h.reads.2 (by omega)
  have hx := h.len
  obtain ⟨h0, h1, h2⟩ := flat_o os i (by omega)
  have c0 := hc _ _ h0
  have c1 := hc _ _ h1
  have c2 := hc _ _ h2
  obtain ⟨z0, _⟩ := flat_o os 0 (by omega)
  have cz := hc 0 _ z0
  obtain ⟨k, off, rfl⟩ := spot_none cz
  rw [add_off] at c0 c1 c2
  exact ⟨k, off, e, c0, c1, c2, hlt, h.each _ (by simp [List.getD, show i < os.length by omega])⟩
theorem ReadsO.later {w w' : World} {A : Option Addr} {n : Nat} {os : List OpV} (h : ReadsO w w.heap.size A n os) (hb : Below w.heap.size w w') : ReadsO w' w'.heap.size A n os :=
  ⟨h.len, (h.reads.below hb).more hb.size, fun o ho => (h.each o ho).upd hb⟩
def osum (os : List OpV) : Nat := (os.map fun o => (ods o).length).sum
theorem osum_take (os : List OpV) (j : Nat) (hj : j < os.length) : osum (os.take (j + 1)) = osum (os.take j) + (ods (os.getD j O0)).length := by
  unfold osum
  rw [List.take_add_one, List.map_append, List.sum_append, List.getElem?_eq_getElem hj]
  simp [List.getD, hj]
theorem osum_mono (os : List OpV) (j : Nat) : osum (os.take j) ≤ osum os := by
  conv => rhs; rw [← List.take_append_drop j os]
  unfold osum
  rw [List.map_append, List.sum_append]
  omega
section
variable {H : Type} {enc : TypeId × Value → H} {w : World} {base : Nat} {spare : Nat → Bool} {held : Bool}
def oOk (w : World) (u : OpV × DataW H) : Prop := ReadsD w w.heap.size u.1.2.2.1 u.1.2.2.2.1 (ods u.1) ∧ i64 u.1.1 ∧ i64 u.1.2.1 ∧ ∃ dl : DataW H, u.2 = .agg [.lit (.int .i64 u.1.1), .lit (.int .i64 u.1.2.1), dl] ∧ ((u.1.2.2.2.1 = 0 ∧ dl = .nil) ∨ ∃ sp, dl = .slice ((ods u.1).map dDat) sp)
theorem op_dec (n : Nat) (cs : List Value) (y : DataW H × List MemPlace) (hy : DataW.trod enc Tryd.prog w base spare held n 59 cs = some y) : ∃ u : OpV × DataW H, cs = ocells u.1 ∧ y.1 = u.2 ∧ oOk w u := by
  obtain ⟨xs, m, rfl, rfl, hl, hx, hf⟩ := DataW.trod_struct Tryd.underlying59 hy
  have hl2 : cs.length = 3 := hl.trans (by kernel_rfl)
  have h0 := hf 0 _ rfl
  have h1 := hf 1 _ rfl
  have h2 := hf 2 _ rfl
  have c3 : Tryd.prog.cellsOf 3 = 1 := by kernel_rfl
  have c22 : Tryd.prog.cellsOf 22 = 1 := by kernel_rfl
  change DataW.trod enc Tryd.prog w base spare held m 3 ((cs.drop 0).take (Tryd.prog.cellsOf 3)) = xs[0]? at h0
  change DataW.trod enc Tryd.prog w base spare held m 3 ((cs.drop 1).take (Tryd.prog.cellsOf 3)) = xs[1]? at h1
  change DataW.trod enc Tryd.prog w base spare held m 22 ((cs.drop 2).take (Tryd.prog.cellsOf 22)) = xs[2]? at h2
  rw [c3] at h0 h1
  rw [c22] at h2
  match cs, hl2 with
  | [u0, u1, u2], _ =>
    match xs, hx with
    | [x0, x1, x2], _ =>
      obtain ⟨k, e0, rfl, hk⟩ := DataW.trod_int Tryd.underlying3 h0
      obtain ⟨j, e1, rfl, hj⟩ := DataW.trod_int Tryd.underlying3 h1
      obtain ⟨A, l, c, e2⟩ := slice_form Tryd.underlying22 h2
      have h2' : DataW.trod enc Tryd.prog w base spare held m 22 [.slice A l c] = some x2 := by rw [← e2]; exact h2
      obtain ⟨us, g1, g2, g3, g4, g5⟩ := open_deltas Tryd.underlying22 h2'
      simp at e0 e1 e2
      subst e0; subst e1; subst e2
      exact ⟨((k, j, A, l, c, us), .agg [.lit (.int .i64 k), .lit (.int .i64 j), x2.1]), rfl, rfl, ⟨g1, g2⟩, i64_of hk, i64_of hj, x2.1, rfl, g5⟩
theorem open_ops {a : Option Addr} {len cap : Nat} {d : DataW H} {p : List MemPlace} (h : DataW.Trod enc Tryd.prog w base spare held 53 (.slice a len cap) d p) :
    ∃ us : List (OpV × DataW H), us.length = len ∧ ReadsO w w.heap.size a len (us.map (·.1)) ∧ len ≤ cap ∧ (∀ u ∈ us, oOk w u) ∧ ((len = 0 ∧ d = .nil) ∨ ∃ sp, d = .slice (us.map (·.2)) sp) := by
  obtain ⟨fuel, hf⟩ := h
  haveI : Inhabited (OpV × DataW H) := ⟨(O0, .nil)⟩
  obtain ⟨us, h1, h2, h3, h4, h5⟩ := Opens.open_reads (fun u : OpV × DataW H => ocells u.1) (fun u => u.2) (oOk w) 3 (fun _ => rfl) (by omega) Tryd.underlying53 (by kernel_rfl) op_dec hf
  refine ⟨us, h1, ⟨by simp [h1], ?_, fun g hg => ?_⟩, h3, h4, h5⟩
  · rw [List.flatMap_map]
    exact h2
  · obtain ⟨u, hu, rfl⟩ := List.mem_map.1 hg
    exact (h4 u hu).1
end
theorem bulk_dd {H : Type} {d : Delta} (h : Rows.uptoBulk (dDat d : DataW H) ≤ 1048576) : d.2.1.size ≤ 1048576 ∧ d.2.2.size ≤ 1048576 := by
  have h1 := Bulk.str_le (H := H) d.2.1
  have h2 := Bulk.str_le (H := H) d.2.2
  unfold dDat at h
  simp only [Rows.uptoBulk, Rows.uptoBulkAll] at h
  omega
theorem ones {α : Type} : ∀ l : List α, (l.map fun _ => 1).sum = l.length
  | [] => rfl
  | a :: l => by rw [List.map_cons, List.sum_cons, ones l, List.length_cons]; omega
theorem bulk_o {H : Type} {w : World} {u : OpV × DataW H} (h : oOk w u) : (ods u.1).length + 1 ≤ Rows.uptoBulk u.2 := by
  obtain ⟨h1, -, -, dl, h2, h3⟩ := h
  have hl := h1.1
  have : (ods u.1).length ≤ Rows.uptoBulk dl := by
    rcases h3 with ⟨h0, h4⟩ | ⟨sp, h4⟩
    · omega
    · rw [h4]
      have := Bulk.all_map (H := H) dDat (fun _ => 1) (fun d => Bulk.one_le _) (ods u.1)
      simp only [Rows.uptoBulk]
      rw [ones] at this
      omega
  rw [h2]
  simp only [Rows.uptoBulk, Rows.uptoBulkAll]
  omega
theorem bulk_os {H : Type} {w : World} : ∀ (us : List (OpV × DataW H)), (∀ u ∈ us, oOk w u) → osum (us.map (·.1)) + us.length ≤ Rows.uptoBulkAll (us.map (·.2))
  | [], _ => by simp [osum, Rows.uptoBulkAll]
  | u :: us, h => by
    have h1 := bulk_os us (fun x hx => h x (List.mem_cons_of_mem _ hx))
    have h2 := bulk_o (h u (List.mem_cons_self ..))
    unfold osum at h1 ⊢
    simp only [List.map_cons, List.sum_cons, List.length_cons, Rows.uptoBulkAll]
    simp only [List.map_map] at h1 ⊢
    omega
theorem bulk_ops {H : Type} {w : World} {us : List (OpV × DataW H)} {len : Nat} {d : DataW H} (hl : us.length = len) (ho : ∀ u ∈ us, oOk w u) (h : (len = 0 ∧ d = .nil) ∨ ∃ sp, d = .slice (us.map (·.2)) sp) (hd : Rows.uptoBulk d ≤ 1048576) : osum (us.map (·.1)) + us.length ≤ 1048576 := by
  have h1 := bulk_os us ho
  rcases h with ⟨h0, _⟩ | ⟨sp, rfl⟩
  · obtain rfl : us = [] := List.eq_nil_of_length_eq_zero (by omega)
    simp [osum]
  · simp only [Rows.uptoBulk] at hd
    omega
end Log
end Go.Proofs.YtkpcnfchhnfpoaaDoor
