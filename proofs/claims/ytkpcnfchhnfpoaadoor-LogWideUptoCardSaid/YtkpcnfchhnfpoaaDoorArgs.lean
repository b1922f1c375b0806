/- The arguments opened: edits, deltas, slices of slices of edits, calls. -/
import Derived.Test.YtkpcnfchhnfpoaaDoorTexts
import Derived.Test.YtkpcnfchhnfpoaaDoorOpen
import Derived.Test.YtkpcnfchhnfpoaaDoorBulk
import Derived.Lib.SmallJoins
set_option linter.unusedVariables false
namespace Go.Proofs.YtkpcnfchhnfpoaaDoor
open Go.RowKit Go.Proofs.YtkpcnfchhnfpoaaDoorW.PrintWords Go.Proofs.YtkpcnfchhnfpoaaDoor.Sep Log
open Go.ChangeShapes Go.WideShapes Go.Deep
namespace Log
set_option maxRecDepth 100000
def eDat {H : Type} (e : Edit) : DataW H := .agg [.lit (.int .i64 e.1), .lit (.int .i64 e.2.1), Opens.strLit e.2.2]
def dDat {H : Type} (d : Delta) : DataW H := .agg [.lit (.int .i64 d.1), Opens.strLit d.2.1, Opens.strLit d.2.2]
def i64 (x : Int) : Prop := -9223372036854775808 ≤ x ∧ x < 9223372036854775808
theorem i64_of {k : Int} (h : (Lit.int .i64 k).wf = true) : i64 k := by
  simp only [Lit.wf, Bool.and_eq_true, decide_eq_true_eq] at h
  obtain ⟨h1, h2⟩ := h
  have e1 : IntKind.i64.min = -9223372036854775808 := by decide
  have e2 : IntKind.i64.max = 9223372036854775807 := by decide
  rw [e1] at h1
  rw [e2] at h2
  exact ⟨h1, by omega⟩
section
variable {H : Type} {enc : TypeId × Value → H} {w : World} {base : Nat} {spare : Nat → Bool} {held : Bool}
theorem edit_dec (n : Nat) (cs : List Value) (y : DataW H × List MemPlace) (hy : DataW.trod enc Tryd.prog w base spare held n 35 cs = some y) : ∃ u : Edit, cs = ecells u ∧ y.1 = eDat u := by
  obtain ⟨xs, m, rfl, rfl, hl, hx, hf⟩ := DataW.trod_struct Tryd.underlying35 hy
  have hl2 : cs.length = 3 := hl.trans (by kernel_rfl)
  have h0 := hf 0 _ rfl
  have h1 := hf 1 _ rfl
  have h2 := hf 2 _ rfl
  have c3 : Tryd.prog.cellsOf 3 = 1 := by kernel_rfl
  have c9 : Tryd.prog.cellsOf 9 = 1 := by kernel_rfl
  change DataW.trod enc Tryd.prog w base spare held m 3 ((cs.drop 0).take (Tryd.prog.cellsOf 3)) = xs[0]? at h0
  change DataW.trod enc Tryd.prog w base spare held m 3 ((cs.drop 1).take (Tryd.prog.cellsOf 3)) = xs[1]? at h1
  change DataW.trod enc Tryd.prog w base spare held m 9 ((cs.drop 2).take (Tryd.prog.cellsOf 9)) = xs[2]? at h2
  rw [c3] at h0 h1
  rw [c9] at h2
  match cs, hl2 with
  | [u0, u1, u2], _ =>
    match xs, hx with
    | [x0, x1, x2], _ =>
      obtain ⟨k, e0, rfl, hk⟩ := DataW.trod_int Tryd.underlying3 h0
      obtain ⟨j, e1, rfl, hj⟩ := DataW.trod_int Tryd.underlying3 h1
      obtain ⟨t, e2, rfl, ht⟩ := DataW.trod_string Tryd.underlying9 h2
      simp at e0 e1 e2
      subst e0; subst e1; subst e2
      exact ⟨(k, j, t), rfl, rfl⟩
theorem delta_dec (n : Nat) (cs : List Value) (y : DataW H × List MemPlace) (hy : DataW.trod enc Tryd.prog w base spare held n 24 cs = some y) : ∃ u : Delta, cs = dcells u ∧ y.1 = dDat u ∧ i64 u.1 := by
  obtain ⟨xs, m, rfl, rfl, hl, hx, hf⟩ := DataW.trod_struct Tryd.underlying24 hy
  have hl2 : cs.length = 3 := hl.trans (by kernel_rfl)
  have h0 := hf 0 _ rfl
  have h1 := hf 1 _ rfl
  have h2 := hf 2 _ rfl
  have c3 : Tryd.prog.cellsOf 3 = 1 := by kernel_rfl
  have c9 : Tryd.prog.cellsOf 9 = 1 := by kernel_rfl
  change DataW.trod enc Tryd.prog w base spare held m 3 ((cs.drop 0).take (Tryd.prog.cellsOf 3)) = xs[0]? at h0
  change DataW.trod enc Tryd.prog w base spare held m 9 ((cs.drop 1).take (Tryd.prog.cellsOf 9)) = xs[1]? at h1
  change DataW.trod enc Tryd.prog w base spare held m 9 ((cs.drop 2).take (Tryd.prog.cellsOf 9)) = xs[2]? at h2
  rw [c3] at h0
  rw [c9] at h1 h2
  match cs, hl2 with
  | [u0, u1, u2], _ =>
    match xs, hx with
    | [x0, x1, x2], _ =>
      obtain ⟨k, e0, rfl, hk⟩ := DataW.trod_int Tryd.underlying3 h0
      obtain ⟨j, e1, rfl, hj⟩ := DataW.trod_string Tryd.underlying9 h1
      obtain ⟨t, e2, rfl, ht⟩ := DataW.trod_string Tryd.underlying9 h2
      simp at e0 e1 e2
      subst e0; subst e1; subst e2
      exact ⟨(k, j, t), rfl, rfl, i64_of hk⟩
end
section
variable {H : Type} {enc : TypeId × Value → H} {w : World} {base : Nat} {spare : Nat → Bool} {held : Bool}
/-- A struct that came in by value. -/
theorem open_val {α : Type} (cells : α → List Value) (dat : α → DataW H) (ok : α → Prop) {t : TypeId} {fs : Array Field} (hs : Tryd.prog.underlying t = some (.struct fs)) (dec : ∀ n cs y, DataW.trod enc Tryd.prog w base spare held n t cs = some y → ∃ u, cs = cells u ∧ y.1 = dat u ∧ ok u)
    {r : Reach} {b0 : Nat} {v : Value} {d : DataW H} {p : List MemPlace} (hv : Value.okWide Tryd.prog w r b0 t v) (h : DataW.Trod enc Tryd.prog w base spare held t v d p) : ∃ u, v = .agg (cells u).toArray ∧ d = dat u ∧ ok u := by
  obtain ⟨cs, rfl, hsz⟩ := okWide_struct hs hv
  obtain ⟨fuel, hf⟩ := h
  obtain ⟨u, h1, h2, h3⟩ := dec fuel _ _ hf
  refine ⟨u, ?_, h2, h3⟩
  rw [← h1]
  simp [Value.cells]
theorem open_edit {r : Reach} {b0 : Nat} {v : Value} {d : DataW H} {p : List MemPlace} (hv : Value.okWide Tryd.prog w r b0 35 v) (h : DataW.Trod enc Tryd.prog w base spare held 35 v d p) : ∃ u : Edit, v = .agg #[.int .i64 u.1, .int .i64 u.2.1, .string u.2.2] ∧ d = eDat u := by
  obtain ⟨u, h1, h2, -⟩ := open_val ecells eDat (fun _ => True) Tryd.underlying35 (fun n cs y hy => by obtain ⟨u, h1, h2⟩ := edit_dec n cs y hy; exact ⟨u, h1, h2, trivial⟩) hv h
  exact ⟨u, h1, h2⟩
theorem open_delta {r : Reach} {b0 : Nat} {v : Value} {d : DataW H} {p : List MemPlace} (hv : Value.okWide Tryd.prog w r b0 24 v) (h : DataW.Trod enc Tryd.prog w base spare held 24 v d p) : ∃ u : Delta, v = dagg u ∧ d = dDat u ∧ i64 u.1 := by
  obtain ⟨u, h1, h2, h3⟩ := open_val dcells dDat (fun u => i64 u.1) Tryd.underlying24 delta_dec hv h
  exact ⟨u, h1, h2, h3⟩
theorem sized_edit {ts : List TypeId} {ds : List (DataW H)} {j : Nat} {u : Edit} (hsz : (DataW.weightsEach Tryd.prog ts ds).all (· ≤ reachBytes) = true) (ht : ts[j]? = some 35) (hd : ds[j]? = some (eDat u)) : u.2.2.size ≤ reachBytes := by
  have h1 : u.2.2.size ∈ (eDat u : DataW H).weights Tryd.prog 35 := by
    show u.2.2.size ∈ (DataW.agg [.lit (.int .i64 u.1), .lit (.int .i64 u.2.1), Opens.strLit u.2.2] : DataW H).weights Tryd.prog 35
    simp only [DataW.weights, Tryd.underlying35]
    show u.2.2.size ∈ DataW.weightsEach Tryd.prog [3, 3, 9] [.lit (.int .i64 u.1), .lit (.int .i64 u.2.1), .lit (.string u.2.2.data.toList)]
    simp only [DataW.weightsEach, DataW.weights, List.nil_append, List.append_nil, List.mem_singleton, Array.length_toList]
    rfl
  have := List.all_eq_true.1 hsz _ (DataW.weights_mem_each ht hd _ h1)
  simpa using this
/-- A slice of deltas. -/
theorem open_deltas {t : TypeId} {fuel : Nat} {a : Option Addr} {len cap : Nat} {x : DataW H × List MemPlace} (ht : Tryd.prog.underlying t = some (.slice 24)) (hf : DataW.trod enc Tryd.prog w base spare held fuel t [.slice a len cap] = some x) :
    ∃ us : List Delta, us.length = len ∧ Reads w w.heap.size 3 a len (us.flatMap dcells) ∧ len ≤ cap ∧ (∀ u ∈ us, i64 u.1) ∧ ((len = 0 ∧ x.1 = .nil) ∨ ∃ sp, x.1 = .slice (us.map dDat) sp) := by
  haveI : Inhabited Delta := ⟨D0⟩
  exact Opens.open_reads dcells dDat (fun u => i64 u.1) 3 (fun _ => rfl) (by omega) ht (by kernel_rfl) delta_dec hf
theorem open_edits {t : TypeId} {fuel : Nat} {a : Option Addr} {len cap : Nat} {x : DataW H × List MemPlace} (ht : Tryd.prog.underlying t = some (.slice 35)) (hf : DataW.trod enc Tryd.prog w base spare held fuel t [.slice a len cap] = some x) :
    ∃ us : List Edit, us.length = len ∧ Reads w w.heap.size 3 a len (us.flatMap ecells) ∧ len ≤ cap ∧ ((len = 0 ∧ x.1 = .nil) ∨ ∃ sp, x.1 = .slice (us.map eDat) sp) := by
  haveI : Inhabited Edit := ⟨E0⟩
  obtain ⟨us, h1, h2, h3, -, h4⟩ := Opens.open_reads ecells eDat (fun _ => True) 3 (fun _ => rfl) (by omega) ht (by kernel_rfl) (fun n cs y hy => by obtain ⟨u, h1, h2⟩ := edit_dec n cs y hy; exact ⟨u, h1, h2, trivial⟩) hf
  exact ⟨us, h1, h2, h3, h4⟩
def gOk (w : World) (u : GV × DataW H) : Prop := GOk w w.heap.size u.1 ∧ ((u.1.2.1 = 0 ∧ u.2 = .nil) ∨ ∃ sp, u.2 = .slice (u.1.2.2.2.map eDat) sp)
theorem slice_form {t e : TypeId} {fuel : Nat} {cs : List Value} {x : DataW H × List MemPlace} (ht : Tryd.prog.underlying t = some (.slice e)) (h : DataW.trod enc Tryd.prog w base spare held fuel t cs = some x) : ∃ A l c, cs = [.slice A l c] := by
  rcases open_slice ht h with ⟨h0, _⟩ | ⟨ad, len', cap', m, n, D, Pl, hcs, _⟩
  · exact ⟨_, _, _, h0⟩
  · exact ⟨_, _, _, hcs⟩
theorem group_dec (n : Nat) (cs : List Value) (y : DataW H × List MemPlace) (hy : DataW.trod enc Tryd.prog w base spare held n 88 cs = some y) : ∃ u : GV × DataW H, cs = [gcell u.1] ∧ y.1 = u.2 ∧ gOk w u := by
  obtain ⟨A, l, c, rfl⟩ := slice_form Tryd.underlying88 hy
  obtain ⟨us, h1, h2, h3, h4⟩ := open_edits Tryd.underlying88 hy
  exact ⟨((A, l, c, us), y.1), rfl, rfl, ⟨h1, h2⟩, h4⟩
/-- Slices of slices of edits. -/
theorem open_groups {a : Option Addr} {len cap : Nat} {d : DataW H} {p : List MemPlace} (h : DataW.Trod enc Tryd.prog w base spare held 38 (.slice a len cap) d p) :
    ∃ us : List (GV × DataW H), us.length = len ∧ ReadsG w w.heap.size a len (us.map (·.1)) ∧ len ≤ cap ∧ (∀ u ∈ us, gOk w u) ∧ ((len = 0 ∧ d = .nil) ∨ ∃ sp, d = .slice (us.map (·.2)) sp) := by
  obtain ⟨fuel, hf⟩ := h
  haveI : Inhabited (GV × DataW H) := ⟨(G0, .nil)⟩
  obtain ⟨us, h1, h2, h3, h4, h5⟩ := Opens.open_reads (fun u : GV × DataW H => [gcell u.1]) (fun u => u.2) (gOk w) 1 (fun _ => rfl) (by omega) Tryd.underlying38 (by kernel_rfl) group_dec hf
  refine ⟨us, h1, ⟨by simp [h1], ?_, fun g hg => ?_⟩, h3, h4, h5⟩
  · rw [List.map_map]
    rw [Opens.flat_one] at h2
    exact h2
  · obtain ⟨u, hu, rfl⟩ := List.mem_map.1 hg
    exact (h4 u hu).1
end
theorem bulk_e {H : Type} (e : Edit) : 1 + e.2.2.size ≤ Rows.uptoBulk (eDat e : DataW H) := by
  have := Bulk.str_le (H := H) e.2.2
  unfold eDat
  simp only [Rows.uptoBulk, Rows.uptoBulkAll]
  omega
theorem bulk_g {H : Type} {w : World} {u : GV × DataW H} (h : gOk w u) : esum u.1.2.2.2 + 1 ≤ Rows.uptoBulk u.2 := by
  rcases h.2 with ⟨h0, h1⟩ | ⟨sp, h1⟩
  · have hl := h.1.len
    have : u.1.2.2.2 = [] := List.eq_nil_of_length_eq_zero (by omega)
    rw [this, h1]
    simp [esum, Rows.uptoBulk]
  · rw [h1]
    have := Bulk.all_map (H := H) eDat (fun e => 1 + e.2.2.size) (bulk_e (H := H)) u.1.2.2.2
    simp only [Rows.uptoBulk]
    unfold esum
    omega
theorem bulk_gs {H : Type} {w : World} : ∀ (us : List (GV × DataW H)), (∀ u ∈ us, gOk w u) → gsum (us.map (·.1)) + us.length ≤ Rows.uptoBulkAll (us.map (·.2))
  | [], _ => by simp [gsum, Rows.uptoBulkAll]
  | u :: us, h => by
    have h1 := bulk_gs us (fun x hx => h x (List.mem_cons_of_mem _ hx))
    have h2 := bulk_g (h u (List.mem_cons_self ..))
    unfold gsum at h1 ⊢
    simp only [List.map_cons, List.sum_cons, List.length_cons, Rows.uptoBulkAll]
    simp only [List.map_map] at h1 ⊢
    omega
theorem bulk_groups {H : Type} {w : World} {us : List (GV × DataW H)} {len : Nat} {d : DataW H} (hl : us.length = len) (ho : ∀ u ∈ us, gOk w u) (h : (len = 0 ∧ d = .nil) ∨ ∃ sp, d = .slice (us.map (·.2)) sp) (hd : Rows.uptoBulk d ≤ 1048576) : gsum (us.map (·.1)) + us.length ≤ 1048576 := by
  have h1 := bulk_gs us ho
  rcases h with ⟨h0, _⟩ | ⟨sp, rfl⟩
  · obtain rfl : us = [] := List.eq_nil_of_length_eq_zero (by omega)
    simp [gsum]
  · simp only [Rows.uptoBulk] at hd
    omega
end Log
end Go.Proofs.YtkpcnfchhnfpoaaDoor
