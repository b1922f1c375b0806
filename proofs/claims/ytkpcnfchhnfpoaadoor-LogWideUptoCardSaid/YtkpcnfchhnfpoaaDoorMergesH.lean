/- Words for LogMerges' walk. -/
import Derived.Test.YtkpcnfchhnfpoaaDoorCut
set_option linter.unusedVariables false
namespace Go.Proofs.YtkpcnfchhnfpoaaDoor
open Go.RowKit Go.Proofs.YtkpcnfchhnfpoaaDoorW.PrintWords Go.Proofs.YtkpcnfchhnfpoaaDoor.Sep Log
namespace Log
theorem readsD_two (w : World) (d e : Delta) : ReadsD (w.alloc (.cells #[.int .i64 d.1, .string d.2.1, .string d.2.2, .int .i64 e.1, .string e.2.1, .string e.2.2] 24)) (w.alloc (.cells #[.int .i64 d.1, .string d.2.1, .string d.2.2, .int .i64 e.1, .string e.2.1, .string e.2.2] 24)).heap.size (some ⟨w.heap.size, 0, none⟩) 2 [d, e] := by
  refine ⟨rfl, ?_⟩
  have h := (OwnS.new w 24 3 2 ([d, e].flatMap dcells) rfl (by unfold maxLen; omega)).reads
  exact h
theorem below_of_drew {w w' : World} (h : Below w.drew.heap.size w.drew w') : Below w.heap.size w w' := ⟨h.os, h.tape, h.output, h.size, h.block⟩
theorem below_undrewN {w w' : World} {n : Nat} (h : Below (w.drewN n).heap.size (w.drewN n) w') : Below w.heap.size w w' := ⟨h.os, h.tape, h.output, h.size, h.block⟩
theorem ap1 (w : World) (n : Nat) (hn : w.heap.size = n) (t u : ByteArray) (d : Delta) (h : apply t [d] = (u, true)) (hz : t.size + d.2.2.size ≤ 1000000000000000) (ho : d.2.1.size ≤ 1000000000000000) :
    Calls Tryd.prog 11 #[.string t, .slice (some ⟨n, 0, none⟩) 1 1] (w.alloc (.cells #[.int .i64 d.1, .string d.2.1, .string d.2.2] 24)) fun e w' => e = .returned (.tuple #[.string u, .bool true]) ∧ Below w.heap.size w w' := by
  subst hn
  have h2 := apply_p _ t (some ⟨w.heap.size, 0, none⟩) 1 1 [d] (Log.ReadsD.one w d) (by omega) (by simpa [insum] using hz) (by simpa using ho)
  rw [h] at h2
  refine h2.mono ?_
  rintro e w' ⟨rfl, hb⟩
  exact ⟨rfl, (below_one w _).trans (hb.mono (below_one w (.cells #[.int .i64 d.1, .string d.2.1, .string d.2.2] 24)).size)⟩
theorem ap2 (w : World) (n : Nat) (hn : w.heap.size = n) (t u : ByteArray) (d e : Delta) (h : apply t [d, e] = (u, true)) (hz : t.size + d.2.2.size + e.2.2.size ≤ 1000000000000000) (ho : d.2.1.size ≤ 1000000000000000) (ho2 : e.2.1.size ≤ 1000000000000000) :
    Calls Tryd.prog 11 #[.string t, .slice (some ⟨n, 0, none⟩) 2 2] (w.alloc (.cells #[.int .i64 d.1, .string d.2.1, .string d.2.2, .int .i64 e.1, .string e.2.1, .string e.2.2] 24)) fun x w' => x = .returned (.tuple #[.string u, .bool true]) ∧ Below w.heap.size w w' := by
  subst hn
  have h2 := apply_p _ t (some ⟨w.heap.size, 0, none⟩) 2 2 [d, e] (readsD_two w d e) (by omega) (by simp [insum]; omega) (by intro x hx; simp at hx; rcases hx with rfl | rfl <;> assumption)
  rw [h] at h2
  refine h2.mono ?_
  rintro x w' ⟨rfl, hb⟩
  exact ⟨rfl, (below_one w _).trans (hb.mono (below_one w (.cells #[.int .i64 d.1, .string d.2.1, .string d.2.2, .int .i64 e.1, .string e.2.1, .string e.2.2] 24)).size)⟩
theorem Blk.three {w : World} {g : Nat} {x y z : Value} {t : TypeId} (h : Blk w g t #[x, y, z]) : w.cell? ⟨g, 0, none⟩ = some x ∧ w.cell? ⟨g, 1, none⟩ = some y ∧ w.cell? ⟨g, 2, none⟩ = some z := ⟨h.cell 0, h.cell 1, h.cell 2⟩
theorem Blk.later {w w' : World} {g : Nat} {t : TypeId} {cs : Array Value} (h : Blk w g t cs) (hb : Below w.heap.size w w') : Blk w' g t cs := h.upd (Upd.below hb No) (fun h => h)
set_option maxHeartbeats 40000000
set_option maxRecDepth 100000
end Log
end Go.Proofs.YtkpcnfchhnfpoaaDoor
