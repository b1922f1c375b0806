/- LogDeltas, walked; and as its row wants it. -/
import Derived.Test.YtkpcnfchhnfpoaaDoorDocQ
import Derived.Test.YtkpcnfchhnfpoaaDoorFixed
import Derived.Test.YtkpcnfchhnfpoaaDoorMergesH
import Derived.Test.YtkpcnfchhnfpoaaDoorOps
import Derived.Test.YtkpcnfchhnfpoaaDoorBulk
import Derived.Deep.DeepFit
set_option linter.unusedVariables false
namespace Go.Proofs.YtkpcnfchhnfpoaaDoor
open Go.RowKit Go.Proofs.YtkpcnfchhnfpoaaDoorW.PrintWords Go.Proofs.YtkpcnfchhnfpoaaDoor.Sep
namespace Log
theorem ap_p (w : World) (text : ByteArray) (A : Option Addr) (n c : Nat) (ds : List Delta) (hr : ReadsD w w.heap.size A n ds) (hn : n ≤ 10000000000000) (hz : text.size + insum ds ≤ 1000000000000000) (ho : ∀ d ∈ ds, d.2.1.size ≤ 1000000000000000) (s : ByteArray) (b : Bool) (hs : apply text ds = (s, b)) :
    Calls Tryd.prog 11 #[.string text, .slice A n c] w fun e w' => e = .returned (.tuple #[.string s, .bool b]) ∧ Below w.heap.size w w' := by
  have h := apply_p w text A n c ds hr hn hz ho
  rw [hs] at h
  exact h
theorem ap_d (w : World) (text : ByteArray) (A : Option Addr) (n c : Nat) (ds : List Delta) (hr : ReadsD w w.heap.size A n ds) (hn : n ≤ 10000000000000) (hz : text.size + insum ds ≤ 1000000000000000) (ho : ∀ d ∈ ds, d.2.1.size ≤ 1000000000000000) (s : ByteArray) (b : Bool) (hs : apply text ds = (s, b)) :
    Calls Tryd.prog 13 #[.string text, .slice A n c] w fun e w' => e = .returned (.tuple #[.string s, .bool b]) ∧ Below w.heap.size w w' := by
  have h := apply_d w text A n c ds hr hn hz ho
  rw [hs] at h
  exact h
structure FitD (a : Delta) : Prop where
  i : a.1 < 9223372036854775808
  o : a.2.1.size ≤ 1000000000000
  n : a.2.2.size ≤ 1000000000000
theorem mg_p (w : World) (a1 b1 : Int) (a2 a3 b2 b3 : ByteArray) (ha : FitD (a1, a2, a3)) (hb : FitD (b1, b2, b3)) (m1 : Int) (m2 m3 : ByteArray) (o : Bool) (hm : mD (a1, a2, a3) (b1, b2, b3) = (m1, m2, m3)) (ho : mB (a1, a2, a3) (b1, b2, b3) = o) :
    Calls Tryd.prog 14 #[.agg #[.int .i64 a1, .string a2, .string a3], .agg #[.int .i64 b1, .string b2, .string b3]] w fun e w' => e = .returned (.tuple #[.agg #[.int .i64 m1, .string m2, .string m3], .bool o]) ∧ Below w.heap.size w w' := by
  have h := merge_p w (a1, a2, a3) (b1, b2, b3) ha.i hb.i (Nat.le_trans ha.n (by omega)) (Nat.le_trans hb.o (by omega)) (Nat.le_trans ha.o (by omega)) (Nat.le_trans hb.n (by omega))
  rw [hm, ho] at h
  exact h
theorem mg_d (w : World) (a1 b1 : Int) (a2 a3 b2 b3 : ByteArray) (ha : FitD (a1, a2, a3)) (hb : FitD (b1, b2, b3)) (m1 : Int) (m2 m3 : ByteArray) (o : Bool) (hm : mD (a1, a2, a3) (b1, b2, b3) = (m1, m2, m3)) (ho : mB (a1, a2, a3) (b1, b2, b3) = o) :
    Calls Tryd.prog 15 #[.agg #[.int .i64 a1, .string a2, .string a3], .agg #[.int .i64 b1, .string b2, .string b3]] w fun e w' => e = .returned (.tuple #[.agg #[.int .i64 m1, .string m2, .string m3], .bool o]) ∧ Below w.heap.size w w' := by
  have h := merge_d w (a1, a2, a3) (b1, b2, b3) ha.i hb.i ha.n hb.o ha.o hb.n
  rw [hm, ho] at h
  exact h
theorem iv_p (w : World) (a1 : Int) (a2 a3 : ByteArray) : Calls Tryd.prog 16 #[.agg #[.int .i64 a1, .string a2, .string a3]] w fun e w' => e = .returned (.agg #[.int .i64 a1, .string a3, .string a2]) ∧ Below w.heap.size w w' := invert_p w (a1, a2, a3)
theorem iv_d (w : World) (a1 : Int) (a2 a3 : ByteArray) : Calls Tryd.prog 17 #[.agg #[.int .i64 a1, .string a2, .string a3]] w fun e w' => e = .returned (.agg #[.int .i64 a1, .string a3, .string a2]) ∧ Below w.heap.size w w' := invert_d w (a1, a2, a3)
theorem eq24 (a1 : Int) (a2 a3 : ByteArray) (w : World) : (binOp .eql 24 (.agg #[.int .i64 a1, .string a2, .string a3]) (.agg #[.int .i64 a1, .string a2, .string a3])).run Tryd.prog w = .ok (.bool true) w := by
  have h := eql24 w (a1, a2, a3) (a1, a2, a3)
  rw [deq_eq] at h
  simpa [dagg] using h
theorem bdrew {w w' : World} (h : Below w.drew.heap.size w.drew w') : Below w.heap.size w w' := ⟨h.os, h.tape, h.output, h.size, h.block⟩
set_option maxHeartbeats 40000000
set_option maxRecDepth 100000
theorem deltas_w (W : World) (text : ByteArray) (A : Option Addr) (l c : Nat) (ds : List Delta) (hr : ReadsD W W.heap.size A l ds) (hl9 : l ≤ 1000000000000) (hz : text.size + insum ds ≤ 1000000000000000) (ho : ∀ d ∈ ds, d.2.1.size ≤ 1000000000000000) (a b : Delta) (ha : FitD a) (hb : FitD b) :
    Calls Tryd.prog 3 #[.string text, .slice A l c, dagg a, dagg b] W fun e w' => e = .returned (.bool true) ∧ Below W.heap.size W w' := by
  obtain ⟨a1, a2, a3⟩ := a
  obtain ⟨b1, b2, b3⟩ := b
  unfold dagg
  dsimp only
  have hl := hr.1
  have FA := Lib.hid ha
  have FB := Lib.hid hb
  have HZ := Lib.hid hz
  have HO := Lib.hid ho
  obtain ⟨rt, rb, hap⟩ : ∃ s x, apply text ds = (s, x) := ⟨_, _, rfl⟩
  obtain ⟨m1, m2, m3, hm⟩ : ∃ x y z, mD (a1, a2, a3) (b1, b2, b3) = (x, y, z) := ⟨_, _, _, rfl⟩
  obtain ⟨mb, hmb⟩ : ∃ o, mB (a1, a2, a3) (b1, b2, b3) = o := ⟨_, rfl⟩
  have HAP := Lib.hid hap
  have HM := Lib.hid hm
  have HMB := Lib.hid hmb
  obtain ⟨W1, hW1⟩ : ∃ W1, W1 = (W.alloc (.cells #[.int .i64 a1, .string a2, .string a3] 24)).alloc (.cells #[.int .i64 b1, .string b2, .string b3] 24) := ⟨_, rfl⟩
  have hW : Below W.heap.size W W1 := by
    rw [hW1]
    have h1 := (Below.refl W.heap.size W).alloc (Nat.le_refl _) (.cells #[.int .i64 a1, .string a2, .string a3] 24)
    exact h1.alloc h1.size _
  have HRA : Hid (∀ w', Below W1.heap.size W1 w' → ReadsD w' w'.heap.size A l ds) := Lib.hid (fun w' hb => ⟨hr.1, (hr.2.below (hW.trans (hb.mono hW.size))).more (hW.trans (hb.mono hW.size)).size⟩)
  have HA : Hid (Blk W1 W.heap.size 24 #[.int .i64 a1, .string a2, .string a3]) := Lib.hid (by rw [hW1]; exact (Blk.new W _ _).alloc _)
  have HB : Hid (Blk W1 (W.heap.size + 1) 24 #[.int .i64 b1, .string b2, .string b3]) := Lib.hid (by rw [hW1]; have h := Blk.new (W.alloc (.cells #[.int .i64 a1, .string a2, .string a3] 24)) 24 #[.int .i64 b1, .string b2, .string b3]; rw [World.size_alloc] at h; exact h)
  have HW := Lib.hid hW
  have k1 : (rt.toList == rt.toList) = true := by simp
  have k2 : (rb == rb) = true := by simp
  have k3 : (mb == mb) = true := by simp
  have k4 := eq24 m1 m2 m3
  have k5 := eq24 a1 a3 a2
  clear ha hb hr hz ho hap hm hmb hW
  go_enter Tryd.func3, Tryd.ntmps3
  go_wp2_with (first
    | (go_at_call 10; go_fit (fixed _); rintro e w1 ⟨rfl, hb⟩; rw [← hW1] at hb; have HB1 := Lib.hid hb; clear hb)
    | (go_at_call 12; go_fit (copied _ A l c ds (HRA.out _ HB1.out) hl9); rintro e w2 ⟨v2, rfl, ho, hf, hb⟩; obtain ⟨A2, c2, hv2, -⟩ := ho.len; rw [hl] at hv2; have HO2 := Lib.hid ho; have HB2 := Lib.hid (HB1.out.trans (hb.mono HB1.out.size)); subst hv2; clear ho hf hb)
    | (go_at_call 11; go_fit (ap_p _ text A2 l c2 ds (OwnD.reads HO2.out hl.symm) (by omega) HZ.out HO.out rt rb HAP.out); rintro e w3 ⟨rfl, hb⟩; have HB3 := Lib.hid (HB2.out.trans (hb.mono HB2.out.size)); clear hb)
    | (go_at_call 13; go_fit (ap_d _ text A l c ds (HRA.out _ HB3.out) (by omega) HZ.out HO.out rt rb HAP.out); rintro e w4 ⟨rfl, hb⟩; have HB4 := Lib.hid (HB3.out.trans (hb.mono HB3.out.size)); clear hb; obtain ⟨y0, y1, y2⟩ := Blk.three (Blk.later HA.out HB4.out); obtain ⟨z0, z1, z2⟩ := Blk.three (Blk.later HB.out HB4.out))
    | (go_at_call 14; go_fit (mg_p _ a1 b1 a2 a3 b2 b3 FA.out FB.out m1 m2 m3 mb HM.out HMB.out); rintro e w5 ⟨rfl, hb⟩; have hb5 := HB4.out.trans (hb.mono HB4.out.size); have HB5 := Lib.hid (hb5.alloc hb5.size (.cells #[.int .i64 m1, .string m2, .string m3] 24)); have HMM := Lib.hid (Blk.new w5 24 #[.int .i64 m1, .string m2, .string m3]); clear hb hb5; obtain ⟨y0, y1, y2⟩ := Blk.three (Blk.later HA.out HB5.out); obtain ⟨z0, z1, z2⟩ := Blk.three (Blk.later HB.out HB5.out))
    | (go_at_call 15; go_fit (mg_d _ a1 b1 a2 a3 b2 b3 FA.out FB.out m1 m2 m3 mb HM.out HMB.out); rintro e w6 ⟨rfl, hb⟩; have hb6 := HB5.out.trans (hb.mono HB5.out.size); have HB6 := Lib.hid (hb6.alloc hb6.size (.cells #[.int .i64 m1, .string m2, .string m3] 24)); have hmm := Blk.later HMM.out hb; have HMM6 := Lib.hid (hmm.alloc (.cells #[.int .i64 m1, .string m2, .string m3] 24)); have HNN6 := Lib.hid (Blk.new w6 24 #[.int .i64 m1, .string m2, .string m3]); clear hb hb6 hmm; obtain ⟨y0, y1, y2⟩ := Blk.three (Blk.later HA.out HB6.out)))
  clear hW1
  obtain ⟨p0, p1, p2⟩ := Blk.three HMM6.out
  obtain ⟨q0, q1, q2⟩ := Blk.three HNN6.out
  go_region_held3 (fun w' => w'.cell? ⟨W.heap.size, 0, none⟩ = some (.int .i64 a1) ∧ w'.cell? ⟨W.heap.size, 1, none⟩ = some (.string a2) ∧ w'.cell? ⟨W.heap.size, 2, none⟩ = some (.string a3) ∧ w'.cell? ⟨w5.heap.size, 0, none⟩ = some (.int .i64 m1) ∧ w'.cell? ⟨w5.heap.size, 1, none⟩ = some (.string m2) ∧ w'.cell? ⟨w5.heap.size, 2, none⟩ = some (.string m3) ∧ w'.cell? ⟨w6.heap.size, 0, none⟩ = some (.int .i64 m1) ∧ w'.cell? ⟨w6.heap.size, 1, none⟩ = some (.string m2) ∧ w'.cell? ⟨w6.heap.size, 2, none⟩ = some (.string m3))
    (first | go_keep | exact ⟨y0, y1, y2, p0, p1, p2, q0, q1, q2⟩ | exact ⟨f0, f1, f2, g0, g1, g2, h0, h1, h2⟩ | exact ⟨s0, s1, s2, t0, t1, t2, u0, u1, u2⟩)
    (first
      | (go_at_call 16; go_fit (iv_p _ a1 a2 a3); rintro e w7 ⟨rfl, hb⟩; have hb := bdrew hb; obtain ⟨f0, f1, f2⟩ := Blk.three (Blk.later (Blk.later HA.out HB6.out) hb); obtain ⟨g0, g1, g2⟩ := Blk.three (Blk.later HMM6.out hb); obtain ⟨h0, h1, h2⟩ := Blk.three (Blk.later HNN6.out hb); have HB7 := Lib.hid hb; clear hb)
      | (go_at_call 17; go_fit (iv_d _ a1 a2 a3); rintro e w8 ⟨rfl, hb⟩; have hb8 := HB7.out.trans (hb.mono HB7.out.size); obtain ⟨s0, s1, s2⟩ := Blk.three (Blk.later (Blk.later HA.out HB6.out) hb8); obtain ⟨t0, t1, t2⟩ := Blk.three (Blk.later HMM6.out hb8); obtain ⟨u0, u1, u2⟩ := Blk.three (Blk.later HNN6.out hb8); have HB8 := Lib.hid hb8; clear hb hb8))
  go_wp2
  go_ret
  have h9 := HB6.out.trans (HB8.out.mono HB6.out.size)
  exact ⟨rfl, HW.out.trans (h9.mono HW.out.size)⟩
section
variable {H : Type} {enc : TypeId × Value → H} {w : World} {base : Nat} {spare : Nat → Bool} {held : Bool}
theorem open_deltasz {a : Option Addr} {len cap : Nat} {d : DataW H} {p : List MemPlace} (h : DataW.Trod enc Tryd.prog w base spare held 22 (.slice a len cap) d p) :
    ∃ us : List Delta, us.length = len ∧ ReadsD w w.heap.size a len us ∧ len ≤ cap ∧ (∀ u ∈ us, i64 u.1) ∧ ((len = 0 ∧ d = .nil) ∨ ∃ sp, d = .slice (us.map dDat) sp) := by
  obtain ⟨fuel, hf⟩ := h
  obtain ⟨us, h1, h2, h3, h4, h5⟩ := open_deltas Tryd.underlying22 hf
  exact ⟨us, h1, ⟨h1, h2⟩, h3, h4, h5⟩
end
theorem le_sum {α : Type} (f : α → Nat) : ∀ (us : List α) (u : α), u ∈ us → f u ≤ (us.map f).sum
  | x :: us, u, h => by
    rw [List.map_cons, List.sum_cons]
    rcases List.mem_cons.1 h with rfl | h
    · omega
    · have := le_sum f us u h
      omega
theorem bulk_d1 {H : Type} (d : Delta) : d.2.1.size + d.2.2.size + 1 ≤ Rows.uptoBulk (dDat d : DataW H) := by
  have h1 := Bulk.str_le (H := H) d.2.1
  have h2 := Bulk.str_le (H := H) d.2.2
  unfold dDat
  simp only [Rows.uptoBulk, Rows.uptoBulkAll]
  omega
theorem deltas_row (W : World) (t : ByteArray) (ht : t.size ≤ 1048576) (A : Option Addr) (l c : Nat) {H : Type} (us : List Delta) (hr : ReadsD W W.heap.size A l us) (hc : l ≤ c) (ho : ∀ u ∈ us, i64 u.1) (y : l * 40 ≤ reachBytes) (hl : us.length = l) {d : DataW H} (hd : (l = 0 ∧ d = .nil) ∨ ∃ sp, d = .slice (us.map dDat) sp) (hb : Rows.uptoBulk d ≤ 1048576)
    (a : Delta) (wa : i64 a.1) (za : a.2.1.size ≤ 1048576 ∧ a.2.2.size ≤ 1048576) (b : Delta) (wb : i64 b.1) (zb : b.2.1.size ≤ 1048576 ∧ b.2.2.size ≤ 1048576) :
    Calls Tryd.prog 3 #[.string t, .slice A l c, dagg a, dagg b] W fun e W' => e = .returned (.bool true) ∧ Below W.heap.size W W' := by
  have h1 := Bulk.elems dDat (fun u : Delta => u.2.1.size + u.2.2.size + 1) bulk_d1 hl hd hb
  have h2 := Bulk.elems dDat (fun u : Delta => u.2.2.size) (fun u => by have := bulk_d1 (H := H) u; omega) hl hd hb
  have h3 := Bulk.elems dDat (fun _ : Delta => 1) (fun u => Bulk.one_le _) hl hd hb
  have h4 : (us.map fun _ => 1).sum = us.length := by
    clear h1 h2 h3 hl hr hd ho
    induction us with
    | nil => rfl
    | cons x xs ih => rw [List.map_cons, List.sum_cons, ih, List.length_cons]; omega
  refine deltas_w W t A l c us hr (by omega) (by unfold insum; omega) (fun x hx => ?_) a b ⟨wa.2, by omega, by omega⟩ ⟨wb.2, by omega, by omega⟩
  have h5 := le_sum (fun u : Delta => u.2.1.size + u.2.2.size + 1) us x hx
  omega
end Log
end Go.Proofs.YtkpcnfchhnfpoaaDoor
