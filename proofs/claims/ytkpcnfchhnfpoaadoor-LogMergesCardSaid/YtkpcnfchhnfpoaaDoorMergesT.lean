/- LogMerges, walked. -/
import Derived.Test.YtkpcnfchhnfpoaaDoorMergesH
import Derived.Deep.CutRange
set_option linter.unusedVariables false
namespace Go.Proofs.YtkpcnfchhnfpoaaDoor
open Go.RowKit Go.Proofs.YtkpcnfchhnfpoaaDoorW.PrintWords Go.Proofs.YtkpcnfchhnfpoaaDoor.Sep Log
namespace Log
theorem bchain {w14 cur wn : World} (h : Below w14.heap.size w14 cur) (hb : Below cur.heap.size cur wn) : Below w14.heap.size w14 wn := h.trans (hb.mono h.size)
theorem bchain_d {w14 cur wn : World} (h : Below w14.heap.size w14 cur) (hb : Below cur.heap.size cur.drew wn) : Below w14.heap.size w14 wn := h.trans ((show Below cur.heap.size cur wn from ⟨hb.os, hb.tape, hb.output, hb.size, hb.block⟩).mono h.size)
theorem fin_upd {w14 w17 : World} {B : Nat} (hp : Below w14.heap.size w14 w17) (hz : Blk w17 B 24 #[.int .i64 0, .string ⟨#[]⟩, .string ⟨#[]⟩]) (hB : w14.heap.size ≤ B) (x y z : Value) : Blk (((w17.setCell ⟨B, 0, none⟩ x).setCell ⟨B, 1, none⟩ y).setCell ⟨B, 2, none⟩ z) B 24 #[x, y, z] ∧ Below w14.heap.size w14 (((w17.setCell ⟨B, 0, none⟩ x).setCell ⟨B, 1, none⟩ y).setCell ⟨B, 2, none⟩ z) := by
  refine ⟨?_, ?_⟩
  · have := ((hz.set_ 0 x).set_ 1 y).set_ 2 z
    simpa using this
  · have hx : Upd (fun k => k = B) w17 (((w17.setCell ⟨B, 0, none⟩ x).setCell ⟨B, 1, none⟩ y).setCell ⟨B, 2, none⟩ z) := (((Upd.setCell (S := fun k => k = B) (Upd.refl _ _) (.inl rfl) _).setCell (.inl rfl) _).setCell (.inl rfl) _)
    exact hp.trans (hx.toBelow hp.size (fun k hk => by omega))
theorem fin_cells {w14 w17 : World} {B g g' : Nat} {a b c a' b' c' x y z : Value} (hp : Below w14.heap.size w14 w17) (hz : Blk w17 B 24 #[.int .i64 0, .string ⟨#[]⟩, .string ⟨#[]⟩]) (hB : w14.heap.size ≤ B) (h1 : Blk w14 g 24 #[a, b, c]) (h2 : Blk w14 g' 24 #[a', b', c']) :
    (((w17.setCell ⟨B, 0, none⟩ x).setCell ⟨B, 1, none⟩ y).setCell ⟨B, 2, none⟩ z).cell? ⟨g, 0, none⟩ = some a ∧ (((w17.setCell ⟨B, 0, none⟩ x).setCell ⟨B, 1, none⟩ y).setCell ⟨B, 2, none⟩ z).cell? ⟨g, 1, none⟩ = some b ∧ (((w17.setCell ⟨B, 0, none⟩ x).setCell ⟨B, 1, none⟩ y).setCell ⟨B, 2, none⟩ z).cell? ⟨g, 2, none⟩ = some c ∧
    (((w17.setCell ⟨B, 0, none⟩ x).setCell ⟨B, 1, none⟩ y).setCell ⟨B, 2, none⟩ z).cell? ⟨g', 0, none⟩ = some a' ∧ (((w17.setCell ⟨B, 0, none⟩ x).setCell ⟨B, 1, none⟩ y).setCell ⟨B, 2, none⟩ z).cell? ⟨g', 1, none⟩ = some b' ∧ (((w17.setCell ⟨B, 0, none⟩ x).setCell ⟨B, 1, none⟩ y).setCell ⟨B, 2, none⟩ z).cell? ⟨g', 2, none⟩ = some c' := by
  obtain ⟨_, hb⟩ := fin_upd hp hz hB x y z
  obtain ⟨e1, e2, e3⟩ := Blk.three (Blk.later h1 hb)
  obtain ⟨e4, e5, e6⟩ := Blk.three (Blk.later h2 hb)
  exact ⟨e1, e2, e3, e4, e5, e6⟩
theorem fin_set {W w14 w17 : World} {B : Nat} {x y z : Value} (hp : Below w14.heap.size w14 w17) (hz : Blk w17 B 24 #[.int .i64 0, .string ⟨#[]⟩, .string ⟨#[]⟩]) (hB : w14.heap.size ≤ B) (hW : Below W.heap.size W w14) :
    Hid (Blk (((w17.setCell ⟨B, 0, none⟩ x).setCell ⟨B, 1, none⟩ y).setCell ⟨B, 2, none⟩ z) B 24 #[x, y, z]) ∧ Hid (Below W.heap.size W (((w17.setCell ⟨B, 0, none⟩ x).setCell ⟨B, 1, none⟩ y).setCell ⟨B, 2, none⟩ z)) ∧ Hid (∀ g cs, Blk w14 g 24 cs → Blk (((w17.setCell ⟨B, 0, none⟩ x).setCell ⟨B, 1, none⟩ y).setCell ⟨B, 2, none⟩ z) g 24 cs) := by
  obtain ⟨h1, h2⟩ := fin_upd hp hz hB x y z
  exact ⟨Lib.hid h1, Lib.hid (hW.trans (h2.mono hW.size)), Lib.hid (fun g cs h => Blk.later h h2)⟩
theorem fin_new {W w14 w17 : World} {x y z : Value} (hp : Below w14.heap.size w14 w17) (hW : Below W.heap.size W w14) :
    Hid (Blk (w17.alloc (.cells #[x, y, z] 24)) w17.heap.size 24 #[x, y, z]) ∧ Hid (Below W.heap.size W (w17.alloc (.cells #[x, y, z] 24))) ∧ Hid (∀ g cs, Blk w14 g 24 cs → Blk (w17.alloc (.cells #[x, y, z] 24)) g 24 cs) := by
  have h2 : Below w14.heap.size w14 (w17.alloc (.cells #[x, y, z] 24)) := hp.alloc hp.size _
  exact ⟨Lib.hid (Blk.new w17 24 _), Lib.hid (hW.trans (h2.mono hW.size)), Lib.hid (fun g cs h => Blk.later h h2)⟩
set_option maxHeartbeats 40000000
set_option maxRecDepth 100000
theorem merges_w_t (W : World) (t : ByteArray) (x y : Edit) (h1 : t.size ≤ 150000000000000) (h2 : x.2.2.size ≤ 150000000000000) (h3 : y.2.2.size ≤ 150000000000000) (ht : mB (cutD t x) (cutD (apDo t (cutD t x)) y) = true) :
    Calls Tryd.prog 4 #[.string t, .agg #[.int .i64 x.1, .int .i64 x.2.1, .string x.2.2], .agg #[.int .i64 y.1, .int .i64 y.2.1, .string y.2.2]] W fun e w' => e = .returned (.bool true) ∧ Below W.heap.size W w' := by
  obtain ⟨a, ha⟩ : ∃ a, a = cutD t x := ⟨_, rfl⟩
  have hoka : apOk t a = true := by rw [ha]; exact cut_ok _ _
  rw [← ha] at ht
  obtain ⟨mid, hmid⟩ : ∃ m, m = apDo t a := ⟨_, rfl⟩
  obtain ⟨b, hb⟩ : ∃ b, b = cutD mid y := ⟨_, rfl⟩
  rw [← hmid, ← hb] at ht
  have hokb : apOk mid b = true := by rw [hb]; exact cut_ok _ _
  obtain ⟨fin, hfin⟩ : ∃ m, m = apDo mid b := ⟨_, rfl⟩
  have hma : mid.size ≤ 300000000000000 := by
    have := apDo_size t a hoka
    rw [← hmid, ha] at this
    unfold cutD at this
    dsimp only at this
    omega
  have HL := merges hoka (by rw [← hmid]; exact hokb)
  rw [← hmid, ← hfin] at HL
  have HCa := fun w => cut_c w t x (by omega)
  rw [← ha] at HCa
  have HCb := fun w => cut_c w mid y (by omega)
  rw [← hb] at HCb
  have A1 : apply t [a] = (mid, true) := by rw [apply_cons, if_pos hoka, ← hmid]; rfl
  have A2 : apply mid [inv a] = (t, true) := apply_back [a] A1
  have B1 : apply mid [b] = (fin, true) := by rw [apply_cons, if_pos hokb, ← hfin]; rfl
  have A3 : apply t [a, b] = (fin, true) := apply_two (a := [a]) A1 B1
  have A4 : apply fin [inv b, inv a] = (t, true) := apply_back [a, b] A3
  have sa : a.2.1.size ≤ 150000000000000 ∧ a.2.2.size ≤ 150000000000000 := by
    obtain ⟨k, e1, e2, e3⟩ := (apOk_iff _ _).1 hoka
    refine ⟨by omega, ?_⟩
    rw [ha]; exact h2
  have sb : b.2.1.size ≤ 300000000000000 ∧ b.2.2.size ≤ 150000000000000 := by
    obtain ⟨k, e1, e2, e3⟩ := (apOk_iff _ _).1 hokb
    refine ⟨by omega, ?_⟩
    rw [hb]; exact h3
  have hfs : fin.size ≤ 450000000000000 := by
    have := apDo_size mid b hokb
    rw [← hfin] at this
    omega
  have msz : mB a b = true → (mD a b).2.2.size ≤ 600000000000000 ∧ (mD a b).2.1.size ≤ 600000000000000 := fun h => by
    have h6 := (HL.2 h).1
    rw [apply_cons] at h6
    by_cases h7 : apOk t (mD a b) = true
    · rw [if_pos h7] at h6
      have h8 : apDo t (mD a b) = fin := congrArg Prod.fst h6
      obtain ⟨k, e1, e2, e3⟩ := (apOk_iff _ _).1 h7
      refine ⟨?_, by omega⟩
      have h9 : (apDo t (mD a b)).size = fin.size := by rw [h8]
      unfold apDo at h9
      rw [ByteArray.size_append, ByteArray.size_append] at h9
      omega
    · rw [if_neg h7] at h6
      cases h6
  obtain ⟨i, hi, hi2, -⟩ := (apOk_iff _ _).1 hoka
  obtain ⟨j, hj, hj2, -⟩ := (apOk_iff _ _).1 hokb
  clear ha hb hoka hokb hfin
  obtain ⟨ax, ao, ai⟩ := a
  obtain ⟨bx, bo, bi⟩ := b
  dsimp only at *
  subst hi
  subst hj
  obtain ⟨q, hq⟩ : ∃ q, q = i + ao.size := ⟨_, rfl⟩
  have hmid2 : mid = t.extract 0 i ++ ai ++ t.extract q t.size := by rw [hmid, apDo_nat, hq]
  have HMG := fun w => merge_p w ((i : Int), ao, ai) ((j : Int), bo, bi) (by dsimp only; omega) (by dsimp only; omega) (by dsimp only; omega) (by dsimp only; omega) (by dsimp only; omega) (by dsimp only; omega)
  have HMI := fun w => merge_p w (inv ((j : Int), bo, bi)) (inv ((i : Int), ao, ai)) (by unfold inv; dsimp only; omega) (by unfold inv; dsimp only; omega) (by unfold inv; dsimp only; omega) (by unfold inv; dsimp only; omega) (by unfold inv; dsimp only; omega) (by unfold inv; dsimp only; omega)
  unfold inv at HL HMI
  dsimp only at HL HMI
  obtain ⟨hl1, hl2⟩ := HL
  have HMG2 : ∀ w, mB ((i : Int), ao, ai) ((j : Int), bo, bi) = true → Calls Tryd.prog 14 #[dagg ((j : Int), bi, bo), dagg ((i : Int), ai, ao)] w fun e w' => e = .returned (.tuple #[dagg (inv (mD ((i : Int), ao, ai) ((j : Int), bo, bi))), .bool true]) ∧ Below w.heap.size w w' := fun w ht => by
    have h := HMI w
    obtain ⟨h1, h2, h3, h4, h5⟩ := hl2 ht
    unfold inv at *
    rw [h2, h3] at h
    exact h
  generalize mD ((i : Int), ao, ai) ((j : Int), bo, bi) = M at *
  generalize mB ((i : Int), ao, ai) ((j : Int), bo, bi) = touch at *
  subst ht
  obtain ⟨mx, mo, mi⟩ := M
  have HMI := HMG2
  have hQ2 : ∀ w, (binOp .eql 24 (.agg #[.int .i64 mx, .string mi, .string mo]) (.agg #[.int .i64 mx, .string mi, .string mo])).run Tryd.prog w = .ok (.bool true) w := fun w => by
    have h := eql24 w (mx, mi, mo) (mx, mi, mo)
    rw [deq_eq] at h
    simpa [dagg] using h
  have m4 : (fin.toList == fin.toList) = true := by simp
  have HL : (true = false → (i : Int) + (ai.size : Int) < (j : Int) ∨ (j : Int) + (bo.size : Int) < (i : Int)) ∧ (true = true → apply t [(mx, mo, mi)] = (fin, true) ∧ (j : Int) ≤ (i : Int) + (ai.size : Int) ∧ (i : Int) ≤ (j : Int) + (bo.size : Int)) := ⟨hl1, fun h => by
    obtain ⟨h1, h2, h3, h4, h5⟩ := hl2 h
    exact ⟨h1, h4, h5⟩⟩
  have HSZ : true = true → mi.size ≤ 600000000000000 ∧ mo.size ≤ 600000000000000 := fun h => msz h
  clear hl1 hl2 HMG2
  have hQ1 : ∀ w, (binOp .neq 24 (.agg #[.int .i64 (i : Int), .string ao, .string ai]) (.agg #[.int .i64 (i : Int), .string ao, .string ai])).run Tryd.prog w = .ok (.bool false) w := fun w => by
    have h := neq24 w ((i : Int), ao, ai) ((i : Int), ao, ai)
    rw [deq_eq] at h
    simpa [dagg] using h
  have m0 : (mid.toList != (t.extract 0 i ++ ai ++ t.extract q t.size).toList) = false := by rw [← hmid2]; simp
  have m1 : (mid.toList == (t.extract 0 i ++ ai ++ t.extract q t.size).toList) = true := by rw [← hmid2]; simp
  have m2 : (t.toList == t.toList) = true := by simp
  have z1 : IntKind.i64.wrap ((i : Int) + (ao.size : Int)) = (q : Int) := by rw [IntKind.wrap_i64]; omega
  have i1 : i ≤ t.size := by omega
  have i2 : q ≤ t.size := by omega
  have i3 : (t.extract 0 i).size + ai.size ≤ 9223372036854775807 := by rw [ByteArray.size_extract]; omega
  have i4 : (t.extract 0 i ++ ai).size + (t.extract q t.size).size ≤ 9223372036854775807 := by rw [ByteArray.size_append, ByteArray.size_extract, ByteArray.size_extract]; omega
  unfold dagg at HCa HCb HMG HMI
  unfold inv at A2 A4 HMI
  dsimp only at HCa HCb HMG HMI A2 A4
  replace HSZ := Lib.hid HSZ
  replace HL := Lib.hid HL
  replace HCa := Lib.hid HCa
  replace HCb := Lib.hid HCb
  replace HMG := Lib.hid HMG
  replace HMI := Lib.hid HMI
  replace A1 := Lib.hid A1
  replace A2 := Lib.hid A2
  replace A3 := Lib.hid A3
  replace A4 := Lib.hid A4
  replace B1 := Lib.hid B1
  have HQ := Lib.hid hq
  replace hmid2 := Lib.hid hmid2
  obtain ⟨s1, s2⟩ := sa
  obtain ⟨s3, s4⟩ := sb
  clear hmid hq
  obtain ⟨r1, hr1⟩ : ∃ r, r = i + ai.size := ⟨_, rfl⟩
  obtain ⟨r2, hr2⟩ : ∃ r, r = j + bo.size := ⟨_, rfl⟩
  have z2 : IntKind.i64.wrap ((i : Int) + (ai.size : Int)) = (r1 : Int) := by rw [IntKind.wrap_i64]; omega
  have z3 : IntKind.i64.wrap ((j : Int) + (bo.size : Int)) = (r2 : Int) := by rw [IntKind.wrap_i64]; omega
  have o1 : decide ((j : Int) ≤ (r1 : Int)) = true := by have := HL.out.2 rfl; simp; omega
  have o2 : decide (j ≤ r1) = true := by have := HL.out.2 rfl; simp; omega
  have o3 : decide ((i : Int) ≤ (r2 : Int)) = true := by have := HL.out.2 rfl; simp; omega
  have o4 : decide (i ≤ r2) = true := by have := HL.out.2 rfl; simp; omega
  have A5 := Lib.hid (HL.out.2 rfl).1
  obtain ⟨s5, s6⟩ := HSZ.out rfl
  have HR1 := Lib.hid hr1
  have HR2 := Lib.hid hr2
  clear hr1 hr2
  have hX0 : Hid (Blk ((W.alloc (.cells #[.int .i64 x.1, .int .i64 x.2.1, .string x.2.2] 35)).alloc (.cells #[.int .i64 y.1, .int .i64 y.2.1, .string y.2.2] 35)) W.heap.size 35 #[.int .i64 x.1, .int .i64 x.2.1, .string x.2.2]) := Lib.hid ((Blk.new W _ _).alloc _)
  have hY0 : Hid (Blk ((W.alloc (.cells #[.int .i64 x.1, .int .i64 x.2.1, .string x.2.2] 35)).alloc (.cells #[.int .i64 y.1, .int .i64 y.2.1, .string y.2.2] 35)) (W.heap.size + 1) 35 #[.int .i64 y.1, .int .i64 y.2.1, .string y.2.2]) := Lib.hid (by
    have := Blk.new (W.alloc (.cells #[.int .i64 x.1, .int .i64 x.2.1, .string x.2.2] 35)) 35 #[.int .i64 y.1, .int .i64 y.2.1, .string y.2.2]
    rwa [show (W.alloc (.cells #[.int .i64 x.1, .int .i64 x.2.1, .string x.2.2] 35)).heap.size = W.heap.size + 1 by simp] at this)
  have hW0 : Hid (Below W.heap.size W ((W.alloc (.cells #[.int .i64 x.1, .int .i64 x.2.1, .string x.2.2] 35)).alloc (.cells #[.int .i64 y.1, .int .i64 y.2.1, .string y.2.2] 35))) := Lib.hid ((below_one W _).alloc (by simp) _)
  go_enter Tryd.func4, Tryd.ntmps4
  go_wp2_with (first
    | (go_at_call 10; refine (fixed _).mono ?_; rintro e w1 ⟨rfl, hb⟩; have hx := Blk.later hX0.out hb; have hy := Blk.later hY0.out hb; obtain ⟨x0, x1, x2⟩ := Blk.three hx; have HY1 := Lib.hid hy; have HW1 := Lib.hid (hW0.out.trans (hb.mono hW0.out.size)); clear hb hx hy)
    | (go_at_call 18; refine (HCa.out _).mono ?_; rintro e w2 ⟨rfl, hb⟩; have HY2 := Lib.hid (Blk.later HY1.out hb); have HW2 := Lib.hid (HW1.out.trans (hb.mono HW1.out.size)); clear hb)
    | (go_at_call 11; refine (ap1 (w2.alloc _) _ (by simp) t mid ((i : Int), ao, ai) A1.out (by dsimp only; omega) (by dsimp only; omega)).mono ?_; rintro e w3 ⟨rfl, hb⟩; have ha := Blk.later (Blk.new w2 24 #[.int .i64 (i : Int), .string ao, .string ai]) hb; obtain ⟨a0, a1, a2⟩ := Blk.three ha; have HA3 := Lib.hid ha; have hb2 := (below_one w2 (.cells #[.int .i64 (i : Int), .string ao, .string ai] 24)).trans (hb.mono (below_one w2 (.cells #[.int .i64 (i : Int), .string ao, .string ai] 24)).size); have HY3 := Lib.hid (Blk.later HY2.out hb2); have HW3 := Lib.hid (HW2.out.trans (hb2.mono HW2.out.size)); clear hb ha hb2))
  go_quiet (fail)
  go_wp2_with (first
    | (go_at_call 16; refine (invert_p_c _ _ _ _).mono ?_; rintro e w4 ⟨rfl, hb⟩; have HA4 := Lib.hid (Blk.later HA3.out (below_undrewN hb)); have HY4 := Lib.hid (Blk.later HY3.out (below_undrewN hb)); have HW4 := Lib.hid (HW3.out.trans ((below_undrewN hb).mono HW3.out.size)); clear hb)
    | (go_at_call 11; refine (ap1 w4 _ (by simp) mid t ((i : Int), ai, ao) A2.out (by dsimp only; omega) (by dsimp only; omega)).mono ?_; rintro e w5 ⟨rfl, hb⟩; have ha := Blk.later HA4.out hb; obtain ⟨c0, c1, c2⟩ := Blk.three ha; have HA5 := Lib.hid ha; have HY5 := Lib.hid (Blk.later HY4.out hb); have HW5 := Lib.hid (HW4.out.trans (hb.mono HW4.out.size)); clear hb ha))
  go_region_held3 (fun w' => w'.cell? ⟨w2.heap.size, 0, none⟩ = some (.int .i64 (i : Int)) ∧ w'.cell? ⟨w2.heap.size, 1, none⟩ = some (.string ao) ∧ w'.cell? ⟨w2.heap.size, 2, none⟩ = some (.string ai))
    (first | go_keep | exact ⟨c0, c1, c2⟩ | exact ⟨d0, d1, d2⟩ | exact ⟨k0, k1, k2⟩)
    (first
      | (go_at_call 16; refine (invert_p_c _ (i : Int) ao ai).mono ?_; rintro e w6 ⟨rfl, hb⟩; have hb := below_of_drew hb; have ha := Blk.later HA5.out hb; obtain ⟨d0, d1, d2⟩ := Blk.three ha; have HA6 := Lib.hid ha; have HY6 := Lib.hid (Blk.later HY5.out hb); have HW6 := Lib.hid (HW5.out.trans (hb.mono HW5.out.size)); clear hb ha)
      | (go_at_call 16; refine (invert_p_c _ (i : Int) ai ao).mono ?_; rintro e w7 ⟨rfl, hb⟩; have ha := Blk.later HA6.out hb; obtain ⟨k0, k1, k2⟩ := Blk.three ha; have HA7 := Lib.hid ha; have hy := Blk.later HY6.out hb; obtain ⟨y0, y1, y2⟩ := Blk.three hy; have HY7 := Lib.hid hy; have HW7 := Lib.hid (HW6.out.trans (hb.mono HW6.out.size)); clear hb ha hy))
  go_wp2_with (first
    | (go_at_call 18; refine (HCb.out _).mono ?_; rintro e w8 ⟨rfl, hb⟩; have hb : Below w7.heap.size w7 w8 := (by first | exact hb | exact below_of_drew hb | exact below_undrewN hb); have ha := Blk.later HA7.out hb; obtain ⟨a0, a1, a2⟩ := Blk.three ha; have HA8 := Lib.hid ha; have HW8 := Lib.hid (HW7.out.trans (hb.mono HW7.out.size)); have hla := World.block_lt_of_cell? _ _ a0; clear hb ha)
    | (go_at_call 11; refine (ap2 (w8.alloc _) _ (by simp) t fin ((i : Int), ao, ai) ((j : Int), bo, bi) A3.out (by dsimp only; omega) (by dsimp only; omega) (by dsimp only; omega)).mono ?_; rintro e w9 ⟨rfl, hb⟩; have hbb := Blk.later (Blk.new w8 24 #[.int .i64 (j : Int), .string bo, .string bi]) hb; obtain ⟨b0, b1, b2⟩ := Blk.three hbb; have HB9 := Lib.hid hbb; have hb2 := (below_one w8 (.cells #[.int .i64 (j : Int), .string bo, .string bi] 24)).trans (hb.mono (below_one w8 (.cells #[.int .i64 (j : Int), .string bo, .string bi] 24)).size); have ha := Blk.later HA8.out hb2; obtain ⟨c0, c1, c2⟩ := Blk.three ha; have HA9 := Lib.hid ha; have HW9 := Lib.hid (HW8.out.trans (hb2.mono HW8.out.size)); clear hb ha hb2 hbb))
  go_cut [9, 10] from 87 to 96 (fun v9 v10 wx => v9 = .bool true ∧ v10 = .string t ∧ Hid (Blk wx w2.heap.size 24 #[.int .i64 (i : Int), .string ao, .string ai]) ∧ Hid (Blk wx w8.heap.size 24 #[.int .i64 (j : Int), .string bo, .string bi]) ∧ Hid (Below W.heap.size W wx))
  case first =>
    go_region_held3 (fun w' => w'.cell? ⟨w2.heap.size, 0, none⟩ = some (.int .i64 (i : Int)) ∧ w'.cell? ⟨w2.heap.size, 1, none⟩ = some (.string ao) ∧ w'.cell? ⟨w2.heap.size, 2, none⟩ = some (.string ai) ∧ w'.cell? ⟨w8.heap.size, 0, none⟩ = some (.int .i64 (j : Int)) ∧ w'.cell? ⟨w8.heap.size, 1, none⟩ = some (.string bo) ∧ w'.cell? ⟨w8.heap.size, 2, none⟩ = some (.string bi))
      (first | go_keep | exact ⟨c0, c1, c2, b0, b1, b2⟩ | exact ⟨d0, d1, d2, f0, f1, f2⟩ | exact ⟨k0, k1, k2, l0, l1, l2⟩)
      (first
        | (go_at_call 16; refine (invert_p_c _ (j : Int) bo bi).mono ?_; rintro e w10 ⟨rfl, hb⟩; have hb : Below w9.heap.size w9 w10 := (by first | exact hb | exact below_of_drew hb | exact below_undrewN hb); have ha := Blk.later HA9.out hb; obtain ⟨d0, d1, d2⟩ := Blk.three ha; have HA10 := Lib.hid ha; have hbb := Blk.later HB9.out hb; obtain ⟨f0, f1, f2⟩ := Blk.three hbb; have HB10 := Lib.hid hbb; have HW10 := Lib.hid (HW9.out.trans (hb.mono HW9.out.size)); clear hb ha hbb)
        | (go_at_call 16; refine (invert_p_c _ (i : Int) ao ai).mono ?_; rintro e w11 ⟨rfl, hb⟩; have hb : Below w10.heap.size w10 w11 := (by first | exact hb | exact below_of_drew hb | exact below_undrewN hb); have ha := Blk.later HA10.out hb; obtain ⟨k0, k1, k2⟩ := Blk.three ha; have HA11 := Lib.hid ha; have hbb := Blk.later HB10.out hb; obtain ⟨l0, l1, l2⟩ := Blk.three hbb; have HB11 := Lib.hid hbb; have HW11 := Lib.hid (HW10.out.trans (hb.mono HW10.out.size)); clear hb ha hbb)
        | (go_at_call 11; refine (ap2 w11 _ (by simp) fin t ((j : Int), bi, bo) ((i : Int), ai, ao) A4.out (by dsimp only; omega) (by dsimp only; omega) (by dsimp only; omega)).mono ?_; rintro e w12 ⟨rfl, hb⟩; have ha := Blk.later HA11.out hb; obtain ⟨n0, n1, n2⟩ := Blk.three ha; have HA12 := Lib.hid ha; have hbb := Blk.later HB11.out hb; obtain ⟨o0, o1, o2⟩ := Blk.three hbb; have HB12 := Lib.hid hbb; have HW12 := Lib.hid (HW11.out.trans (hb.mono HW11.out.size)); clear hb ha hbb))
    all_goals
      go_wp2_with fail
      go_meet
      exact ⟨rfl, rfl, HA12, HB12, HW12⟩
  case rest =>
  obtain ⟨rfl, rfl, HA12, HB12, HW12⟩ := hcut
  obtain ⟨n0, n1, n2⟩ := Blk.three HA12.out
  obtain ⟨o0, o1, o2⟩ := Blk.three HB12.out
  go_wp2_with (first
    | (go_at_call 14; refine (HMG.out _).mono ?_; rintro e w13 ⟨rfl, hb⟩; have hb : Below wc.heap.size wc w13 := (by first | exact hb | exact below_of_drew hb | exact below_undrewN hb); have ha := Blk.later HA12.out hb; obtain ⟨a0, a1, a2⟩ := Blk.three ha; have HA13 := Lib.hid ha; have hbb := Blk.later HB12.out hb; obtain ⟨b0, b1, b2⟩ := Blk.three hbb; have hla := World.block_lt_of_cell? _ _ a0; have hlb := World.block_lt_of_cell? _ _ b0; have HB13 := Lib.hid hbb; have HW13 := Lib.hid (HW12.out.trans (hb.mono HW12.out.size)); clear hb ha hbb)
    | (go_at_call 11; refine (ap1 (w13.alloc _) _ (by simp) t fin (mx, mo, mi) A5.out (by dsimp only; omega) (by dsimp only; omega)).mono ?_; rintro e w14 ⟨rfl, hb⟩; have hcc := Blk.later (Blk.new w13 24 #[.int .i64 mx, .string mo, .string mi]) hb; have HC14 := Lib.hid hcc; have hb2 := (below_one w13 (.cells #[.int .i64 mx, .string mo, .string mi] 24)).trans (hb.mono (below_one w13 (.cells #[.int .i64 mx, .string mo, .string mi] 24)).size); have ha := Blk.later HA13.out hb2; obtain ⟨c0, c1, c2⟩ := Blk.three ha; have HA14 := Lib.hid ha; have hbb := Blk.later HB13.out hb2; obtain ⟨f0, f1, f2⟩ := Blk.three hbb; have HB14 := Lib.hid hbb; have HW14 := Lib.hid (HW13.out.trans (hb2.mono HW13.out.size)); clear hb hcc hb2 ha hbb))
  have HP : Hid (Below w14.heap.size w14 w14) := Lib.hid (Below.refl _ _)
  go_cut [16, 17] from 139 to 146 (fun v16 v17 wx => ∃ B, v16 = .pointer (some ⟨B, 0, none⟩) ∧ v17 = .bool true ∧ Hid (Blk wx B 24 #[.int .i64 mx, .string mi, .string mo]) ∧ Hid (Below W.heap.size W wx) ∧ Hid (∀ g cs, Blk w14 g 24 cs → Blk wx g 24 cs))
  case first =>
    go_region_held3 (fun w' => w'.cell? ⟨w2.heap.size, 0, none⟩ = some (.int .i64 (i : Int)) ∧ w'.cell? ⟨w2.heap.size, 1, none⟩ = some (.string ao) ∧ w'.cell? ⟨w2.heap.size, 2, none⟩ = some (.string ai) ∧ w'.cell? ⟨w8.heap.size, 0, none⟩ = some (.int .i64 (j : Int)) ∧ w'.cell? ⟨w8.heap.size, 1, none⟩ = some (.string bo) ∧ w'.cell? ⟨w8.heap.size, 2, none⟩ = some (.string bi))
      (first | go_keep | exact ⟨c0, c1, c2, f0, f1, f2⟩ | exact ⟨d0, d1, d2, l0, l1, l2⟩ | exact ⟨k0, k1, k2, n0, n1, n2⟩ | exact ⟨p0, p1, p2, v0, v1, v2⟩ | exact (fin_cells HP.out HZ.out HZB.out HA14.out HB14.out))
      (first
        | (go_at_call 16; refine (invert_p_c _ (j : Int) bo bi).mono ?_; rintro e w15 ⟨rfl, hb⟩; (try (have hz := Blk.later HZ.out (show Below w14.heap.size w14 w15 from (by first | exact hb | exact below_of_drew hb | exact below_undrewN hb)); clear z0 zz1 zz2 hzf; obtain ⟨z0, zz1, zz2⟩ := Blk.three hz; have hzf := hz.frozen; have HZ := Lib.hid hz; clear hz)); (try (have hz := Blk.later (Blk.new w14 24 #[.int .i64 0, .string ⟨#[]⟩, .string ⟨#[]⟩]) (show Below (w14.alloc (.cells #[.int .i64 0, .string ⟨#[]⟩, .string ⟨#[]⟩] 24)).heap.size (w14.alloc (.cells #[.int .i64 0, .string ⟨#[]⟩, .string ⟨#[]⟩] 24)) w15 from (by first | exact hb | exact below_of_drew hb | exact below_undrewN hb)); obtain ⟨z0, zz1, zz2⟩ := Blk.three hz; have hzf := hz.frozen; have HZ := Lib.hid hz; have HZB := Lib.hid (show w14.heap.size ≤ w14.heap.size from HP.out.size); clear hz)); have hp : Below w14.heap.size w14 w15 := bchain (by first | exact HP.out | exact below_drew HP.out | exact HP.out.alloc HP.out.size _ | exact below_drew (HP.out.alloc HP.out.size _) | exact (below_drew HP.out).alloc HP.out.size _) hb; have ha := Blk.later HA14.out hp; obtain ⟨d0, d1, d2⟩ := Blk.three ha; have hbb := Blk.later HB14.out hp; obtain ⟨l0, l1, l2⟩ := Blk.three hbb; have HP := Lib.hid hp; clear hb ha hbb hp)
        | (go_at_call 16; refine (invert_p_c _ (i : Int) ao ai).mono ?_; rintro e w16 ⟨rfl, hb⟩; (try (have hz := Blk.later HZ.out (show Below w15.heap.size w15 w16 from (by first | exact hb | exact below_of_drew hb | exact below_undrewN hb)); clear z0 zz1 zz2 hzf; obtain ⟨z0, zz1, zz2⟩ := Blk.three hz; have hzf := hz.frozen; have HZ := Lib.hid hz; clear hz)); (try (have hz := Blk.later (Blk.new w15 24 #[.int .i64 0, .string ⟨#[]⟩, .string ⟨#[]⟩]) (show Below (w15.alloc (.cells #[.int .i64 0, .string ⟨#[]⟩, .string ⟨#[]⟩] 24)).heap.size (w15.alloc (.cells #[.int .i64 0, .string ⟨#[]⟩, .string ⟨#[]⟩] 24)) w16 from (by first | exact hb | exact below_of_drew hb | exact below_undrewN hb)); obtain ⟨z0, zz1, zz2⟩ := Blk.three hz; have hzf := hz.frozen; have HZ := Lib.hid hz; have HZB := Lib.hid (show w14.heap.size ≤ w15.heap.size from HP.out.size); clear hz)); have hp : Below w14.heap.size w14 w16 := bchain (by first | exact HP.out | exact below_drew HP.out | exact HP.out.alloc HP.out.size _ | exact below_drew (HP.out.alloc HP.out.size _) | exact (below_drew HP.out).alloc HP.out.size _) hb; have ha := Blk.later HA14.out hp; obtain ⟨k0, k1, k2⟩ := Blk.three ha; have hbb := Blk.later HB14.out hp; obtain ⟨n0, n1, n2⟩ := Blk.three hbb; have HP := Lib.hid hp; clear hb ha hbb hp)
        | (go_at_call 14; refine (HMI.out _ trivial).mono ?_; rintro e w17 ⟨rfl, hb⟩; (try (have hz := Blk.later HZ.out (show Below w16.heap.size w16 w17 from (by first | exact hb | exact below_of_drew hb | exact below_undrewN hb)); clear z0 zz1 zz2 hzf; obtain ⟨z0, zz1, zz2⟩ := Blk.three hz; have hzf := hz.frozen; have HZ := Lib.hid hz; clear hz)); (try (have hz := Blk.later (Blk.new w16 24 #[.int .i64 0, .string ⟨#[]⟩, .string ⟨#[]⟩]) (show Below (w16.alloc (.cells #[.int .i64 0, .string ⟨#[]⟩, .string ⟨#[]⟩] 24)).heap.size (w16.alloc (.cells #[.int .i64 0, .string ⟨#[]⟩, .string ⟨#[]⟩] 24)) w17 from (by first | exact hb | exact below_of_drew hb | exact below_undrewN hb)); obtain ⟨z0, zz1, zz2⟩ := Blk.three hz; have hzf := hz.frozen; have HZ := Lib.hid hz; have HZB := Lib.hid (show w14.heap.size ≤ w16.heap.size from HP.out.size); clear hz)); have hp : Below w14.heap.size w14 w17 := bchain (by first | exact HP.out | exact below_drew HP.out | exact HP.out.alloc HP.out.size _ | exact below_drew (HP.out.alloc HP.out.size _) | exact (below_drew HP.out).alloc HP.out.size _) hb; have ha := Blk.later HA14.out hp; obtain ⟨p0, p1, p2⟩ := Blk.three ha; have hbb := Blk.later HB14.out hp; obtain ⟨v0, v1, v2⟩ := Blk.three hbb; have HP := Lib.hid hp; clear hb ha hbb hp))
    all_goals
      go_wp2_with fail
      go_meet
      first
        | exact ⟨_, rfl, rfl, fin_set HP.out HZ.out HZB.out HW14.out⟩
        | exact ⟨_, rfl, rfl, fin_new HP.out HW14.out⟩
  case rest =>
  obtain ⟨B, rfl, rfl, HE, HWc, HKP⟩ := hcut
  have HC18 := Lib.hid (HKP.out _ _ HC14.out)
  have HA18 := Lib.hid (HKP.out _ _ HA14.out)
  have HB18 := Lib.hid (HKP.out _ _ HB14.out)
  obtain ⟨t0, t1, t2⟩ := Blk.three HE.out
  obtain ⟨g0, g1, g2⟩ := Blk.three HC18.out
  obtain ⟨h0, h1, h2⟩ := Blk.three HA18.out
  obtain ⟨j0, j1, j2⟩ := Blk.three HB18.out
  go_wp2
  go_region_held3 (fun w' => w'.cell? ⟨B, 0, none⟩ = some (.int .i64 mx) ∧ w'.cell? ⟨B, 1, none⟩ = some (.string mi) ∧ w'.cell? ⟨B, 2, none⟩ = some (.string mo) ∧ w'.cell? ⟨w13.heap.size, 0, none⟩ = some (.int .i64 mx) ∧ w'.cell? ⟨w13.heap.size, 1, none⟩ = some (.string mo) ∧ w'.cell? ⟨w13.heap.size, 2, none⟩ = some (.string mi) ∧ w'.cell? ⟨w2.heap.size, 0, none⟩ = some (.int .i64 (i : Int)) ∧ w'.cell? ⟨w2.heap.size, 2, none⟩ = some (.string ai) ∧ w'.cell? ⟨w8.heap.size, 0, none⟩ = some (.int .i64 (j : Int)) ∧ w'.cell? ⟨w8.heap.size, 1, none⟩ = some (.string bo))
    (first | go_keep | exact ⟨t0, t1, t2, g0, g1, g2, h0, h2, j0, j1⟩ | exact ⟨q0, q1, q2, r0, r1, r2, s0, s2, u0, u1⟩)
    ((go_at_call 16; refine (invert_p_c _ mx mo mi).mono ?_; rintro e w18 ⟨rfl, hb⟩; have hb : Below wc.heap.size wc w18 := (by first | exact hb | exact below_of_drew hb | exact below_undrewN hb); obtain ⟨q0, q1, q2⟩ := Blk.three (Blk.later HE.out hb); obtain ⟨r0, r1, r2⟩ := Blk.three (Blk.later HC18.out hb); obtain ⟨s0, s1, s2⟩ := Blk.three (Blk.later HA18.out hb); obtain ⟨u0, u1, u2⟩ := Blk.three (Blk.later HB18.out hb); have HW18 := Lib.hid (HWc.out.trans (hb.mono HWc.out.size)); clear hb))
  go_wp2
  go_ret
  exact ⟨rfl, HW18.out⟩
end Log
end Go.Proofs.YtkpcnfchhnfpoaaDoor
