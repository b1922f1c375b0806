-- Written by a program of this claim (the kit's print, with the contracts of some functions given by hand).
import Derived.Test.YtdcbgaikakhadaaPWidthWithinx0
import Derived.Test.YtdcbgaikakhadaaPWidthWithinx1
import Derived.Test.YtdcbgaikakhadaaPWidthWithinx2
namespace Go.Proofs.Ytdcbgaikakhadaa.PWidthWithin
open Go.RowKit Go.Proofs.YtdcbgaikakhadaaW.PrintWords Go.Proofs.YtdcbgaikakhadaaW.PrintLast Go.Proofs.YtdcbgaikakhadaaW.PrintMore
attribute [local go_sem] max2_int min2_int max_two min_two max_three min_three max_four min_four   -- for this text's walks alone
set_option linter.unusedVariables false
set_option linter.unusedSimpArgs false

/-! ### bodkinlaw02_WidthWithin: function 7 -/
mutual
def bodkinlaw02_WidthWithin.l0 : Nat → List Int → Int → Option (Bool)
  | 0, _, _ => none
  | k + 1, x0, x3 => if x3 < (x0.length : Int) then (if 0 ≤ x3 then ((width_Class.f k (rd x0 x3)).bind fun t142 => (bodkinlaw02_WidthWithin.l1 k x0 x3 (rd x0 x3) t142 0 1)) else (none)) else (some true)
def bodkinlaw02_WidthWithin.l1 : Nat → List Int → Int → Int → Int → Int → Int → Option (Bool)
  | 0, _, _, _, _, _, _ => none
  | k + 1, x0, x3, x4, x5, x6, x7 => if x7 ≤ 4 then ((width_Ranges.f k x7).bind fun t143 => ((bodkinlaw02_held.f k t143 x4).bind fun t146 => (if (t146 != (x5 == x7)) = true then (some false) else (if t146 = true then (bodkinlaw02_WidthWithin.l1 k x0 x3 x4 x5 (wrap64 (x6 + 1)) (wrap64 (x7 + 1))) else (bodkinlaw02_WidthWithin.l1 k x0 x3 x4 x5 x6 (wrap64 (x7 + 1))))))) else (if x4 < 0 then (bodkinlaw02_WidthWithin.j2 k x0 x3 x4 x5 x6 true) else (if x4 > 1114111 then (bodkinlaw02_WidthWithin.j2 k x0 x3 x4 x5 x6 true) else (if x4 ≥ 55296 then (bodkinlaw02_WidthWithin.j2 k x0 x3 x4 x5 x6 (decide (x4 < 57344))) else (bodkinlaw02_WidthWithin.j2 k x0 x3 x4 x5 x6 false))))
def bodkinlaw02_WidthWithin.j2 : Nat → List Int → Int → Int → Int → Int → Bool → Option (Bool)
  | 0, _, _, _, _, _, _ => none
  | k + 1, x0, x3, x4, x5, x6, x9 => if x6 > 1 then (bodkinlaw02_WidthWithin.j3 k x0 x3 x4 x5 true) else (if (x9 != (x5 == 5)) = true then (bodkinlaw02_WidthWithin.j3 k x0 x3 x4 x5 true) else (if x6 = 0 then (if x9 = true then (bodkinlaw02_WidthWithin.j3 k x0 x3 x4 x5 false) else (bodkinlaw02_WidthWithin.j3 k x0 x3 x4 x5 (x5 != 0))) else (bodkinlaw02_WidthWithin.j3 k x0 x3 x4 x5 false)))
def bodkinlaw02_WidthWithin.j3 : Nat → List Int → Int → Int → Int → Bool → Option (Bool)
  | 0, _, _, _, _, _ => none
  | k + 1, x0, x3, x4, x5, x74 => if x74 = true then (some false) else ((width_Cells.f k x4).bind fun t147 => (if t147 < 0 then (some false) else (if t147 > 2 then (some false) else (if ((t147 == 0) != (x5 == 1)) = true then (some false) else (if x5 = 4 then (if t147 = 2 then (bodkinlaw02_WidthWithin.l0 k x0 (wrap64 (x3 + 1))) else (some false)) else (if t147 = 2 then (if x5 = 2 then (bodkinlaw02_WidthWithin.l0 k x0 (wrap64 (x3 + 1))) else (some false)) else (bodkinlaw02_WidthWithin.l0 k x0 (wrap64 (x3 + 1)))))))))
end
def bodkinlaw02_WidthWithin.f (k : Nat) (l0 : List Int) : Option (Bool) := (bodkinlaw02_awake.f k).bind fun t140 => (if t140 = true then (bodkinlaw02_WidthWithin.l0 k l0 0) else (some false))
theorem bodkinlaw02_WidthWithin.mono_l : ∀ k, (∀ y0 y1, LeO (bodkinlaw02_WidthWithin.l0 k y0 y1) (bodkinlaw02_WidthWithin.l0 (k + 1) y0 y1)) ∧ (∀ y0 y1 y2 y3 y4 y5, LeO (bodkinlaw02_WidthWithin.l1 k y0 y1 y2 y3 y4 y5) (bodkinlaw02_WidthWithin.l1 (k + 1) y0 y1 y2 y3 y4 y5)) ∧ (∀ y0 y1 y2 y3 y4 y5, LeO (bodkinlaw02_WidthWithin.j2 k y0 y1 y2 y3 y4 y5) (bodkinlaw02_WidthWithin.j2 (k + 1) y0 y1 y2 y3 y4 y5)) ∧ (∀ y0 y1 y2 y3 y4, LeO (bodkinlaw02_WidthWithin.j3 k y0 y1 y2 y3 y4) (bodkinlaw02_WidthWithin.j3 (k + 1) y0 y1 y2 y3 y4))
  | 0 => ⟨fun _ _ r h => by simp [bodkinlaw02_WidthWithin.l0] at h, fun _ _ _ _ _ _ r h => by simp [bodkinlaw02_WidthWithin.l1] at h, fun _ _ _ _ _ _ r h => by simp [bodkinlaw02_WidthWithin.j2] at h, fun _ _ _ _ _ r h => by simp [bodkinlaw02_WidthWithin.j3] at h⟩
  | k + 1 => by
    obtain ⟨ih0, ih1, ih2, ih3⟩ := bodkinlaw02_WidthWithin.mono_l k
    refine ⟨?_, ?_, ?_, ?_⟩
    · intro y0 y1
      unfold bodkinlaw02_WidthWithin.l0
      repeat' first
      | (with_reducible exact ih0 _ _)
      | (with_reducible exact ih1 _ _ _ _ _ _)
      | (with_reducible exact ih2 _ _ _ _ _ _)
      | (with_reducible exact ih3 _ _ _ _ _)
      | (with_reducible exact bodkinlaw02_awake.mono _)
      | (with_reducible exact bodkinlaw02_held.mono _ _ _)
      | (with_reducible exact width_Cells.mono _ _)
      | (with_reducible exact width_Class.mono _ _)
      | (with_reducible exact width_Ranges.mono _ _)
      | (with_reducible exact LeO.refl _)
      | (with_reducible exact LeO.none _)
      | (with_reducible refine LeO.ite ?_ ?_)
      | (with_reducible refine LeO.bind ?_ (fun _ => ?_))
      | exact ih0 _ _
      | exact ih1 _ _ _ _ _ _
      | exact ih2 _ _ _ _ _ _
      | exact ih3 _ _ _ _ _
      | exact bodkinlaw02_awake.mono _
      | exact bodkinlaw02_held.mono _ _ _
      | exact width_Cells.mono _ _
      | exact width_Class.mono _ _
      | exact width_Ranges.mono _ _
      | exact LeO.none _
      | refine LeO.ite ?_ ?_
      | refine LeO.bind ?_ (fun _ => ?_)
    · intro y0 y1 y2 y3 y4 y5
      unfold bodkinlaw02_WidthWithin.l1
      repeat' first
      | (with_reducible exact ih0 _ _)
      | (with_reducible exact ih1 _ _ _ _ _ _)
      | (with_reducible exact ih2 _ _ _ _ _ _)
      | (with_reducible exact ih3 _ _ _ _ _)
      | (with_reducible exact bodkinlaw02_awake.mono _)
      | (with_reducible exact bodkinlaw02_held.mono _ _ _)
      | (with_reducible exact width_Cells.mono _ _)
      | (with_reducible exact width_Class.mono _ _)
      | (with_reducible exact width_Ranges.mono _ _)
      | (with_reducible exact LeO.refl _)
      | (with_reducible exact LeO.none _)
      | (with_reducible refine LeO.ite ?_ ?_)
      | (with_reducible refine LeO.bind ?_ (fun _ => ?_))
      | exact ih0 _ _
      | exact ih1 _ _ _ _ _ _
      | exact ih2 _ _ _ _ _ _
      | exact ih3 _ _ _ _ _
      | exact bodkinlaw02_awake.mono _
      | exact bodkinlaw02_held.mono _ _ _
      | exact width_Cells.mono _ _
      | exact width_Class.mono _ _
      | exact width_Ranges.mono _ _
      | exact LeO.none _
      | refine LeO.ite ?_ ?_
      | refine LeO.bind ?_ (fun _ => ?_)
    · intro y0 y1 y2 y3 y4 y5
      unfold bodkinlaw02_WidthWithin.j2
      repeat' first
      | (with_reducible exact ih0 _ _)
      | (with_reducible exact ih1 _ _ _ _ _ _)
      | (with_reducible exact ih2 _ _ _ _ _ _)
      | (with_reducible exact ih3 _ _ _ _ _)
      | (with_reducible exact bodkinlaw02_awake.mono _)
      | (with_reducible exact bodkinlaw02_held.mono _ _ _)
      | (with_reducible exact width_Cells.mono _ _)
      | (with_reducible exact width_Class.mono _ _)
      | (with_reducible exact width_Ranges.mono _ _)
      | (with_reducible exact LeO.refl _)
      | (with_reducible exact LeO.none _)
      | (with_reducible refine LeO.ite ?_ ?_)
      | (with_reducible refine LeO.bind ?_ (fun _ => ?_))
      | exact ih0 _ _
      | exact ih1 _ _ _ _ _ _
      | exact ih2 _ _ _ _ _ _
      | exact ih3 _ _ _ _ _
      | exact bodkinlaw02_awake.mono _
      | exact bodkinlaw02_held.mono _ _ _
      | exact width_Cells.mono _ _
      | exact width_Class.mono _ _
      | exact width_Ranges.mono _ _
      | exact LeO.none _
      | refine LeO.ite ?_ ?_
      | refine LeO.bind ?_ (fun _ => ?_)
    · intro y0 y1 y2 y3 y4
      unfold bodkinlaw02_WidthWithin.j3
      repeat' first
      | (with_reducible exact ih0 _ _)
      | (with_reducible exact ih1 _ _ _ _ _ _)
      | (with_reducible exact ih2 _ _ _ _ _ _)
      | (with_reducible exact ih3 _ _ _ _ _)
      | (with_reducible exact bodkinlaw02_awake.mono _)
      | (with_reducible exact bodkinlaw02_held.mono _ _ _)
      | (with_reducible exact width_Cells.mono _ _)
      | (with_reducible exact width_Class.mono _ _)
      | (with_reducible exact width_Ranges.mono _ _)
      | (with_reducible exact LeO.refl _)
      | (with_reducible exact LeO.none _)
      | (with_reducible refine LeO.ite ?_ ?_)
      | (with_reducible refine LeO.bind ?_ (fun _ => ?_))
      | exact ih0 _ _
      | exact ih1 _ _ _ _ _ _
      | exact ih2 _ _ _ _ _ _
      | exact ih3 _ _ _ _ _
      | exact bodkinlaw02_awake.mono _
      | exact bodkinlaw02_held.mono _ _ _
      | exact width_Cells.mono _ _
      | exact width_Class.mono _ _
      | exact width_Ranges.mono _ _
      | exact LeO.none _
      | refine LeO.ite ?_ ?_
      | refine LeO.bind ?_ (fun _ => ?_)
theorem bodkinlaw02_WidthWithin.mono : ∀ a0 k, LeO (bodkinlaw02_WidthWithin.f k a0) (bodkinlaw02_WidthWithin.f (k + 1) a0) := by
  intro a0 k
  obtain ⟨ih0, ih1, ih2, ih3⟩ := bodkinlaw02_WidthWithin.mono_l k
  unfold bodkinlaw02_WidthWithin.f
  repeat' first
      | (with_reducible exact ih0 _ _)
      | (with_reducible exact ih1 _ _ _ _ _ _)
      | (with_reducible exact ih2 _ _ _ _ _ _)
      | (with_reducible exact ih3 _ _ _ _ _)
      | (with_reducible exact bodkinlaw02_awake.mono _)
      | (with_reducible exact bodkinlaw02_held.mono _ _ _)
      | (with_reducible exact width_Cells.mono _ _)
      | (with_reducible exact width_Class.mono _ _)
      | (with_reducible exact width_Ranges.mono _ _)
      | (with_reducible exact LeO.refl _)
      | (with_reducible exact LeO.none _)
      | (with_reducible refine LeO.ite ?_ ?_)
      | (with_reducible refine LeO.bind ?_ (fun _ => ?_))
      | exact ih0 _ _
      | exact ih1 _ _ _ _ _ _
      | exact ih2 _ _ _ _ _ _
      | exact ih3 _ _ _ _ _
      | exact bodkinlaw02_awake.mono _
      | exact bodkinlaw02_held.mono _ _ _
      | exact width_Cells.mono _ _
      | exact width_Class.mono _ _
      | exact width_Ranges.mono _ _
      | exact LeO.none _
      | refine LeO.ite ?_ ?_
      | refine LeO.bind ?_ (fun _ => ?_)
set_option maxHeartbeats 8000000 in
set_option maxRecDepth 100000 in
theorem bodkinlaw02_WidthWithin.calls (k : Nat) (A0 : Option Addr) (c0 : Nat) (l0 : List Int) (r : Bool) (w : World) (hr0 : Kd.C (Kd.int .i32) w A0 l0.length l0) (hc0 : l0.length ≤ c0) (h : bodkinlaw02_WidthWithin.f k l0 = some r) :
    Calls Try.prog 7 #[.slice A0 l0.length c0] w fun e w' => e = .returned (.bool r) ∧ Below w.heap.size w w' := by
  have HR0 := Aside0.mk hr0
  have HC0 := Aside0.mk hc0
  clear hr0 hc0
  have HB := Aside0.mk (Below.refl w.heap.size w)
  have H : ((bodkinlaw02_awake.f k).bind fun t140 => (if t140 = true then (bodkinlaw02_WidthWithin.l0 k l0 0) else (some false))) = some r := h
  clear h
  replace H := Option.bind_eq_some_iff.mp H
  obtain ⟨t140, A20, H⟩ := H
  replace H : (if t140 = true then (bodkinlaw02_WidthWithin.l0 k l0 0) else (some false)) = some r := H
  have A2 := Aside0.mk A20
  clear A20
  by_cases c3 : t140 = true
  · subst c3
    have H1 : (bodkinlaw02_WidthWithin.l0 k l0 0) = some r := by rw [if_pos rfl] at H; exact H
    clear H
    have H := H1
    clear H1
    have H' := Aside0.mk H
    clear H
    go_enter Try.func7, Try.ntmps7
    go_wp2_with (first | ((with_reducible refine gate_callee (f := 9) rfl ?_); refine goesL_ (some 11) rfl rfl Try.func9 (by kernel_rfl) rfl #[] rfl (by (try simp only [List.map_toArray, List.map_cons, List.map_nil]); first | done | rfl | (simp only [List.length_drop, List.length_take]; rfl)) ?_; (with_reducible refine (bodkinlaw02_awake.calls k  true _ A2.out).mono ?_); rintro e w4 ⟨rfl, hb⟩; refine ⟨_, rfl, ?_⟩; have n0_ := Aside0.mk (below_step (by repeat (first | (with_reducible first | exact HB.out | apply below_alloc | apply pw_below_drewN | apply below_drew1) | exact HB.out)) hb); clear HB; have HB := n0_; clear n0_; (try clear hb); (try clear hb2); (try clear hk); (try clear hi)))
    go_loopg [3] k (fun kq v3 w' => ∃ (x3_1 : Int), v3 = .int .i64 x3_1 ∧ Aside0 (bodkinlaw02_WidthWithin.l0 kq l0 x3_1 = some r) ∧ Aside0 (kq ≤ k) ∧ Aside0 (Below w.heap.size w w'))
    case atStart => exact ⟨(0), (by first | rfl | (simp; done) | (simp [*]; done)), H', ⟨Nat.le_refl _⟩, ⟨by repeat (first | (with_reducible first | exact HB.out | apply below_alloc | apply pw_below_drewN | apply below_drew1) | exact HB.out)⟩⟩
    case round =>
      clear H'
      try clear p2
      try clear c3
      obtain ⟨x3_1, rfl, HA, HK1, HB⟩ := hrel
      cases gk with
      | zero => exact absurd HA.out (by simp [bodkinlaw02_WidthWithin.l0])
      | succ k1 =>
        have H := HA.out
        clear HA
        simp only [bodkinlaw02_WidthWithin.l0] at H
        by_cases c5 : x3_1 < (l0.length : Int)
        · rw [if_pos c5] at H
          have c5b0 : decide (x3_1 < (l0.length : Int)) = true := decide_eq_true c5
          clear c5
          by_cases c6 : 0 ≤ x3_1
          · rw [if_pos c6] at H
            have c6b0 : decide (0 ≤ x3_1) = true := decide_eq_true c6
            clear c6
            replace H := Option.bind_eq_some_iff.mp H
            obtain ⟨t142, A70, H⟩ := H
            replace H : (bodkinlaw02_WidthWithin.l1 k1 l0 x3_1 (rd l0 x3_1) t142 0 1) = some r := H
            have A7 := Aside0.mk A70
            clear A70
            have H' := Aside0.mk H
            clear H
            have p141 : 0 ≤ (x3_1 : Int) := of_decide_eq_true (by first | (with_reducible assumption) | assumption)
            have q141 : x3_1 < (l0.length : Int) := of_decide_eq_true (by first | (with_reducible assumption) | assumption)
            obtain ⟨ad141, e141, hx141_0⟩ := Kd.at_int HR0.out x3_1 p141 q141
            cases e141
            replace hx141_0 := (HB.out.cell (World.block_lt_of_cell? w _ hx141_0)).trans hx141_0
            replace p141 := eq_true p141
            replace q141 := eq_true q141
            go_wp2_with (first | ((with_reducible refine gate_callee (f := 10) rfl ?_); refine goesL_ (some 24) rfl rfl Try.func10 (by kernel_rfl) rfl #[.int .i32 (rd l0 x3_1)] rfl (by (try simp only [List.map_toArray, List.map_cons, List.map_nil]); first | done | rfl | (simp only [List.length_drop, List.length_take]; rfl)) ?_; (with_reducible refine (width_Class.calls k1 (rd l0 x3_1) t142 _ A7.out).mono ?_); rintro e w8 ⟨rfl, hb⟩; refine ⟨_, rfl, ?_⟩; have n0_ := Aside0.mk (below_step (by repeat (first | (with_reducible first | exact HB.out | apply below_alloc | apply pw_below_drewN | apply below_drew1) | exact HB.out)) hb); clear HB; have HB := n0_; clear n0_; (try clear hb); (try clear hb2); (try clear hk); (try clear hi)))
            go_loopg [6, 7] k1 (fun kq v6 v7 w' => ∃ (x6_2 : Int) (x7_2 : Int), v6 = .int .i64 x6_2 ∧ v7 = .int .i64 x7_2 ∧ Aside0 (bodkinlaw02_WidthWithin.l1 kq l0 x3_1 (rd l0 x3_1) t142 x6_2 x7_2 = some r) ∧ Aside0 (kq ≤ k1) ∧ Aside0 (Below w.heap.size w w'))
            case atStart => exact ⟨(0), (1), (by first | rfl | (simp; done) | (simp [*]; done)), (by first | rfl | (simp; done) | (simp [*]; done)), H', ⟨Nat.le_refl _⟩, ⟨by repeat (first | (with_reducible first | exact HB.out | apply below_alloc | apply pw_below_drewN | apply below_drew1) | exact HB.out)⟩⟩
            case round =>
              clear H'
              try clear c1
              try clear p1
              try clear q1
              try clear hx1
              try clear p2
              try clear c3
              try clear c5
              try clear c5b0
              try clear c6
              try clear c6b0
              try clear c7
              try clear hx141_0
              try clear p141
              try clear p2
              try clear q141
              obtain ⟨x6_2, x7_2, rfl, rfl, HA, HK2, HB⟩ := hrel
              cases gk with
              | zero => exact absurd HA.out (by simp [bodkinlaw02_WidthWithin.l1])
              | succ k2 =>
                have H := HA.out
                clear HA
                simp only [bodkinlaw02_WidthWithin.l1] at H
                by_cases c9 : x7_2 ≤ 4
                · rw [if_pos c9] at H
                  have c9b0 : decide (x7_2 ≤ 4) = true := decide_eq_true c9
                  clear c9
                  replace H := Option.bind_eq_some_iff.mp H
                  obtain ⟨t143, A100, H⟩ := H
                  replace H : ((bodkinlaw02_held.f k2 t143 (rd l0 x3_1)).bind fun t146 => (if (t146 != (t142 == x7_2)) = true then (some false) else (if t146 = true then (bodkinlaw02_WidthWithin.l1 k2 l0 x3_1 (rd l0 x3_1) t142 (wrap64 (x6_2 + 1)) (wrap64 (x7_2 + 1))) else (bodkinlaw02_WidthWithin.l1 k2 l0 x3_1 (rd l0 x3_1) t142 x6_2 (wrap64 (x7_2 + 1)))))) = some r := H
                  have A10 := Aside0.mk A100
                  clear A100
                  replace H := Option.bind_eq_some_iff.mp H
                  obtain ⟨t146, A110, H⟩ := H
                  replace H : (if (t146 != (t142 == x7_2)) = true then (some false) else (if t146 = true then (bodkinlaw02_WidthWithin.l1 k2 l0 x3_1 (rd l0 x3_1) t142 (wrap64 (x6_2 + 1)) (wrap64 (x7_2 + 1))) else (bodkinlaw02_WidthWithin.l1 k2 l0 x3_1 (rd l0 x3_1) t142 x6_2 (wrap64 (x7_2 + 1))))) = some r := H
                  have A11 := Aside0.mk A110
                  clear A110
                  by_cases c12 : (t146 != (t142 == x7_2)) = true
                  · rw [if_pos c12] at H
                    have c12b0 : (t146 != (t142 == x7_2)) = true := c12
                    (try (have c12b1 : decide (t146 = (t142 == x7_2)) = false := by simpa using c12))
                    (try (have c12b2 : (t146 == (t142 == x7_2)) = false := by simpa using c12))
                    (try (have c12b3 : ¬ (t146 = (t142 == x7_2)) := by simpa using c12))
                    clear c12
                    obtain rfl := Option.some.inj H
                    go_wp2_with (first | ((with_reducible refine gate_callee (f := 15) rfl ?_); refine goesL_ (some 30) rfl rfl Try.func15 (by kernel_rfl) rfl #[.int .i64 x7_2] rfl (by (try simp only [List.map_toArray, List.map_cons, List.map_nil]); first | done | rfl | (simp only [List.length_drop, List.length_take]; rfl)) ?_; (with_reducible refine (width_Ranges.calls k2 x7_2 t143 _ A10.out).mono ?_); rintro e w13 ⟨v144, rfl, ho0, hb⟩; refine ⟨_, rfl, ?_⟩; have n0_ := Aside0.mk (Kd.R_lower ho0 (below_size (by repeat (first | (with_reducible first | exact HB.out | apply below_alloc | apply pw_below_drewN | apply below_drew1) | exact HB.out)))); have n1_ := Aside0.mk (below_step (by repeat (first | (with_reducible first | exact HB.out | apply below_alloc | apply pw_below_drewN | apply below_drew1) | exact HB.out)) hb); clear HB; have HO145 := n0_; have HB := n1_; clear n0_ n1_; (try clear hb); (try clear hb2); (try clear hk); (try clear hi); (try clear ho0); obtain ⟨Ao14, co14, eo14⟩ := Kd.R_slice HO145.out; subst eo14) | ((with_reducible refine gate_callee (f := 17) rfl ?_); refine goesL_ (some 32) rfl rfl Try.func17 (by kernel_rfl) rfl #[.slice Ao14 t143.length co14, .int .i32 (rd l0 x3_1)] rfl (by (try simp only [List.map_toArray, List.map_cons, List.map_nil]); first | done | rfl | (simp only [List.length_drop, List.length_take]; rfl)) ?_; (with_reducible refine (bodkinlaw02_held.calls k2 _ _ t143 (rd l0 x3_1) t146 _ ?side1 ?side2 A11.out).mono ?_); (case side1 => repeat (first | exact (Kd.R_reads' HO145.out).2.2 | (with_reducible refine Kd.C_alloc ?_ _) | (with_reducible refine Kd.C_drewN ?_ _) | (with_reducible refine Kd.C_drew ?_))); (case side2 => exact (Kd.R_reads' HO145.out).2.1); rintro e w' ⟨rfl, ⟨nd, rfl⟩⟩; refine ⟨_, rfl, ?_⟩))
                    go_ret
                    exact ⟨by first | rfl | (simp [errW_none, errW_some] <;> rfl) | (simp [*, errW_none, errW_some] <;> rfl), by repeat (first | (with_reducible first | exact HB.out | apply below_alloc | apply pw_below_drewN | apply below_drew1) | exact HB.out)⟩
                  · rw [if_neg c12] at H
                    have c12b0 : (t146 != (t142 == x7_2)) = false := by simpa using c12
                    (try (have c12b1 : decide (t146 = (t142 == x7_2)) = true := by simpa using c12))
                    (try (have c12b2 : (t146 == (t142 == x7_2)) = true := by simpa using c12))
                    clear c12
                    by_cases c15 : t146 = true
                    · subst c15
                      have H1 : (bodkinlaw02_WidthWithin.l1 k2 l0 x3_1 (rd l0 x3_1) t142 (wrap64 (x6_2 + 1)) (wrap64 (x7_2 + 1))) = some r := by rw [if_pos rfl] at H; exact H
                      clear H
                      have H := H1
                      clear H1
                      have H' := Aside0.mk H
                      clear H
                      go_wp2_with (first | ((with_reducible refine gate_callee (f := 15) rfl ?_); refine goesL_ (some 30) rfl rfl Try.func15 (by kernel_rfl) rfl #[.int .i64 x7_2] rfl (by (try simp only [List.map_toArray, List.map_cons, List.map_nil]); first | done | rfl | (simp only [List.length_drop, List.length_take]; rfl)) ?_; (with_reducible refine (width_Ranges.calls k2 x7_2 t143 _ A10.out).mono ?_); rintro e w16 ⟨v144, rfl, ho0, hb⟩; refine ⟨_, rfl, ?_⟩; have n0_ := Aside0.mk (Kd.R_lower ho0 (below_size (by repeat (first | (with_reducible first | exact HB.out | apply below_alloc | apply pw_below_drewN | apply below_drew1) | exact HB.out)))); have n1_ := Aside0.mk (below_step (by repeat (first | (with_reducible first | exact HB.out | apply below_alloc | apply pw_below_drewN | apply below_drew1) | exact HB.out)) hb); clear HB; have HO145 := n0_; have HB := n1_; clear n0_ n1_; (try clear hb); (try clear hb2); (try clear hk); (try clear hi); (try clear ho0); obtain ⟨Ao17, co17, eo17⟩ := Kd.R_slice HO145.out; subst eo17) | ((with_reducible refine gate_callee (f := 17) rfl ?_); refine goesL_ (some 32) rfl rfl Try.func17 (by kernel_rfl) rfl #[.slice Ao17 t143.length co17, .int .i32 (rd l0 x3_1)] rfl (by (try simp only [List.map_toArray, List.map_cons, List.map_nil]); first | done | rfl | (simp only [List.length_drop, List.length_take]; rfl)) ?_; (with_reducible refine (bodkinlaw02_held.calls k2 _ _ t143 (rd l0 x3_1) true _ ?side1 ?side2 A11.out).mono ?_); (case side1 => repeat (first | exact (Kd.R_reads' HO145.out).2.2 | (with_reducible refine Kd.C_alloc ?_ _) | (with_reducible refine Kd.C_drewN ?_ _) | (with_reducible refine Kd.C_drew ?_))); (case side2 => exact (Kd.R_reads' HO145.out).2.1); rintro e w' ⟨rfl, ⟨nd, rfl⟩⟩; refine ⟨_, rfl, ?_⟩))
                      go_roundg k2
                      case measure => have := HK1.out; have := HK2.out; omega
                      case rel => exact ⟨(wrap64 (x6_2 + 1)), (wrap64 (x7_2 + 1)), (by first | rfl | (simp; done) | (simp [*]; done)), (by first | rfl | (simp; done) | (simp [*]; done)), H', ⟨by have := HK1.out; have := HK2.out; omega⟩, ⟨by repeat (first | (with_reducible first | exact HB.out | apply below_alloc | apply pw_below_drewN | apply below_drew1) | exact HB.out)⟩⟩
                    · replace c15 := Bool.eq_false_iff.mpr c15
                      subst c15
                      have H1 : (bodkinlaw02_WidthWithin.l1 k2 l0 x3_1 (rd l0 x3_1) t142 x6_2 (wrap64 (x7_2 + 1))) = some r := by rw [if_neg (show ¬ (false = true) by decide)] at H; exact H
                      clear H
                      have H := H1
                      clear H1
                      have H' := Aside0.mk H
                      clear H
                      go_wp2_with (first | ((with_reducible refine gate_callee (f := 15) rfl ?_); refine goesL_ (some 30) rfl rfl Try.func15 (by kernel_rfl) rfl #[.int .i64 x7_2] rfl (by (try simp only [List.map_toArray, List.map_cons, List.map_nil]); first | done | rfl | (simp only [List.length_drop, List.length_take]; rfl)) ?_; (with_reducible refine (width_Ranges.calls k2 x7_2 t143 _ A10.out).mono ?_); rintro e w18 ⟨v144, rfl, ho0, hb⟩; refine ⟨_, rfl, ?_⟩; have n0_ := Aside0.mk (Kd.R_lower ho0 (below_size (by repeat (first | (with_reducible first | exact HB.out | apply below_alloc | apply pw_below_drewN | apply below_drew1) | exact HB.out)))); have n1_ := Aside0.mk (below_step (by repeat (first | (with_reducible first | exact HB.out | apply below_alloc | apply pw_below_drewN | apply below_drew1) | exact HB.out)) hb); clear HB; have HO145 := n0_; have HB := n1_; clear n0_ n1_; (try clear hb); (try clear hb2); (try clear hk); (try clear hi); (try clear ho0); obtain ⟨Ao19, co19, eo19⟩ := Kd.R_slice HO145.out; subst eo19) | ((with_reducible refine gate_callee (f := 17) rfl ?_); refine goesL_ (some 32) rfl rfl Try.func17 (by kernel_rfl) rfl #[.slice Ao19 t143.length co19, .int .i32 (rd l0 x3_1)] rfl (by (try simp only [List.map_toArray, List.map_cons, List.map_nil]); first | done | rfl | (simp only [List.length_drop, List.length_take]; rfl)) ?_; (with_reducible refine (bodkinlaw02_held.calls k2 _ _ t143 (rd l0 x3_1) false _ ?side1 ?side2 A11.out).mono ?_); (case side1 => repeat (first | exact (Kd.R_reads' HO145.out).2.2 | (with_reducible refine Kd.C_alloc ?_ _) | (with_reducible refine Kd.C_drewN ?_ _) | (with_reducible refine Kd.C_drew ?_))); (case side2 => exact (Kd.R_reads' HO145.out).2.1); rintro e w' ⟨rfl, ⟨nd, rfl⟩⟩; refine ⟨_, rfl, ?_⟩))
                      go_roundg k2
                      case measure => have := HK1.out; have := HK2.out; omega
                      case rel => exact ⟨(x6_2), (wrap64 (x7_2 + 1)), (by first | rfl | (simp; done) | (simp [*]; done)), (by first | rfl | (simp; done) | (simp [*]; done)), H', ⟨by have := HK1.out; have := HK2.out; omega⟩, ⟨by repeat (first | (with_reducible first | exact HB.out | apply below_alloc | apply pw_below_drewN | apply below_drew1) | exact HB.out)⟩⟩
                · rw [if_neg c9] at H
                  have c9b0 : decide (x7_2 ≤ 4) = false := decide_eq_false c9
                  clear c9
                  have HC20 := Aside0.mk H
                  clear H
                  go_upto_region 17 with (fail)
                  go_cut [9] (fun v9 wc => ∃ (kq : Nat) (x9_19 : Bool), v9 = .bool x9_19 ∧ Aside0 (bodkinlaw02_WidthWithin.j2 kq l0 x3_1 (rd l0 x3_1) t142 x6_2 x9_19 = some r) ∧ Aside0 (kq ≤ k2) ∧ Aside0 (Below w.heap.size w wc))
                  case first =>
                    have H := HC20.out
                    clear HC20
                    by_cases c21 : (rd l0 x3_1) < 0
                    · rw [if_pos c21] at H
                      have c21b0 : decide ((rd l0 x3_1) < 0) = true := decide_eq_true c21
                      clear c21
                      (first | rw [c21b0] | (simp only [i64_w, i32_w]; rw [c21b0]) | skip)
                      have H' := Aside0.mk H
                      clear H
                      go_wp2
                      go_meet
                      case rel => exact ⟨_, (true), (by first | rfl | (simp; done) | (simp [*]; done)), H', ⟨by have := HK1.out; have := HK2.out; first | omega | exact Nat.le_refl _⟩, ⟨by repeat (first | (with_reducible first | exact HB.out | apply below_alloc | apply pw_below_drewN | apply below_drew1) | exact HB.out)⟩⟩
                    · rw [if_neg c21] at H
                      have c21b0 : decide ((rd l0 x3_1) < 0) = false := decide_eq_false c21
                      clear c21
                      (first | rw [c21b0] | (simp only [i64_w, i32_w]; rw [c21b0]) | skip)
                      by_cases c22 : (rd l0 x3_1) > 1114111
                      · rw [if_pos c22] at H
                        have c22b0 : decide (1114111 < (rd l0 x3_1)) = true := decide_eq_true c22
                        clear c22
                        have H' := Aside0.mk H
                        clear H
                        go_wp2
                        go_meet
                        case rel => exact ⟨_, (true), (by first | rfl | (simp; done) | (simp [*]; done)), H', ⟨by have := HK1.out; have := HK2.out; first | omega | exact Nat.le_refl _⟩, ⟨by repeat (first | (with_reducible first | exact HB.out | apply below_alloc | apply pw_below_drewN | apply below_drew1) | exact HB.out)⟩⟩
                      · rw [if_neg c22] at H
                        have c22b0 : decide (1114111 < (rd l0 x3_1)) = false := decide_eq_false c22
                        clear c22
                        by_cases c23 : (rd l0 x3_1) ≥ 55296
                        · rw [if_pos c23] at H
                          have c23b0 : decide (55296 ≤ (rd l0 x3_1)) = true := decide_eq_true c23
                          clear c23
                          have H' := Aside0.mk H
                          clear H
                          go_wp2
                          go_meet
                          case rel => exact ⟨_, (decide ((rd l0 x3_1) < 57344)), (by first | rfl | (simp; done) | (simp [*]; done)), H', ⟨by have := HK1.out; have := HK2.out; first | omega | exact Nat.le_refl _⟩, ⟨by repeat (first | (with_reducible first | exact HB.out | apply below_alloc | apply pw_below_drewN | apply below_drew1) | exact HB.out)⟩⟩
                        · rw [if_neg c23] at H
                          have c23b0 : decide (55296 ≤ (rd l0 x3_1)) = false := decide_eq_false c23
                          clear c23
                          have H' := Aside0.mk H
                          clear H
                          go_wp2
                          go_meet
                          case rel => exact ⟨_, (false), (by first | rfl | (simp; done) | (simp [*]; done)), H', ⟨by have := HK1.out; have := HK2.out; first | omega | exact Nat.le_refl _⟩, ⟨by repeat (first | (with_reducible first | exact HB.out | apply below_alloc | apply pw_below_drewN | apply below_drew1) | exact HB.out)⟩⟩
                  case rest =>
                    clear HC20
                    try clear c1
                    try clear p1
                    try clear q1
                    try clear hx1
                    try clear c2
                    try clear p2
                    try clear c3
                    try clear c5
                    try clear c5b0
                    try clear c6
                    try clear c6b0
                    try clear p6
                    try clear c7
                    try clear c9
                    try clear c9b0
                    try clear c10
                    try clear c12
                    try clear c12b0
                    try clear c12b1
                    try clear c12b2
                    try clear p14
                    try clear q14
                    try clear hx14
                    try clear c15
                    try clear c17
                    try clear c21
                    try clear c21b0
                    try clear c22
                    try clear c22b0
                    try clear c23
                    try clear c23b0
                    try clear hx141_0
                    try clear p1
                    try clear p141
                    try clear p2
                    try clear q1
                    try clear q141
                    obtain ⟨kq, x9_19, rfl, HA, HJ19, HB⟩ := hcut
                    cases kq with
                    | zero => exact absurd HA.out (by simp [bodkinlaw02_WidthWithin.j2])
                    | succ kj19 =>
                      have H := HA.out
                      clear HA
                      simp only [bodkinlaw02_WidthWithin.j2] at H
                      have HC24 := Aside0.mk H
                      clear H
                      go_upto_region 18 with (fail)
                      go_cut [74] (fun v74 wc => ∃ (kq : Nat) (x74_23 : Bool), v74 = .bool x74_23 ∧ Aside0 (bodkinlaw02_WidthWithin.j3 kq l0 x3_1 (rd l0 x3_1) t142 x74_23 = some r) ∧ Aside0 (kq ≤ kj19) ∧ Aside0 (Below w.heap.size w wc))
                      case first =>
                        have H := HC24.out
                        clear HC24
                        by_cases c25 : x6_2 > 1
                        · rw [if_pos c25] at H
                          have c25b0 : decide (1 < x6_2) = true := decide_eq_true c25
                          clear c25
                          (first | rw [c25b0] | (simp only [i64_w, i32_w]; rw [c25b0]) | skip)
                          have H' := Aside0.mk H
                          clear H
                          go_wp2
                          go_meet
                          case rel => exact ⟨_, (true), (by first | rfl | (simp; done) | (simp [*]; done)), H', ⟨by have := HK1.out; have := HK2.out; have := HJ19.out; first | omega | exact Nat.le_refl _⟩, ⟨by repeat (first | (with_reducible first | exact HB.out | apply below_alloc | apply pw_below_drewN | apply below_drew1) | exact HB.out)⟩⟩
                        · rw [if_neg c25] at H
                          have c25b0 : decide (1 < x6_2) = false := decide_eq_false c25
                          clear c25
                          (first | rw [c25b0] | (simp only [i64_w, i32_w]; rw [c25b0]) | skip)
                          by_cases c26 : (x9_19 != (t142 == 5)) = true
                          · rw [if_pos c26] at H
                            have c26b0 : (x9_19 != (t142 == 5)) = true := c26
                            (try (have c26b1 : decide (x9_19 = (t142 == 5)) = false := by simpa using c26))
                            (try (have c26b2 : (x9_19 == (t142 == 5)) = false := by simpa using c26))
                            (try (have c26b3 : ¬ (x9_19 = (t142 == 5)) := by simpa using c26))
                            clear c26
                            have H' := Aside0.mk H
                            clear H
                            go_wp2
                            go_meet
                            case rel => exact ⟨_, (true), (by first | rfl | (simp; done) | (simp [*]; done)), H', ⟨by have := HK1.out; have := HK2.out; have := HJ19.out; first | omega | exact Nat.le_refl _⟩, ⟨by repeat (first | (with_reducible first | exact HB.out | apply below_alloc | apply pw_below_drewN | apply below_drew1) | exact HB.out)⟩⟩
                          · rw [if_neg c26] at H
                            have c26b0 : (x9_19 != (t142 == 5)) = false := by simpa using c26
                            (try (have c26b1 : decide (x9_19 = (t142 == 5)) = true := by simpa using c26))
                            (try (have c26b2 : (x9_19 == (t142 == 5)) = true := by simpa using c26))
                            clear c26
                            by_cases c27 : x6_2 = 0
                            · rw [if_pos c27] at H
                              have c27b0 : (x6_2 == 0) = true := beq_iff_eq.mpr c27
                              have c27b1 : (x6_2 != 0) = false := bne_eq_false_iff_eq.mpr c27
                              clear c27
                              by_cases c28 : x9_19 = true
                              · subst c28
                                have H1 : (bodkinlaw02_WidthWithin.j3 kj19 l0 x3_1 (rd l0 x3_1) t142 false) = some r := by rw [if_pos rfl] at H; exact H
                                clear H
                                have H := H1
                                clear H1
                                have H' := Aside0.mk H
                                clear H
                                go_wp2
                                go_meet
                                case rel => exact ⟨_, (false), (by first | rfl | (simp; done) | (simp [*]; done)), H', ⟨by have := HK1.out; have := HK2.out; have := HJ19.out; first | omega | exact Nat.le_refl _⟩, ⟨by repeat (first | (with_reducible first | exact HB.out | apply below_alloc | apply pw_below_drewN | apply below_drew1) | exact HB.out)⟩⟩
                              · replace c28 := Bool.eq_false_iff.mpr c28
                                subst c28
                                have H1 : (bodkinlaw02_WidthWithin.j3 kj19 l0 x3_1 (rd l0 x3_1) t142 (t142 != 0)) = some r := by rw [if_neg (show ¬ (false = true) by decide)] at H; exact H
                                clear H
                                have H := H1
                                clear H1
                                have H' := Aside0.mk H
                                clear H
                                go_wp2
                                go_meet
                                case rel => exact ⟨_, ((t142 != 0)), (by first | rfl | (simp; done) | (simp [*]; done)), H', ⟨by have := HK1.out; have := HK2.out; have := HJ19.out; first | omega | exact Nat.le_refl _⟩, ⟨by repeat (first | (with_reducible first | exact HB.out | apply below_alloc | apply pw_below_drewN | apply below_drew1) | exact HB.out)⟩⟩
                            · rw [if_neg c27] at H
                              have c27b0 : (x6_2 == 0) = false := beq_eq_false_iff_ne.mpr c27
                              have c27b1 : (x6_2 != 0) = true := bne_iff_ne.mpr c27
                              have H' := Aside0.mk H
                              clear H
                              go_wp2
                              go_meet
                              case rel => exact ⟨_, (false), (by first | rfl | (simp; done) | (simp [*]; done)), H', ⟨by have := HK1.out; have := HK2.out; have := HJ19.out; first | omega | exact Nat.le_refl _⟩, ⟨by repeat (first | (with_reducible first | exact HB.out | apply below_alloc | apply pw_below_drewN | apply below_drew1) | exact HB.out)⟩⟩
                      case rest =>
                        clear HC24
                        try clear c1
                        try clear p1
                        try clear q1
                        try clear hx1
                        try clear c2
                        try clear p2
                        try clear c3
                        try clear c5
                        try clear c5b0
                        try clear c6
                        try clear c6b0
                        try clear p6
                        try clear c7
                        try clear c9
                        try clear c9b0
                        try clear c10
                        try clear c12
                        try clear c12b0
                        try clear c12b1
                        try clear c12b2
                        try clear p14
                        try clear q14
                        try clear hx14
                        try clear c15
                        try clear c17
                        try clear c21
                        try clear c21b0
                        try clear c22
                        try clear c22b0
                        try clear c23
                        try clear c23b0
                        try clear c25
                        try clear c25b0
                        try clear c26
                        try clear c26b0
                        try clear c26b1
                        try clear c26b2
                        try clear c27
                        try clear c27b0
                        try clear c27b1
                        try clear c28
                        try clear hx141_0
                        try clear p1
                        try clear p14
                        try clear p141
                        try clear p2
                        try clear p6
                        try clear q1
                        try clear q14
                        try clear q141
                        obtain ⟨kq, x74_23, rfl, HA, HJ23, HB⟩ := hcut
                        cases kq with
                        | zero => exact absurd HA.out (by simp [bodkinlaw02_WidthWithin.j3])
                        | succ kj23 =>
                          have H := HA.out
                          clear HA
                          simp only [bodkinlaw02_WidthWithin.j3] at H
                          by_cases c29 : x74_23 = true
                          · subst c29
                            have H1 : (some false) = some r := by rw [if_pos rfl] at H; exact H
                            clear H
                            have H := H1
                            clear H1
                            obtain rfl := Option.some.inj H
                            go_wp2
                            go_ret
                            exact ⟨by first | rfl | (simp [errW_none, errW_some] <;> rfl) | (simp [*, errW_none, errW_some] <;> rfl), by repeat (first | (with_reducible first | exact HB.out | apply below_alloc | apply pw_below_drewN | apply below_drew1) | exact HB.out)⟩
                          · replace c29 := Bool.eq_false_iff.mpr c29
                            subst c29
                            have H1 : ((width_Cells.f kj23 (rd l0 x3_1)).bind fun t147 => (if t147 < 0 then (some false) else (if t147 > 2 then (some false) else (if ((t147 == 0) != (t142 == 1)) = true then (some false) else (if t142 = 4 then (if t147 = 2 then (bodkinlaw02_WidthWithin.l0 kj23 l0 (wrap64 (x3_1 + 1))) else (some false)) else (if t147 = 2 then (if t142 = 2 then (bodkinlaw02_WidthWithin.l0 kj23 l0 (wrap64 (x3_1 + 1))) else (some false)) else (bodkinlaw02_WidthWithin.l0 kj23 l0 (wrap64 (x3_1 + 1))))))))) = some r := by rw [if_neg (show ¬ (false = true) by decide)] at H; exact H
                            clear H
                            have H := H1
                            clear H1
                            replace H := Option.bind_eq_some_iff.mp H
                            obtain ⟨t147, A300, H⟩ := H
                            replace H : (if t147 < 0 then (some false) else (if t147 > 2 then (some false) else (if ((t147 == 0) != (t142 == 1)) = true then (some false) else (if t142 = 4 then (if t147 = 2 then (bodkinlaw02_WidthWithin.l0 kj23 l0 (wrap64 (x3_1 + 1))) else (some false)) else (if t147 = 2 then (if t142 = 2 then (bodkinlaw02_WidthWithin.l0 kj23 l0 (wrap64 (x3_1 + 1))) else (some false)) else (bodkinlaw02_WidthWithin.l0 kj23 l0 (wrap64 (x3_1 + 1)))))))) = some r := H
                            have A30 := Aside0.mk A300
                            clear A300
                            by_cases c31 : t147 < 0
                            · rw [if_pos c31] at H
                              have c31b0 : decide (t147 < 0) = true := decide_eq_true c31
                              clear c31
                              obtain rfl := Option.some.inj H
                              go_wp2_with (first | ((with_reducible refine gate_callee (f := 12) rfl ?_); refine goesL_ (some 76) rfl rfl Try.func12 (by kernel_rfl) rfl #[.int .i32 (rd l0 x3_1)] rfl (by (try simp only [List.map_toArray, List.map_cons, List.map_nil]); first | done | rfl | (simp only [List.length_drop, List.length_take]; rfl)) ?_; (with_reducible refine (width_Cells.calls kj23 (rd l0 x3_1) t147 _ A30.out).mono ?_); rintro e w32 ⟨rfl, hb⟩; refine ⟨_, rfl, ?_⟩; have n0_ := Aside0.mk (below_step (by repeat (first | (with_reducible first | exact HB.out | apply below_alloc | apply pw_below_drewN | apply below_drew1) | exact HB.out)) hb); clear HB; have HB := n0_; clear n0_; (try clear hb); (try clear hb2); (try clear hk); (try clear hi)))
                              go_ret
                              exact ⟨by first | rfl | (simp [errW_none, errW_some] <;> rfl) | (simp [*, errW_none, errW_some] <;> rfl), by repeat (first | (with_reducible first | exact HB.out | apply below_alloc | apply pw_below_drewN | apply below_drew1) | exact HB.out)⟩
                            · rw [if_neg c31] at H
                              have c31b0 : decide (t147 < 0) = false := decide_eq_false c31
                              clear c31
                              by_cases c33 : t147 > 2
                              · rw [if_pos c33] at H
                                have c33b0 : decide (2 < t147) = true := decide_eq_true c33
                                clear c33
                                obtain rfl := Option.some.inj H
                                go_wp2_with (first | ((with_reducible refine gate_callee (f := 12) rfl ?_); refine goesL_ (some 76) rfl rfl Try.func12 (by kernel_rfl) rfl #[.int .i32 (rd l0 x3_1)] rfl (by (try simp only [List.map_toArray, List.map_cons, List.map_nil]); first | done | rfl | (simp only [List.length_drop, List.length_take]; rfl)) ?_; (with_reducible refine (width_Cells.calls kj23 (rd l0 x3_1) t147 _ A30.out).mono ?_); rintro e w34 ⟨rfl, hb⟩; refine ⟨_, rfl, ?_⟩; have n0_ := Aside0.mk (below_step (by repeat (first | (with_reducible first | exact HB.out | apply below_alloc | apply pw_below_drewN | apply below_drew1) | exact HB.out)) hb); clear HB; have HB := n0_; clear n0_; (try clear hb); (try clear hb2); (try clear hk); (try clear hi)))
                                go_ret
                                exact ⟨by first | rfl | (simp [errW_none, errW_some] <;> rfl) | (simp [*, errW_none, errW_some] <;> rfl), by repeat (first | (with_reducible first | exact HB.out | apply below_alloc | apply pw_below_drewN | apply below_drew1) | exact HB.out)⟩
                              · rw [if_neg c33] at H
                                have c33b0 : decide (2 < t147) = false := decide_eq_false c33
                                clear c33
                                by_cases c35 : ((t147 == 0) != (t142 == 1)) = true
                                · rw [if_pos c35] at H
                                  have c35b0 : ((t147 == 0) != (t142 == 1)) = true := c35
                                  (try (have c35b1 : decide ((t147 == 0) = (t142 == 1)) = false := by simpa using c35))
                                  (try (have c35b2 : ((t147 == 0) == (t142 == 1)) = false := by simpa using c35))
                                  (try (have c35b3 : ¬ ((t147 == 0) = (t142 == 1)) := by simpa using c35))
                                  clear c35
                                  obtain rfl := Option.some.inj H
                                  go_wp2_with (first | ((with_reducible refine gate_callee (f := 12) rfl ?_); refine goesL_ (some 76) rfl rfl Try.func12 (by kernel_rfl) rfl #[.int .i32 (rd l0 x3_1)] rfl (by (try simp only [List.map_toArray, List.map_cons, List.map_nil]); first | done | rfl | (simp only [List.length_drop, List.length_take]; rfl)) ?_; (with_reducible refine (width_Cells.calls kj23 (rd l0 x3_1) t147 _ A30.out).mono ?_); rintro e w36 ⟨rfl, hb⟩; refine ⟨_, rfl, ?_⟩; have n0_ := Aside0.mk (below_step (by repeat (first | (with_reducible first | exact HB.out | apply below_alloc | apply pw_below_drewN | apply below_drew1) | exact HB.out)) hb); clear HB; have HB := n0_; clear n0_; (try clear hb); (try clear hb2); (try clear hk); (try clear hi)))
                                  go_ret
                                  exact ⟨by first | rfl | (simp [errW_none, errW_some] <;> rfl) | (simp [*, errW_none, errW_some] <;> rfl), by repeat (first | (with_reducible first | exact HB.out | apply below_alloc | apply pw_below_drewN | apply below_drew1) | exact HB.out)⟩
                                · rw [if_neg c35] at H
                                  have c35b0 : ((t147 == 0) != (t142 == 1)) = false := by simpa using c35
                                  (try (have c35b1 : decide ((t147 == 0) = (t142 == 1)) = true := by simpa using c35))
                                  (try (have c35b2 : ((t147 == 0) == (t142 == 1)) = true := by simpa using c35))
                                  clear c35
                                  by_cases c37 : t142 = 4
                                  · rw [if_pos c37] at H
                                    have c37b0 : (t142 == 4) = true := beq_iff_eq.mpr c37
                                    have c37b1 : (t142 != 4) = false := bne_eq_false_iff_eq.mpr c37
                                    clear c37
                                    by_cases c38 : t147 = 2
                                    · rw [if_pos c38] at H
                                      have c38b0 : (t147 == 2) = true := beq_iff_eq.mpr c38
                                      have c38b1 : (t147 != 2) = false := bne_eq_false_iff_eq.mpr c38
                                      clear c38
                                      have H' := Aside0.mk H
                                      clear H
                                      go_wp2_with (first | ((with_reducible refine gate_callee (f := 12) rfl ?_); refine goesL_ (some 76) rfl rfl Try.func12 (by kernel_rfl) rfl #[.int .i32 (rd l0 x3_1)] rfl (by (try simp only [List.map_toArray, List.map_cons, List.map_nil]); first | done | rfl | (simp only [List.length_drop, List.length_take]; rfl)) ?_; (with_reducible refine (width_Cells.calls kj23 (rd l0 x3_1) t147 _ A30.out).mono ?_); rintro e w39 ⟨rfl, hb⟩; refine ⟨_, rfl, ?_⟩; have n0_ := Aside0.mk (below_step (by repeat (first | (with_reducible first | exact HB.out | apply below_alloc | apply pw_below_drewN | apply below_drew1) | exact HB.out)) hb); clear HB; have HB := n0_; clear n0_; (try clear hb); (try clear hb2); (try clear hk); (try clear hi)))
                                      go_roundg kj23
                                      case measure => have := HK1.out; have := HK2.out; have := HJ19.out; have := HJ23.out; omega
                                      case rel => exact ⟨(wrap64 (x3_1 + 1)), (by first | rfl | (simp; done) | (simp [*]; done)), H', ⟨by have := HK1.out; have := HK2.out; have := HJ19.out; have := HJ23.out; omega⟩, ⟨by repeat (first | (with_reducible first | exact HB.out | apply below_alloc | apply pw_below_drewN | apply below_drew1) | exact HB.out)⟩⟩
                                    · rw [if_neg c38] at H
                                      have c38b0 : (t147 == 2) = false := beq_eq_false_iff_ne.mpr c38
                                      have c38b1 : (t147 != 2) = true := bne_iff_ne.mpr c38
                                      obtain rfl := Option.some.inj H
                                      go_wp2_with (first | ((with_reducible refine gate_callee (f := 12) rfl ?_); refine goesL_ (some 76) rfl rfl Try.func12 (by kernel_rfl) rfl #[.int .i32 (rd l0 x3_1)] rfl (by (try simp only [List.map_toArray, List.map_cons, List.map_nil]); first | done | rfl | (simp only [List.length_drop, List.length_take]; rfl)) ?_; (with_reducible refine (width_Cells.calls kj23 (rd l0 x3_1) t147 _ A30.out).mono ?_); rintro e w40 ⟨rfl, hb⟩; refine ⟨_, rfl, ?_⟩; have n0_ := Aside0.mk (below_step (by repeat (first | (with_reducible first | exact HB.out | apply below_alloc | apply pw_below_drewN | apply below_drew1) | exact HB.out)) hb); clear HB; have HB := n0_; clear n0_; (try clear hb); (try clear hb2); (try clear hk); (try clear hi)))
                                      go_ret
                                      exact ⟨by first | rfl | (simp [errW_none, errW_some] <;> rfl) | (simp [*, errW_none, errW_some] <;> rfl), by repeat (first | (with_reducible first | exact HB.out | apply below_alloc | apply pw_below_drewN | apply below_drew1) | exact HB.out)⟩
                                  · rw [if_neg c37] at H
                                    have c37b0 : (t142 == 4) = false := beq_eq_false_iff_ne.mpr c37
                                    have c37b1 : (t142 != 4) = true := bne_iff_ne.mpr c37
                                    by_cases c41 : t147 = 2
                                    · rw [if_pos c41] at H
                                      have c41b0 : (t147 == 2) = true := beq_iff_eq.mpr c41
                                      have c41b1 : (t147 != 2) = false := bne_eq_false_iff_eq.mpr c41
                                      clear c41
                                      by_cases c42 : t142 = 2
                                      · rw [if_pos c42] at H
                                        have c42b0 : (t142 == 2) = true := beq_iff_eq.mpr c42
                                        have c42b1 : (t142 != 2) = false := bne_eq_false_iff_eq.mpr c42
                                        clear c42
                                        have H' := Aside0.mk H
                                        clear H
                                        go_wp2_with (first | ((with_reducible refine gate_callee (f := 12) rfl ?_); refine goesL_ (some 76) rfl rfl Try.func12 (by kernel_rfl) rfl #[.int .i32 (rd l0 x3_1)] rfl (by (try simp only [List.map_toArray, List.map_cons, List.map_nil]); first | done | rfl | (simp only [List.length_drop, List.length_take]; rfl)) ?_; (with_reducible refine (width_Cells.calls kj23 (rd l0 x3_1) t147 _ A30.out).mono ?_); rintro e w43 ⟨rfl, hb⟩; refine ⟨_, rfl, ?_⟩; have n0_ := Aside0.mk (below_step (by repeat (first | (with_reducible first | exact HB.out | apply below_alloc | apply pw_below_drewN | apply below_drew1) | exact HB.out)) hb); clear HB; have HB := n0_; clear n0_; (try clear hb); (try clear hb2); (try clear hk); (try clear hi)))
                                        go_roundg kj23
                                        case measure => have := HK1.out; have := HK2.out; have := HJ19.out; have := HJ23.out; omega
                                        case rel => exact ⟨(wrap64 (x3_1 + 1)), (by first | rfl | (simp; done) | (simp [*]; done)), H', ⟨by have := HK1.out; have := HK2.out; have := HJ19.out; have := HJ23.out; omega⟩, ⟨by repeat (first | (with_reducible first | exact HB.out | apply below_alloc | apply pw_below_drewN | apply below_drew1) | exact HB.out)⟩⟩
                                      · rw [if_neg c42] at H
                                        have c42b0 : (t142 == 2) = false := beq_eq_false_iff_ne.mpr c42
                                        have c42b1 : (t142 != 2) = true := bne_iff_ne.mpr c42
                                        obtain rfl := Option.some.inj H
                                        go_wp2_with (first | ((with_reducible refine gate_callee (f := 12) rfl ?_); refine goesL_ (some 76) rfl rfl Try.func12 (by kernel_rfl) rfl #[.int .i32 (rd l0 x3_1)] rfl (by (try simp only [List.map_toArray, List.map_cons, List.map_nil]); first | done | rfl | (simp only [List.length_drop, List.length_take]; rfl)) ?_; (with_reducible refine (width_Cells.calls kj23 (rd l0 x3_1) t147 _ A30.out).mono ?_); rintro e w44 ⟨rfl, hb⟩; refine ⟨_, rfl, ?_⟩; have n0_ := Aside0.mk (below_step (by repeat (first | (with_reducible first | exact HB.out | apply below_alloc | apply pw_below_drewN | apply below_drew1) | exact HB.out)) hb); clear HB; have HB := n0_; clear n0_; (try clear hb); (try clear hb2); (try clear hk); (try clear hi)))
                                        go_ret
                                        exact ⟨by first | rfl | (simp [errW_none, errW_some] <;> rfl) | (simp [*, errW_none, errW_some] <;> rfl), by repeat (first | (with_reducible first | exact HB.out | apply below_alloc | apply pw_below_drewN | apply below_drew1) | exact HB.out)⟩
                                    · rw [if_neg c41] at H
                                      have c41b0 : (t147 == 2) = false := beq_eq_false_iff_ne.mpr c41
                                      have c41b1 : (t147 != 2) = true := bne_iff_ne.mpr c41
                                      have H' := Aside0.mk H
                                      clear H
                                      go_wp2_with (first | ((with_reducible refine gate_callee (f := 12) rfl ?_); refine goesL_ (some 76) rfl rfl Try.func12 (by kernel_rfl) rfl #[.int .i32 (rd l0 x3_1)] rfl (by (try simp only [List.map_toArray, List.map_cons, List.map_nil]); first | done | rfl | (simp only [List.length_drop, List.length_take]; rfl)) ?_; (with_reducible refine (width_Cells.calls kj23 (rd l0 x3_1) t147 _ A30.out).mono ?_); rintro e w45 ⟨rfl, hb⟩; refine ⟨_, rfl, ?_⟩; have n0_ := Aside0.mk (below_step (by repeat (first | (with_reducible first | exact HB.out | apply below_alloc | apply pw_below_drewN | apply below_drew1) | exact HB.out)) hb); clear HB; have HB := n0_; clear n0_; (try clear hb); (try clear hb2); (try clear hk); (try clear hi)))
                                      go_roundg kj23
                                      case measure => have := HK1.out; have := HK2.out; have := HJ19.out; have := HJ23.out; omega
                                      case rel => exact ⟨(wrap64 (x3_1 + 1)), (by first | rfl | (simp; done) | (simp [*]; done)), H', ⟨by have := HK1.out; have := HK2.out; have := HJ19.out; have := HJ23.out; omega⟩, ⟨by repeat (first | (with_reducible first | exact HB.out | apply below_alloc | apply pw_below_drewN | apply below_drew1) | exact HB.out)⟩⟩
          · rw [if_neg c6] at H
            exact absurd H (by simp)
        · rw [if_neg c5] at H
          have c5b0 : decide (x3_1 < (l0.length : Int)) = false := decide_eq_false c5
          clear c5
          obtain rfl := Option.some.inj H
          go_wp2
          go_ret
          exact ⟨by first | rfl | (simp [errW_none, errW_some] <;> rfl) | (simp [*, errW_none, errW_some] <;> rfl), by repeat (first | (with_reducible first | exact HB.out | apply below_alloc | apply pw_below_drewN | apply below_drew1) | exact HB.out)⟩
  · replace c3 := Bool.eq_false_iff.mpr c3
    subst c3
    have H1 : (some false) = some r := by rw [if_neg (show ¬ (false = true) by decide)] at H; exact H
    clear H
    have H := H1
    clear H1
    obtain rfl := Option.some.inj H
    go_enter Try.func7, Try.ntmps7
    go_wp2_with (first | ((with_reducible refine gate_callee (f := 9) rfl ?_); refine goesL_ (some 11) rfl rfl Try.func9 (by kernel_rfl) rfl #[] rfl (by (try simp only [List.map_toArray, List.map_cons, List.map_nil]); first | done | rfl | (simp only [List.length_drop, List.length_take]; rfl)) ?_; (with_reducible refine (bodkinlaw02_awake.calls k  false _ A2.out).mono ?_); rintro e w46 ⟨rfl, hb⟩; refine ⟨_, rfl, ?_⟩; have n0_ := Aside0.mk (below_step (by repeat (first | (with_reducible first | exact HB.out | apply below_alloc | apply pw_below_drewN | apply below_drew1) | exact HB.out)) hb); clear HB; have HB := n0_; clear n0_; (try clear hb); (try clear hb2); (try clear hk); (try clear hi)))
    go_ret
    exact ⟨by first | rfl | (simp [errW_none, errW_some] <;> rfl) | (simp [*, errW_none, errW_some] <;> rfl), by repeat (first | (with_reducible first | exact HB.out | apply below_alloc | apply pw_below_drewN | apply below_drew1) | exact HB.out)⟩

/-- THE ONE PURE STATEMENT of bodkinlaw02_WidthWithin: yours. -/
def bodkinlaw02_WidthWithin.Pure : Prop := ∀ (l0 : List Int), l0.length ≤ maxLen → l0.length * 4 ≤ 140737488351232 → (∀ x ∈ l0, (Lit.int .i32 x).wf = true) → ∃ k, bodkinlaw02_WidthWithin.f k l0 = some true
theorem bodkinlaw02_WidthWithin.walk (P : bodkinlaw02_WidthWithin.Pure) (a0 : Option Addr) (len0 cap0 : Nat) (z0 : List Int) (w : World) (w0 : (a0 = none ∧ len0 = 0 ∧ cap0 = 0 ∧ z0 = []) ∨ ∃ x, a0 = some x ∧ len0 ≤ cap0 ∧ cap0 ≤ maxLen ∧ z0.length = cap0 ∧ (∀ i, i < z0.length → w.cell? (x.add i) = some (.int .i32 (z0.getD i 0))) ∧ ∀ n ∈ z0, (Lit.int .i32 n).wf = true) (y0 : len0 * 4 ≤ 140737488351232) :
    Calls Try.prog 7 #[.slice a0 len0 cap0] w fun e w' => e = .returned (.bool true) ∧ Below w.heap.size w w' := by
  obtain ⟨l0, rfl, hr0, hm0, hw0, hc0⟩ := ReadsInt.ofRowC w0
  obtain ⟨k, h⟩ := P l0 hm0 y0 hw0
  refine (bodkinlaw02_WidthWithin.calls k _ _ l0 true w (Kd.C_of_reads (d := (0 : Int)) (h1 := fun _ => rfl) hr0) hc0 h).mono ?_
  rintro e w' ⟨rfl, hd⟩
  exact ⟨rfl, hd⟩

end Go.Proofs.Ytdcbgaikakhadaa.PWidthWithin
