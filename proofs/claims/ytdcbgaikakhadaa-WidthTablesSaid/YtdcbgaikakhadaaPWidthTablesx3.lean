-- Written by a program of this claim (the kit's print, with the contracts of some functions given by hand).
import Derived.Test.YtdcbgaikakhadaaPWidthTablesx0
import Derived.Test.YtdcbgaikakhadaaPWidthTablesx1
import Derived.Test.YtdcbgaikakhadaaPWidthTablesx2
namespace Go.Proofs.Ytdcbgaikakhadaa.PWidthTables
open Go.RowKit Go.Proofs.YtdcbgaikakhadaaW.PrintWords Go.Proofs.YtdcbgaikakhadaaW.PrintLast Go.Proofs.YtdcbgaikakhadaaW.PrintMore
attribute [local go_sem] max2_int min2_int max_two min_two max_three min_three max_four min_four   -- for this text's walks alone
set_option linter.unusedVariables false
set_option linter.unusedSimpArgs false

/-! ### bodkinlaw02_WidthTables: function 8 -/
mutual
def bodkinlaw02_WidthTables.l0 : Nat → Int → Option (Bool)
  | 0, _ => none
  | k + 1, x1 => if x1 ≤ 4 then ((width_Ranges.f k x1).bind fun t145 => (if (t145.length : Int) = 0 then (some false) else (bodkinlaw02_WidthTables.l1 k x1 t145 0))) else ((width_Ranges.f k 0).bind fun t139 => (if (t139.length : Int) = 0 then ((width_Ranges.f k 5).bind fun t142 => (some ((t142.length : Int) == 0))) else (some false)))
def bodkinlaw02_WidthTables.l1 : Nat → Int → List (S32) → Int → Option (Bool)
  | 0, _, _, _ => none
  | k + 1, x1, x2, x3 => if x3 < (x2.length : Int) then (if 0 ≤ x3 then (if ((rd_T32 x2 x3).f0) > ((rd_T32 x2 x3).f1) then (bodkinlaw02_WidthTables.j2 k x1 x2 x3 true) else (if x3 > 0 then (if 0 ≤ (wrap64 (x3 - 1)) then (if (wrap64 (x3 - 1)) < (x2.length : Int) then (bodkinlaw02_WidthTables.j2 k x1 x2 x3 (decide ((wrap32 (((rd_T32 x2 (wrap64 (x3 - 1))).f1) + 1)) ≥ ((rd_T32 x2 x3).f0)))) else (none)) else (none)) else (bodkinlaw02_WidthTables.j2 k x1 x2 x3 false))) else (none)) else (bodkinlaw02_WidthTables.l0 k (wrap64 (x1 + 1)))
def bodkinlaw02_WidthTables.j2 : Nat → Int → List (S32) → Int → Bool → Option (Bool)
  | 0, _, _, _, _ => none
  | k + 1, x1, x2, x3, x50 => if x50 = true then (some false) else (if 0 ≤ x3 then (if x3 < (x2.length : Int) then ((width_Class.f k ((rd_T32 x2 x3).f0)).bind fun t153 => (if t153 = x1 then ((width_Class.f k ((rd_T32 x2 x3).f1)).bind fun t155 => (if t155 = x1 then ((width_Class.f k (wrap32 (((rd_T32 x2 x3).f1) + 1))).bind fun t157 => (if t157 = x1 then (some false) else ((width_Class.f k (wrap32 (((rd_T32 x2 x3).f0) - 1))).bind fun t159 => (if t159 = x1 then (some false) else (bodkinlaw02_WidthTables.l1 k x1 x2 (wrap64 (x3 + 1))))))) else (some false))) else (some false))) else (none)) else (none))
end
def bodkinlaw02_WidthTables.f (k : Nat)  : Option (Bool) := (bodkinlaw02_awake.f k).bind fun t138 => (if t138 = true then (bodkinlaw02_WidthTables.l0 k 1) else (some false))
theorem bodkinlaw02_WidthTables.mono_l : ∀ k, (∀ y0, LeO (bodkinlaw02_WidthTables.l0 k y0) (bodkinlaw02_WidthTables.l0 (k + 1) y0)) ∧ (∀ y0 y1 y2, LeO (bodkinlaw02_WidthTables.l1 k y0 y1 y2) (bodkinlaw02_WidthTables.l1 (k + 1) y0 y1 y2)) ∧ (∀ y0 y1 y2 y3, LeO (bodkinlaw02_WidthTables.j2 k y0 y1 y2 y3) (bodkinlaw02_WidthTables.j2 (k + 1) y0 y1 y2 y3))
  | 0 => ⟨fun _ r h => by simp [bodkinlaw02_WidthTables.l0] at h, fun _ _ _ r h => by simp [bodkinlaw02_WidthTables.l1] at h, fun _ _ _ _ r h => by simp [bodkinlaw02_WidthTables.j2] at h⟩
  | k + 1 => by
    obtain ⟨ih0, ih1, ih2⟩ := bodkinlaw02_WidthTables.mono_l k
    refine ⟨?_, ?_, ?_⟩
    · intro y0
      unfold bodkinlaw02_WidthTables.l0
      repeat' first
      | (with_reducible exact ih0 _)
      | (with_reducible exact ih1 _ _ _)
      | (with_reducible exact ih2 _ _ _ _)
      | (with_reducible exact bodkinlaw02_awake.mono _)
      | (with_reducible exact width_Class.mono _ _)
      | (with_reducible exact width_Ranges.mono _ _)
      | (with_reducible exact LeO.refl _)
      | (with_reducible exact LeO.none _)
      | (with_reducible refine LeO.ite ?_ ?_)
      | (with_reducible refine LeO.bind ?_ (fun _ => ?_))
      | exact ih0 _
      | exact ih1 _ _ _
      | exact ih2 _ _ _ _
      | exact bodkinlaw02_awake.mono _
      | exact width_Class.mono _ _
      | exact width_Ranges.mono _ _
      | exact LeO.none _
      | refine LeO.ite ?_ ?_
      | refine LeO.bind ?_ (fun _ => ?_)
    · intro y0 y1 y2
      unfold bodkinlaw02_WidthTables.l1
      repeat' first
      | (with_reducible exact ih0 _)
      | (with_reducible exact ih1 _ _ _)
      | (with_reducible exact ih2 _ _ _ _)
      | (with_reducible exact bodkinlaw02_awake.mono _)
      | (with_reducible exact width_Class.mono _ _)
      | (with_reducible exact width_Ranges.mono _ _)
      | (with_reducible exact LeO.refl _)
      | (with_reducible exact LeO.none _)
      | (with_reducible refine LeO.ite ?_ ?_)
      | (with_reducible refine LeO.bind ?_ (fun _ => ?_))
      | exact ih0 _
      | exact ih1 _ _ _
      | exact ih2 _ _ _ _
      | exact bodkinlaw02_awake.mono _
      | exact width_Class.mono _ _
      | exact width_Ranges.mono _ _
      | exact LeO.none _
      | refine LeO.ite ?_ ?_
      | refine LeO.bind ?_ (fun _ => ?_)
    · intro y0 y1 y2 y3
      unfold bodkinlaw02_WidthTables.j2
      repeat' first
      | (with_reducible exact ih0 _)
      | (with_reducible exact ih1 _ _ _)
      | (with_reducible exact ih2 _ _ _ _)
      | (with_reducible exact bodkinlaw02_awake.mono _)
      | (with_reducible exact width_Class.mono _ _)
      | (with_reducible exact width_Ranges.mono _ _)
      | (with_reducible exact LeO.refl _)
      | (with_reducible exact LeO.none _)
      | (with_reducible refine LeO.ite ?_ ?_)
      | (with_reducible refine LeO.bind ?_ (fun _ => ?_))
      | exact ih0 _
      | exact ih1 _ _ _
      | exact ih2 _ _ _ _
      | exact bodkinlaw02_awake.mono _
      | exact width_Class.mono _ _
      | exact width_Ranges.mono _ _
      | exact LeO.none _
      | refine LeO.ite ?_ ?_
      | refine LeO.bind ?_ (fun _ => ?_)
theorem bodkinlaw02_WidthTables.mono : ∀ k, LeO (bodkinlaw02_WidthTables.f k ) (bodkinlaw02_WidthTables.f (k + 1) ) := by
  intro  k
  obtain ⟨ih0, ih1, ih2⟩ := bodkinlaw02_WidthTables.mono_l k
  unfold bodkinlaw02_WidthTables.f
  repeat' first
      | (with_reducible exact ih0 _)
      | (with_reducible exact ih1 _ _ _)
      | (with_reducible exact ih2 _ _ _ _)
      | (with_reducible exact bodkinlaw02_awake.mono _)
      | (with_reducible exact width_Class.mono _ _)
      | (with_reducible exact width_Ranges.mono _ _)
      | (with_reducible exact LeO.refl _)
      | (with_reducible exact LeO.none _)
      | (with_reducible refine LeO.ite ?_ ?_)
      | (with_reducible refine LeO.bind ?_ (fun _ => ?_))
      | exact ih0 _
      | exact ih1 _ _ _
      | exact ih2 _ _ _ _
      | exact bodkinlaw02_awake.mono _
      | exact width_Class.mono _ _
      | exact width_Ranges.mono _ _
      | exact LeO.none _
      | refine LeO.ite ?_ ?_
      | refine LeO.bind ?_ (fun _ => ?_)
set_option maxHeartbeats 8000000 in
set_option maxRecDepth 100000 in
theorem bodkinlaw02_WidthTables.calls (k : Nat)  (r : Bool) (w : World) (h : bodkinlaw02_WidthTables.f k  = some r) :
    Calls Try.prog 8 #[] w fun e w' => e = .returned (.bool r) ∧ Below w.heap.size w w' := by
  have HB := Aside0.mk (Below.refl w.heap.size w)
  have H : ((bodkinlaw02_awake.f k).bind fun t138 => (if t138 = true then (bodkinlaw02_WidthTables.l0 k 1) else (some false))) = some r := h
  clear h
  replace H := Option.bind_eq_some_iff.mp H
  obtain ⟨t138, A10, H⟩ := H
  replace H : (if t138 = true then (bodkinlaw02_WidthTables.l0 k 1) else (some false)) = some r := H
  have A1 := Aside0.mk A10
  clear A10
  by_cases c2 : t138 = true
  · subst c2
    have H1 : (bodkinlaw02_WidthTables.l0 k 1) = some r := by rw [if_pos rfl] at H; exact H
    clear H
    have H := H1
    clear H1
    have H' := Aside0.mk H
    clear H
    go_enter Try.func8, Try.ntmps8
    go_wp2_with (first | (go_at_call 9; (with_reducible refine (bodkinlaw02_awake.calls k  true _ A1.out).mono ?_); rintro e w3 ⟨rfl, hb⟩; have n0_ := Aside0.mk (below_step (by repeat (first | (with_reducible first | exact HB.out | apply below_alloc | apply pw_below_drewN | apply below_drew1) | exact HB.out)) hb); clear HB; have HB := n0_; clear n0_; (try clear hb); (try clear hb2); (try clear hk); (try clear hi)))
    repeat (go_quiet (first | (go_at_call 9; (with_reducible refine (bodkinlaw02_awake.calls k  true _ A1.out).mono ?_); rintro e w3 ⟨rfl, hb⟩; have n0_ := Aside0.mk (below_step (by repeat (first | (with_reducible first | exact HB.out | apply below_alloc | apply pw_below_drewN | apply below_drew1) | exact HB.out)) hb); clear HB; have HB := n0_; clear n0_; (try clear hb); (try clear hb2); (try clear hk); (try clear hi))); try go_wp2_with (first | (go_at_call 9; (with_reducible refine (bodkinlaw02_awake.calls k  true _ A1.out).mono ?_); rintro e w3 ⟨rfl, hb⟩; have n0_ := Aside0.mk (below_step (by repeat (first | (with_reducible first | exact HB.out | apply below_alloc | apply pw_below_drewN | apply below_drew1) | exact HB.out)) hb); clear HB; have HB := n0_; clear n0_; (try clear hb); (try clear hb2); (try clear hk); (try clear hi))))
    go_loopg [1] k (fun kq v1 w' => ∃ (x1_1 : Int), v1 = .int .i64 x1_1 ∧ Aside0 (bodkinlaw02_WidthTables.l0 kq x1_1 = some r) ∧ Aside0 (kq ≤ k) ∧ Aside0 (Below w.heap.size w w'))
    case atStart => exact ⟨(1), (by first | rfl | (simp; done) | (simp [*]; done)), H', ⟨Nat.le_refl _⟩, ⟨by repeat (first | (with_reducible first | exact HB.out | apply below_alloc | apply pw_below_drewN | apply below_drew1) | exact HB.out)⟩⟩
    case round =>
      clear H'
      try clear c2
      try clear p2
      obtain ⟨x1_1, rfl, HA, HK1, HB⟩ := hrel
      cases gk with
      | zero => exact absurd HA.out (by simp [bodkinlaw02_WidthTables.l0])
      | succ k1 =>
        have H := HA.out
        clear HA
        simp only [bodkinlaw02_WidthTables.l0] at H
        by_cases c4 : x1_1 ≤ 4
        · rw [if_pos c4] at H
          have c4b0 : decide (x1_1 ≤ 4) = true := decide_eq_true c4
          clear c4
          replace H := Option.bind_eq_some_iff.mp H
          obtain ⟨t145, A50, H⟩ := H
          replace H : (if (t145.length : Int) = 0 then (some false) else (bodkinlaw02_WidthTables.l1 k1 x1_1 t145 0)) = some r := H
          have A5 := Aside0.mk A50
          clear A50
          by_cases c6 : (t145.length : Int) = 0
          · rw [if_pos c6] at H
            have c6b0 : ((t145.length : Int) == 0) = true := beq_iff_eq.mpr c6
            have c6b1 : ((t145.length : Int) != 0) = false := bne_eq_false_iff_eq.mpr c6
            clear c6
            obtain rfl := Option.some.inj H
            go_wp2_with (first | (go_at_call 15; (with_reducible refine (width_Ranges.calls k1 x1_1 t145 _ A5.out).mono ?_); rintro e w7 ⟨v146, rfl, ho0, hb⟩; have n0_ := Aside0.mk (Kd.R_lower ho0 (below_size (by repeat (first | (with_reducible first | exact HB.out | apply below_alloc | apply pw_below_drewN | apply below_drew1) | exact HB.out)))); have n1_ := Aside0.mk (below_step (by repeat (first | (with_reducible first | exact HB.out | apply below_alloc | apply pw_below_drewN | apply below_drew1) | exact HB.out)) hb); clear HB; have HO147 := n0_; have HB := n1_; clear n0_ n1_; (try clear hb); (try clear hb2); (try clear hk); (try clear hi); (try clear ho0); obtain ⟨Ao8, co8, eo8⟩ := Kd.R_slice HO147.out; subst eo8))
            repeat (go_quiet (first | (go_at_call 15; (with_reducible refine (width_Ranges.calls k1 x1_1 t145 _ A5.out).mono ?_); rintro e w7 ⟨v146, rfl, ho0, hb⟩; have n0_ := Aside0.mk (Kd.R_lower ho0 (below_size (by repeat (first | (with_reducible first | exact HB.out | apply below_alloc | apply pw_below_drewN | apply below_drew1) | exact HB.out)))); have n1_ := Aside0.mk (below_step (by repeat (first | (with_reducible first | exact HB.out | apply below_alloc | apply pw_below_drewN | apply below_drew1) | exact HB.out)) hb); clear HB; have HO147 := n0_; have HB := n1_; clear n0_ n1_; (try clear hb); (try clear hb2); (try clear hk); (try clear hi); (try clear ho0); obtain ⟨Ao8, co8, eo8⟩ := Kd.R_slice HO147.out; subst eo8)); try go_wp2_with (first | (go_at_call 15; (with_reducible refine (width_Ranges.calls k1 x1_1 t145 _ A5.out).mono ?_); rintro e w7 ⟨v146, rfl, ho0, hb⟩; have n0_ := Aside0.mk (Kd.R_lower ho0 (below_size (by repeat (first | (with_reducible first | exact HB.out | apply below_alloc | apply pw_below_drewN | apply below_drew1) | exact HB.out)))); have n1_ := Aside0.mk (below_step (by repeat (first | (with_reducible first | exact HB.out | apply below_alloc | apply pw_below_drewN | apply below_drew1) | exact HB.out)) hb); clear HB; have HO147 := n0_; have HB := n1_; clear n0_ n1_; (try clear hb); (try clear hb2); (try clear hk); (try clear hi); (try clear ho0); obtain ⟨Ao8, co8, eo8⟩ := Kd.R_slice HO147.out; subst eo8)))
            go_ret
            exact ⟨by first | rfl | (simp [errW_none, errW_some] <;> rfl) | (simp [*, errW_none, errW_some] <;> rfl), by repeat (first | (with_reducible first | exact HB.out | apply below_alloc | apply pw_below_drewN | apply below_drew1) | exact HB.out)⟩
          · rw [if_neg c6] at H
            have c6b0 : ((t145.length : Int) == 0) = false := beq_eq_false_iff_ne.mpr c6
            have c6b1 : ((t145.length : Int) != 0) = true := bne_iff_ne.mpr c6
            have c6b2 : ¬ (t145 = []) := fun h_ => c6 (by rw [h_]; rfl)
            have H' := Aside0.mk H
            clear H
            go_wp2_with (first | (go_at_call 15; (with_reducible refine (width_Ranges.calls k1 x1_1 t145 _ A5.out).mono ?_); rintro e w9 ⟨v146, rfl, ho0, hb⟩; have n0_ := Aside0.mk (Kd.R_lower ho0 (below_size (by repeat (first | (with_reducible first | exact HB.out | apply below_alloc | apply pw_below_drewN | apply below_drew1) | exact HB.out)))); have n1_ := Aside0.mk (below_step (by repeat (first | (with_reducible first | exact HB.out | apply below_alloc | apply pw_below_drewN | apply below_drew1) | exact HB.out)) hb); clear HB; have HO147 := n0_; have HB := n1_; clear n0_ n1_; (try clear hb); (try clear hb2); (try clear hk); (try clear hi); (try clear ho0); obtain ⟨Ao10, co10, eo10⟩ := Kd.R_slice HO147.out; subst eo10))
            repeat (go_quiet (first | (go_at_call 15; (with_reducible refine (width_Ranges.calls k1 x1_1 t145 _ A5.out).mono ?_); rintro e w9 ⟨v146, rfl, ho0, hb⟩; have n0_ := Aside0.mk (Kd.R_lower ho0 (below_size (by repeat (first | (with_reducible first | exact HB.out | apply below_alloc | apply pw_below_drewN | apply below_drew1) | exact HB.out)))); have n1_ := Aside0.mk (below_step (by repeat (first | (with_reducible first | exact HB.out | apply below_alloc | apply pw_below_drewN | apply below_drew1) | exact HB.out)) hb); clear HB; have HO147 := n0_; have HB := n1_; clear n0_ n1_; (try clear hb); (try clear hb2); (try clear hk); (try clear hi); (try clear ho0); obtain ⟨Ao10, co10, eo10⟩ := Kd.R_slice HO147.out; subst eo10)); try go_wp2_with (first | (go_at_call 15; (with_reducible refine (width_Ranges.calls k1 x1_1 t145 _ A5.out).mono ?_); rintro e w9 ⟨v146, rfl, ho0, hb⟩; have n0_ := Aside0.mk (Kd.R_lower ho0 (below_size (by repeat (first | (with_reducible first | exact HB.out | apply below_alloc | apply pw_below_drewN | apply below_drew1) | exact HB.out)))); have n1_ := Aside0.mk (below_step (by repeat (first | (with_reducible first | exact HB.out | apply below_alloc | apply pw_below_drewN | apply below_drew1) | exact HB.out)) hb); clear HB; have HO147 := n0_; have HB := n1_; clear n0_ n1_; (try clear hb); (try clear hb2); (try clear hk); (try clear hi); (try clear ho0); obtain ⟨Ao10, co10, eo10⟩ := Kd.R_slice HO147.out; subst eo10)))
            go_loopg [3] k1 (fun kq v3 w' => ∃ (x3_2 : Int), v3 = .int .i64 x3_2 ∧ Aside0 (bodkinlaw02_WidthTables.l1 kq x1_1 t145 x3_2 = some r) ∧ Aside0 (kq ≤ k1) ∧ Aside0 (Kd.R k32 32 w' w.heap.size (fun _ => True) (.slice Ao10 t145.length co10) t145) ∧ Aside0 (Below w.heap.size w w'))
            case atStart => exact ⟨(0), (by first | rfl | (simp; done) | (simp [*]; done)), H', ⟨Nat.le_refl _⟩, ⟨by (with_reducible repeat (first | apply Kd.R_alloc | apply Kd.R_drewN | apply Kd.R_drew)); exact HO147.out⟩, ⟨by repeat (first | (with_reducible first | exact HB.out | apply below_alloc | apply pw_below_drewN | apply below_drew1) | exact HB.out)⟩⟩
            case round =>
              clear H'
              try clear c2
              try clear p2
              try clear c4
              try clear c4b0
              try clear c6
              try clear c6b0
              try clear c6b1
              try clear c6b2
              try clear c8
              try clear p2
              obtain ⟨x3_2, rfl, HA, HK2, HO_2, HB⟩ := hrel
              cases gk with
              | zero => exact absurd HA.out (by simp [bodkinlaw02_WidthTables.l1])
              | succ k2 =>
                have H := HA.out
                clear HA
                simp only [bodkinlaw02_WidthTables.l1] at H
                by_cases c11 : x3_2 < (t145.length : Int)
                · rw [if_pos c11] at H
                  have c11b0 : decide (x3_2 < (t145.length : Int)) = true := decide_eq_true c11
                  clear c11
                  have HC12 := Aside0.mk H
                  clear H
                  go_upto_region 12 with (fail)
                  repeat (go_quiet (fail); go_upto_region 12 with (fail))
                  go_cut [50] (fun v50 wc => ∃ (kq : Nat) (x50_11 : Bool), v50 = .bool x50_11 ∧ Aside0 (bodkinlaw02_WidthTables.j2 kq x1_1 t145 x3_2 x50_11 = some r) ∧ Aside0 (kq ≤ k2) ∧ Aside0 (Kd.R k32 32 wc w.heap.size (fun _ => True) (.slice Ao10 t145.length co10) t145) ∧ Aside0 (Below w.heap.size w wc))
                  case first =>
                    have H := HC12.out
                    clear HC12
                    by_cases c13 : 0 ≤ x3_2
                    · rw [if_pos c13] at H
                      have c13b0 : decide (0 ≤ x3_2) = true := decide_eq_true c13
                      clear c13
                      (first | rw [c13b0] | (simp only [i64_w, i32_w]; rw [c13b0]) | skip)
                      by_cases c14 : ((rd_T32 t145 x3_2).f0) > ((rd_T32 t145 x3_2).f1)
                      · rw [if_pos c14] at H
                        have c14b0 : decide (((rd_T32 t145 x3_2).f1) < ((rd_T32 t145 x3_2).f0)) = true := decide_eq_true c14
                        clear c14
                        have H' := Aside0.mk H
                        clear H
                        have p148 : 0 ≤ (x3_2 : Int) := of_decide_eq_true (by first | (with_reducible assumption) | assumption)
                        have q148 : x3_2 < (t145.length : Int) := of_decide_eq_true (by first | (with_reducible assumption) | assumption)
                        obtain ⟨ad148, e148, hx148_0, hx148_1⟩ := at_T32 (Kd.R_reads' HO_2.out).2.2 x3_2 p148 q148
                        cases e148
                        replace p148 := eq_true p148
                        replace q148 := eq_true q148
                        have p149 : 0 ≤ (x3_2 : Int) := of_decide_eq_true (by first | (with_reducible assumption) | assumption)
                        have q149 : x3_2 < (t145.length : Int) := of_decide_eq_true (by first | (with_reducible assumption) | assumption)
                        obtain ⟨ad149, e149, hx149_0, hx149_1⟩ := at_T32 (Kd.R_reads' HO_2.out).2.2 x3_2 p149 q149
                        obtain rfl : ad148 = ad149 := (by injection e149)
                        replace p149 := eq_true p149
                        replace q149 := eq_true q149
                        go_wp2
                        repeat (go_quiet (fail); try go_wp2)
                        go_meet
                        case rel => exact ⟨_, (true), (by first | rfl | (simp; done) | (simp [*]; done)), H', ⟨by have := HK1.out; have := HK2.out; first | omega | exact Nat.le_refl _⟩, ⟨by (with_reducible repeat (first | apply Kd.R_alloc | apply Kd.R_drewN | apply Kd.R_drew)); exact HO_2.out⟩, ⟨by repeat (first | (with_reducible first | exact HB.out | apply below_alloc | apply pw_below_drewN | apply below_drew1) | exact HB.out)⟩⟩
                      · rw [if_neg c14] at H
                        have c14b0 : decide (((rd_T32 t145 x3_2).f1) < ((rd_T32 t145 x3_2).f0)) = false := decide_eq_false c14
                        clear c14
                        by_cases c15 : x3_2 > 0
                        · rw [if_pos c15] at H
                          have c15b0 : decide (0 < x3_2) = true := decide_eq_true c15
                          clear c15
                          obtain ⟨ji16, hji16⟩ : ∃ j_ : Int, (wrap64 (x3_2 - 1)) = j_ := ⟨_, rfl⟩
                          replace H : (if 0 ≤ (ji16) then (if (ji16) < (t145.length : Int) then (bodkinlaw02_WidthTables.j2 k2 x1_1 t145 x3_2 (decide ((wrap32 (((rd_T32 t145 (ji16)).f1) + 1)) ≥ ((rd_T32 t145 x3_2).f0)))) else (none)) else (none)) = some r := by first | (rw [hji16] at H; exact H) | (simp only [hji16] at H ⊢; exact H)
                          have hji16w : (IntKind.i64.wrap (x3_2 - 1)) = ji16 := (i64_w _).trans hji16
                          by_cases c17 : 0 ≤ (ji16)
                          · rw [if_pos c17] at H
                            have c17b0 : decide (0 ≤ (ji16)) = true := decide_eq_true c17
                            clear c17
                            by_cases c18 : (ji16) < (t145.length : Int)
                            · rw [if_pos c18] at H
                              have c18b0 : decide ((ji16) < (t145.length : Int)) = true := decide_eq_true c18
                              clear c18
                              have H' := Aside0.mk H
                              clear H
                              have p148 : 0 ≤ (x3_2 : Int) := of_decide_eq_true (by first | (with_reducible assumption) | assumption)
                              have q148 : x3_2 < (t145.length : Int) := of_decide_eq_true (by first | (with_reducible assumption) | assumption)
                              obtain ⟨ad148, e148, hx148_0, hx148_1⟩ := at_T32 (Kd.R_reads' HO_2.out).2.2 x3_2 p148 q148
                              cases e148
                              replace p148 := eq_true p148
                              replace q148 := eq_true q148
                              have p149 : 0 ≤ (x3_2 : Int) := of_decide_eq_true (by first | (with_reducible assumption) | assumption)
                              have q149 : x3_2 < (t145.length : Int) := of_decide_eq_true (by first | (with_reducible assumption) | assumption)
                              obtain ⟨ad149, e149, hx149_0, hx149_1⟩ := at_T32 (Kd.R_reads' HO_2.out).2.2 x3_2 p149 q149
                              obtain rfl : ad148 = ad149 := (by injection e149)
                              replace p149 := eq_true p149
                              replace q149 := eq_true q149
                              have p150 : 0 ≤ ((ji16) : Int) := of_decide_eq_true (by first | (with_reducible assumption) | assumption)
                              have q150 : (ji16) < (t145.length : Int) := of_decide_eq_true (by first | (with_reducible assumption) | assumption)
                              obtain ⟨ad150, e150, hx150_0, hx150_1⟩ := at_T32 (Kd.R_reads' HO_2.out).2.2 (ji16) p150 q150
                              obtain rfl : ad148 = ad150 := (by injection e150)
                              replace p150 := eq_true p150
                              replace q150 := eq_true q150
                              have p151 : 0 ≤ (x3_2 : Int) := of_decide_eq_true (by first | (with_reducible assumption) | assumption)
                              have q151 : x3_2 < (t145.length : Int) := of_decide_eq_true (by first | (with_reducible assumption) | assumption)
                              obtain ⟨ad151, e151, hx151_0, hx151_1⟩ := at_T32 (Kd.R_reads' HO_2.out).2.2 x3_2 p151 q151
                              obtain rfl : ad148 = ad151 := (by injection e151)
                              replace p151 := eq_true p151
                              replace q151 := eq_true q151
                              go_wp2
                              repeat (go_quiet (fail); try go_wp2)
                              go_meet
                              case rel => exact ⟨_, (decide ((wrap32 (((rd_T32 t145 (ji16)).f1) + 1)) ≥ ((rd_T32 t145 x3_2).f0))), (by first | rfl | (simp; done) | (simp only [← hji16] <;> (first | rfl | simp)) | (simp [*]; done)), H', ⟨by have := HK1.out; have := HK2.out; first | omega | exact Nat.le_refl _⟩, ⟨by (with_reducible repeat (first | apply Kd.R_alloc | apply Kd.R_drewN | apply Kd.R_drew)); exact HO_2.out⟩, ⟨by repeat (first | (with_reducible first | exact HB.out | apply below_alloc | apply pw_below_drewN | apply below_drew1) | exact HB.out)⟩⟩
                            · rw [if_neg c18] at H
                              exact absurd H (by simp)
                          · rw [if_neg c17] at H
                            exact absurd H (by simp)
                        · rw [if_neg c15] at H
                          have c15b0 : decide (0 < x3_2) = false := decide_eq_false c15
                          clear c15
                          have H' := Aside0.mk H
                          clear H
                          have p148 : 0 ≤ (x3_2 : Int) := of_decide_eq_true (by first | (with_reducible assumption) | assumption)
                          have q148 : x3_2 < (t145.length : Int) := of_decide_eq_true (by first | (with_reducible assumption) | assumption)
                          obtain ⟨ad148, e148, hx148_0, hx148_1⟩ := at_T32 (Kd.R_reads' HO_2.out).2.2 x3_2 p148 q148
                          cases e148
                          replace p148 := eq_true p148
                          replace q148 := eq_true q148
                          have p149 : 0 ≤ (x3_2 : Int) := of_decide_eq_true (by first | (with_reducible assumption) | assumption)
                          have q149 : x3_2 < (t145.length : Int) := of_decide_eq_true (by first | (with_reducible assumption) | assumption)
                          obtain ⟨ad149, e149, hx149_0, hx149_1⟩ := at_T32 (Kd.R_reads' HO_2.out).2.2 x3_2 p149 q149
                          obtain rfl : ad148 = ad149 := (by injection e149)
                          replace p149 := eq_true p149
                          replace q149 := eq_true q149
                          go_wp2
                          repeat (go_quiet (fail); try go_wp2)
                          go_meet
                          case rel => exact ⟨_, (false), (by first | rfl | (simp; done) | (simp [*]; done)), H', ⟨by have := HK1.out; have := HK2.out; first | omega | exact Nat.le_refl _⟩, ⟨by (with_reducible repeat (first | apply Kd.R_alloc | apply Kd.R_drewN | apply Kd.R_drew)); exact HO_2.out⟩, ⟨by repeat (first | (with_reducible first | exact HB.out | apply below_alloc | apply pw_below_drewN | apply below_drew1) | exact HB.out)⟩⟩
                    · rw [if_neg c13] at H
                      exact absurd H (by simp)
                  case rest =>
                    clear HC12
                    try clear c1
                    try clear p1
                    try clear q1
                    try clear hx1
                    try clear c2
                    try clear p2
                    try clear p3
                    try clear c4
                    try clear c4b0
                    try clear c6
                    try clear c6b0
                    try clear c6b1
                    try clear c6b2
                    try clear p6
                    try clear c8
                    try clear c11
                    try clear c11b0
                    try clear c13
                    try clear c13b0
                    try clear c14
                    try clear c14b0
                    try clear p14
                    try clear q14
                    try clear hx14
                    try clear c15
                    try clear c15b0
                    try clear p15
                    try clear q15
                    try clear hx15
                    try clear c17
                    try clear c17b0
                    try clear c18
                    try clear c18b0
                    try clear hx148_0
                    try clear hx148_1
                    try clear hx149_0
                    try clear hx149_1
                    try clear hx150_0
                    try clear hx150_1
                    try clear hx151_0
                    try clear hx151_1
                    try clear p148
                    try clear p149
                    try clear p150
                    try clear p151
                    try clear p2
                    try clear q148
                    try clear q149
                    try clear q150
                    try clear q151
                    obtain ⟨kq, x50_11, rfl, HA, HJ11, HO_2, HB⟩ := hcut
                    cases kq with
                    | zero => exact absurd HA.out (by simp [bodkinlaw02_WidthTables.j2])
                    | succ kj11 =>
                      have H := HA.out
                      clear HA
                      simp only [bodkinlaw02_WidthTables.j2] at H
                      by_cases c19 : x50_11 = true
                      · subst c19
                        have H1 : (some false) = some r := by rw [if_pos rfl] at H; exact H
                        clear H
                        have H := H1
                        clear H1
                        obtain rfl := Option.some.inj H
                        go_wp2
                        repeat (go_quiet (fail); try go_wp2)
                        go_ret
                        exact ⟨by first | rfl | (simp [errW_none, errW_some] <;> rfl) | (simp [*, errW_none, errW_some] <;> rfl), by repeat (first | (with_reducible first | exact HB.out | apply below_alloc | apply pw_below_drewN | apply below_drew1) | exact HB.out)⟩
                      · replace c19 := Bool.eq_false_iff.mpr c19
                        subst c19
                        have H1 : (if 0 ≤ x3_2 then (if x3_2 < (t145.length : Int) then ((width_Class.f kj11 ((rd_T32 t145 x3_2).f0)).bind fun t153 => (if t153 = x1_1 then ((width_Class.f kj11 ((rd_T32 t145 x3_2).f1)).bind fun t155 => (if t155 = x1_1 then ((width_Class.f kj11 (wrap32 (((rd_T32 t145 x3_2).f1) + 1))).bind fun t157 => (if t157 = x1_1 then (some false) else ((width_Class.f kj11 (wrap32 (((rd_T32 t145 x3_2).f0) - 1))).bind fun t159 => (if t159 = x1_1 then (some false) else (bodkinlaw02_WidthTables.l1 kj11 x1_1 t145 (wrap64 (x3_2 + 1))))))) else (some false))) else (some false))) else (none)) else (none)) = some r := by rw [if_neg (show ¬ (false = true) by decide)] at H; exact H
                        clear H
                        have H := H1
                        clear H1
                        by_cases c20 : 0 ≤ x3_2
                        · rw [if_pos c20] at H
                          have c20b0 : decide (0 ≤ x3_2) = true := decide_eq_true c20
                          clear c20
                          by_cases c21 : x3_2 < (t145.length : Int)
                          · rw [if_pos c21] at H
                            have c21b0 : decide (x3_2 < (t145.length : Int)) = true := decide_eq_true c21
                            clear c21
                            replace H := Option.bind_eq_some_iff.mp H
                            obtain ⟨t153, A220, H⟩ := H
                            replace H : (if t153 = x1_1 then ((width_Class.f kj11 ((rd_T32 t145 x3_2).f1)).bind fun t155 => (if t155 = x1_1 then ((width_Class.f kj11 (wrap32 (((rd_T32 t145 x3_2).f1) + 1))).bind fun t157 => (if t157 = x1_1 then (some false) else ((width_Class.f kj11 (wrap32 (((rd_T32 t145 x3_2).f0) - 1))).bind fun t159 => (if t159 = x1_1 then (some false) else (bodkinlaw02_WidthTables.l1 kj11 x1_1 t145 (wrap64 (x3_2 + 1))))))) else (some false))) else (some false)) = some r := H
                            have A22 := Aside0.mk A220
                            clear A220
                            by_cases c23 : t153 = x1_1
                            · rw [if_pos c23] at H
                              have c23b0 : (t153 == x1_1) = true := beq_iff_eq.mpr c23
                              have c23b1 : (t153 != x1_1) = false := bne_eq_false_iff_eq.mpr c23
                              clear c23
                              replace H := Option.bind_eq_some_iff.mp H
                              obtain ⟨t155, A240, H⟩ := H
                              replace H : (if t155 = x1_1 then ((width_Class.f kj11 (wrap32 (((rd_T32 t145 x3_2).f1) + 1))).bind fun t157 => (if t157 = x1_1 then (some false) else ((width_Class.f kj11 (wrap32 (((rd_T32 t145 x3_2).f0) - 1))).bind fun t159 => (if t159 = x1_1 then (some false) else (bodkinlaw02_WidthTables.l1 kj11 x1_1 t145 (wrap64 (x3_2 + 1))))))) else (some false)) = some r := H
                              have A24 := Aside0.mk A240
                              clear A240
                              by_cases c25 : t155 = x1_1
                              · rw [if_pos c25] at H
                                have c25b0 : (t155 == x1_1) = true := beq_iff_eq.mpr c25
                                have c25b1 : (t155 != x1_1) = false := bne_eq_false_iff_eq.mpr c25
                                clear c25
                                replace H := Option.bind_eq_some_iff.mp H
                                obtain ⟨t157, A260, H⟩ := H
                                replace H : (if t157 = x1_1 then (some false) else ((width_Class.f kj11 (wrap32 (((rd_T32 t145 x3_2).f0) - 1))).bind fun t159 => (if t159 = x1_1 then (some false) else (bodkinlaw02_WidthTables.l1 kj11 x1_1 t145 (wrap64 (x3_2 + 1)))))) = some r := H
                                have A26 := Aside0.mk A260
                                clear A260
                                by_cases c27 : t157 = x1_1
                                · rw [if_pos c27] at H
                                  have c27b0 : (t157 == x1_1) = true := beq_iff_eq.mpr c27
                                  have c27b1 : (t157 != x1_1) = false := bne_eq_false_iff_eq.mpr c27
                                  clear c27
                                  obtain rfl := Option.some.inj H
                                  have p152 : 0 ≤ (x3_2 : Int) := of_decide_eq_true (by first | (with_reducible assumption) | assumption)
                                  have q152 : x3_2 < (t145.length : Int) := of_decide_eq_true (by first | (with_reducible assumption) | assumption)
                                  obtain ⟨ad152, e152, hx152_0, hx152_1⟩ := at_T32 (Kd.R_reads' HO_2.out).2.2 x3_2 p152 q152
                                  cases e152
                                  replace p152 := eq_true p152
                                  replace q152 := eq_true q152
                                  go_wp2_with (first | (go_at_call 10; (with_reducible refine (width_Class.calls kj11 ((rd_T32 t145 x3_2).f0) t153 _ A22.out).mono ?_); rintro e w28 ⟨rfl, hb⟩; have n0_ := Aside0.mk (Kd.R_below (by (with_reducible repeat (first | apply Kd.R_alloc | apply Kd.R_drewN | apply Kd.R_drew)); exact HO_2.out) hb); have n1_ := Aside0.mk (below_step (by repeat (first | (with_reducible first | exact HB.out | apply below_alloc | apply pw_below_drewN | apply below_drew1) | exact HB.out)) hb); clear HO_2; clear HB; have HO_2 := n0_; have HB := n1_; clear n0_ n1_; (try clear hb); (try clear hb2); (try clear hk); (try clear hi); have p154 : 0 ≤ (x3_2 : Int) := of_decide_eq_true (by first | (with_reducible assumption) | assumption); have q154 : x3_2 < (t145.length : Int) := of_decide_eq_true (by first | (with_reducible assumption) | assumption); obtain ⟨ad154, e154, hx154_0, hx154_1⟩ := at_T32 (Kd.R_reads' HO_2.out).2.2 x3_2 p154 q154; obtain rfl : ad152 = ad154 := (by injection e154); replace p154 := eq_true p154; replace q154 := eq_true q154) | (go_at_call 10; (with_reducible refine (width_Class.calls kj11 ((rd_T32 t145 x3_2).f1) t155 _ A24.out).mono ?_); rintro e w29 ⟨rfl, hb⟩; have n0_ := Aside0.mk (Kd.R_below (by (with_reducible repeat (first | apply Kd.R_alloc | apply Kd.R_drewN | apply Kd.R_drew)); exact HO_2.out) hb); have n1_ := Aside0.mk (below_step (by repeat (first | (with_reducible first | exact HB.out | apply below_alloc | apply pw_below_drewN | apply below_drew1) | exact HB.out)) hb); clear HO_2; clear HB; have HO_2 := n0_; have HB := n1_; clear n0_ n1_; (try clear hb); (try clear hb2); (try clear hk); (try clear hi); have p156 : 0 ≤ (x3_2 : Int) := of_decide_eq_true (by first | (with_reducible assumption) | assumption); have q156 : x3_2 < (t145.length : Int) := of_decide_eq_true (by first | (with_reducible assumption) | assumption); obtain ⟨ad156, e156, hx156_0, hx156_1⟩ := at_T32 (Kd.R_reads' HO_2.out).2.2 x3_2 p156 q156; obtain rfl : ad152 = ad156 := (by injection e156); replace p156 := eq_true p156; replace q156 := eq_true q156) | (go_at_call 10; (with_reducible refine (width_Class.calls kj11 (wrap32 (((rd_T32 t145 x3_2).f1) + 1)) t157 _ A26.out).mono ?_); rintro e w30 ⟨rfl, hb⟩; have n0_ := Aside0.mk (Kd.R_below (by (with_reducible repeat (first | apply Kd.R_alloc | apply Kd.R_drewN | apply Kd.R_drew)); exact HO_2.out) hb); have n1_ := Aside0.mk (below_step (by repeat (first | (with_reducible first | exact HB.out | apply below_alloc | apply pw_below_drewN | apply below_drew1) | exact HB.out)) hb); clear HO_2; clear HB; have HO_2 := n0_; have HB := n1_; clear n0_ n1_; (try clear hb); (try clear hb2); (try clear hk); (try clear hi)))
                                  repeat (go_quiet (first | (go_at_call 10; (with_reducible refine (width_Class.calls kj11 ((rd_T32 t145 x3_2).f0) t153 _ A22.out).mono ?_); rintro e w28 ⟨rfl, hb⟩; have n0_ := Aside0.mk (Kd.R_below (by (with_reducible repeat (first | apply Kd.R_alloc | apply Kd.R_drewN | apply Kd.R_drew)); exact HO_2.out) hb); have n1_ := Aside0.mk (below_step (by repeat (first | (with_reducible first | exact HB.out | apply below_alloc | apply pw_below_drewN | apply below_drew1) | exact HB.out)) hb); clear HO_2; clear HB; have HO_2 := n0_; have HB := n1_; clear n0_ n1_; (try clear hb); (try clear hb2); (try clear hk); (try clear hi); have p154 : 0 ≤ (x3_2 : Int) := of_decide_eq_true (by first | (with_reducible assumption) | assumption); have q154 : x3_2 < (t145.length : Int) := of_decide_eq_true (by first | (with_reducible assumption) | assumption); obtain ⟨ad154, e154, hx154_0, hx154_1⟩ := at_T32 (Kd.R_reads' HO_2.out).2.2 x3_2 p154 q154; obtain rfl : ad152 = ad154 := (by injection e154); replace p154 := eq_true p154; replace q154 := eq_true q154) | (go_at_call 10; (with_reducible refine (width_Class.calls kj11 ((rd_T32 t145 x3_2).f1) t155 _ A24.out).mono ?_); rintro e w29 ⟨rfl, hb⟩; have n0_ := Aside0.mk (Kd.R_below (by (with_reducible repeat (first | apply Kd.R_alloc | apply Kd.R_drewN | apply Kd.R_drew)); exact HO_2.out) hb); have n1_ := Aside0.mk (below_step (by repeat (first | (with_reducible first | exact HB.out | apply below_alloc | apply pw_below_drewN | apply below_drew1) | exact HB.out)) hb); clear HO_2; clear HB; have HO_2 := n0_; have HB := n1_; clear n0_ n1_; (try clear hb); (try clear hb2); (try clear hk); (try clear hi); have p156 : 0 ≤ (x3_2 : Int) := of_decide_eq_true (by first | (with_reducible assumption) | assumption); have q156 : x3_2 < (t145.length : Int) := of_decide_eq_true (by first | (with_reducible assumption) | assumption); obtain ⟨ad156, e156, hx156_0, hx156_1⟩ := at_T32 (Kd.R_reads' HO_2.out).2.2 x3_2 p156 q156; obtain rfl : ad152 = ad156 := (by injection e156); replace p156 := eq_true p156; replace q156 := eq_true q156) | (go_at_call 10; (with_reducible refine (width_Class.calls kj11 (wrap32 (((rd_T32 t145 x3_2).f1) + 1)) t157 _ A26.out).mono ?_); rintro e w30 ⟨rfl, hb⟩; have n0_ := Aside0.mk (Kd.R_below (by (with_reducible repeat (first | apply Kd.R_alloc | apply Kd.R_drewN | apply Kd.R_drew)); exact HO_2.out) hb); have n1_ := Aside0.mk (below_step (by repeat (first | (with_reducible first | exact HB.out | apply below_alloc | apply pw_below_drewN | apply below_drew1) | exact HB.out)) hb); clear HO_2; clear HB; have HO_2 := n0_; have HB := n1_; clear n0_ n1_; (try clear hb); (try clear hb2); (try clear hk); (try clear hi))); try go_wp2_with (first | (go_at_call 10; (with_reducible refine (width_Class.calls kj11 ((rd_T32 t145 x3_2).f0) t153 _ A22.out).mono ?_); rintro e w28 ⟨rfl, hb⟩; have n0_ := Aside0.mk (Kd.R_below (by (with_reducible repeat (first | apply Kd.R_alloc | apply Kd.R_drewN | apply Kd.R_drew)); exact HO_2.out) hb); have n1_ := Aside0.mk (below_step (by repeat (first | (with_reducible first | exact HB.out | apply below_alloc | apply pw_below_drewN | apply below_drew1) | exact HB.out)) hb); clear HO_2; clear HB; have HO_2 := n0_; have HB := n1_; clear n0_ n1_; (try clear hb); (try clear hb2); (try clear hk); (try clear hi); have p154 : 0 ≤ (x3_2 : Int) := of_decide_eq_true (by first | (with_reducible assumption) | assumption); have q154 : x3_2 < (t145.length : Int) := of_decide_eq_true (by first | (with_reducible assumption) | assumption); obtain ⟨ad154, e154, hx154_0, hx154_1⟩ := at_T32 (Kd.R_reads' HO_2.out).2.2 x3_2 p154 q154; obtain rfl : ad152 = ad154 := (by injection e154); replace p154 := eq_true p154; replace q154 := eq_true q154) | (go_at_call 10; (with_reducible refine (width_Class.calls kj11 ((rd_T32 t145 x3_2).f1) t155 _ A24.out).mono ?_); rintro e w29 ⟨rfl, hb⟩; have n0_ := Aside0.mk (Kd.R_below (by (with_reducible repeat (first | apply Kd.R_alloc | apply Kd.R_drewN | apply Kd.R_drew)); exact HO_2.out) hb); have n1_ := Aside0.mk (below_step (by repeat (first | (with_reducible first | exact HB.out | apply below_alloc | apply pw_below_drewN | apply below_drew1) | exact HB.out)) hb); clear HO_2; clear HB; have HO_2 := n0_; have HB := n1_; clear n0_ n1_; (try clear hb); (try clear hb2); (try clear hk); (try clear hi); have p156 : 0 ≤ (x3_2 : Int) := of_decide_eq_true (by first | (with_reducible assumption) | assumption); have q156 : x3_2 < (t145.length : Int) := of_decide_eq_true (by first | (with_reducible assumption) | assumption); obtain ⟨ad156, e156, hx156_0, hx156_1⟩ := at_T32 (Kd.R_reads' HO_2.out).2.2 x3_2 p156 q156; obtain rfl : ad152 = ad156 := (by injection e156); replace p156 := eq_true p156; replace q156 := eq_true q156) | (go_at_call 10; (with_reducible refine (width_Class.calls kj11 (wrap32 (((rd_T32 t145 x3_2).f1) + 1)) t157 _ A26.out).mono ?_); rintro e w30 ⟨rfl, hb⟩; have n0_ := Aside0.mk (Kd.R_below (by (with_reducible repeat (first | apply Kd.R_alloc | apply Kd.R_drewN | apply Kd.R_drew)); exact HO_2.out) hb); have n1_ := Aside0.mk (below_step (by repeat (first | (with_reducible first | exact HB.out | apply below_alloc | apply pw_below_drewN | apply below_drew1) | exact HB.out)) hb); clear HO_2; clear HB; have HO_2 := n0_; have HB := n1_; clear n0_ n1_; (try clear hb); (try clear hb2); (try clear hk); (try clear hi))))
                                  go_ret
                                  exact ⟨by first | rfl | (simp [errW_none, errW_some] <;> rfl) | (simp [*, errW_none, errW_some] <;> rfl), by repeat (first | (with_reducible first | exact HB.out | apply below_alloc | apply pw_below_drewN | apply below_drew1) | exact HB.out)⟩
                                · rw [if_neg c27] at H
                                  have c27b0 : (t157 == x1_1) = false := beq_eq_false_iff_ne.mpr c27
                                  have c27b1 : (t157 != x1_1) = true := bne_iff_ne.mpr c27
                                  replace H := Option.bind_eq_some_iff.mp H
                                  obtain ⟨t159, A310, H⟩ := H
                                  replace H : (if t159 = x1_1 then (some false) else (bodkinlaw02_WidthTables.l1 kj11 x1_1 t145 (wrap64 (x3_2 + 1)))) = some r := H
                                  have A31 := Aside0.mk A310
                                  clear A310
                                  by_cases c32 : t159 = x1_1
                                  · rw [if_pos c32] at H
                                    have c32b0 : (t159 == x1_1) = true := beq_iff_eq.mpr c32
                                    have c32b1 : (t159 != x1_1) = false := bne_eq_false_iff_eq.mpr c32
                                    clear c32
                                    obtain rfl := Option.some.inj H
                                    have p152 : 0 ≤ (x3_2 : Int) := of_decide_eq_true (by first | (with_reducible assumption) | assumption)
                                    have q152 : x3_2 < (t145.length : Int) := of_decide_eq_true (by first | (with_reducible assumption) | assumption)
                                    obtain ⟨ad152, e152, hx152_0, hx152_1⟩ := at_T32 (Kd.R_reads' HO_2.out).2.2 x3_2 p152 q152
                                    cases e152
                                    replace p152 := eq_true p152
                                    replace q152 := eq_true q152
                                    go_wp2_with (first | (go_at_call 10; (with_reducible refine (width_Class.calls kj11 ((rd_T32 t145 x3_2).f0) t153 _ A22.out).mono ?_); rintro e w33 ⟨rfl, hb⟩; have n0_ := Aside0.mk (Kd.R_below (by (with_reducible repeat (first | apply Kd.R_alloc | apply Kd.R_drewN | apply Kd.R_drew)); exact HO_2.out) hb); have n1_ := Aside0.mk (below_step (by repeat (first | (with_reducible first | exact HB.out | apply below_alloc | apply pw_below_drewN | apply below_drew1) | exact HB.out)) hb); clear HO_2; clear HB; have HO_2 := n0_; have HB := n1_; clear n0_ n1_; (try clear hb); (try clear hb2); (try clear hk); (try clear hi); have p154 : 0 ≤ (x3_2 : Int) := of_decide_eq_true (by first | (with_reducible assumption) | assumption); have q154 : x3_2 < (t145.length : Int) := of_decide_eq_true (by first | (with_reducible assumption) | assumption); obtain ⟨ad154, e154, hx154_0, hx154_1⟩ := at_T32 (Kd.R_reads' HO_2.out).2.2 x3_2 p154 q154; obtain rfl : ad152 = ad154 := (by injection e154); replace p154 := eq_true p154; replace q154 := eq_true q154) | (go_at_call 10; (with_reducible refine (width_Class.calls kj11 ((rd_T32 t145 x3_2).f1) t155 _ A24.out).mono ?_); rintro e w34 ⟨rfl, hb⟩; have n0_ := Aside0.mk (Kd.R_below (by (with_reducible repeat (first | apply Kd.R_alloc | apply Kd.R_drewN | apply Kd.R_drew)); exact HO_2.out) hb); have n1_ := Aside0.mk (below_step (by repeat (first | (with_reducible first | exact HB.out | apply below_alloc | apply pw_below_drewN | apply below_drew1) | exact HB.out)) hb); clear HO_2; clear HB; have HO_2 := n0_; have HB := n1_; clear n0_ n1_; (try clear hb); (try clear hb2); (try clear hk); (try clear hi); have p156 : 0 ≤ (x3_2 : Int) := of_decide_eq_true (by first | (with_reducible assumption) | assumption); have q156 : x3_2 < (t145.length : Int) := of_decide_eq_true (by first | (with_reducible assumption) | assumption); obtain ⟨ad156, e156, hx156_0, hx156_1⟩ := at_T32 (Kd.R_reads' HO_2.out).2.2 x3_2 p156 q156; obtain rfl : ad152 = ad156 := (by injection e156); replace p156 := eq_true p156; replace q156 := eq_true q156) | (go_at_call 10; (with_reducible refine (width_Class.calls kj11 (wrap32 (((rd_T32 t145 x3_2).f1) + 1)) t157 _ A26.out).mono ?_); rintro e w35 ⟨rfl, hb⟩; have n0_ := Aside0.mk (Kd.R_below (by (with_reducible repeat (first | apply Kd.R_alloc | apply Kd.R_drewN | apply Kd.R_drew)); exact HO_2.out) hb); have n1_ := Aside0.mk (below_step (by repeat (first | (with_reducible first | exact HB.out | apply below_alloc | apply pw_below_drewN | apply below_drew1) | exact HB.out)) hb); clear HO_2; clear HB; have HO_2 := n0_; have HB := n1_; clear n0_ n1_; (try clear hb); (try clear hb2); (try clear hk); (try clear hi); have p158 : 0 ≤ (x3_2 : Int) := of_decide_eq_true (by first | (with_reducible assumption) | assumption); have q158 : x3_2 < (t145.length : Int) := of_decide_eq_true (by first | (with_reducible assumption) | assumption); obtain ⟨ad158, e158, hx158_0, hx158_1⟩ := at_T32 (Kd.R_reads' HO_2.out).2.2 x3_2 p158 q158; obtain rfl : ad152 = ad158 := (by injection e158); replace p158 := eq_true p158; replace q158 := eq_true q158) | (go_at_call 10; (with_reducible refine (width_Class.calls kj11 (wrap32 (((rd_T32 t145 x3_2).f0) - 1)) t159 _ A31.out).mono ?_); rintro e w36 ⟨rfl, hb⟩; have n0_ := Aside0.mk (Kd.R_below (by (with_reducible repeat (first | apply Kd.R_alloc | apply Kd.R_drewN | apply Kd.R_drew)); exact HO_2.out) hb); have n1_ := Aside0.mk (below_step (by repeat (first | (with_reducible first | exact HB.out | apply below_alloc | apply pw_below_drewN | apply below_drew1) | exact HB.out)) hb); clear HO_2; clear HB; have HO_2 := n0_; have HB := n1_; clear n0_ n1_; (try clear hb); (try clear hb2); (try clear hk); (try clear hi)))
                                    repeat (go_quiet (first | (go_at_call 10; (with_reducible refine (width_Class.calls kj11 ((rd_T32 t145 x3_2).f0) t153 _ A22.out).mono ?_); rintro e w33 ⟨rfl, hb⟩; have n0_ := Aside0.mk (Kd.R_below (by (with_reducible repeat (first | apply Kd.R_alloc | apply Kd.R_drewN | apply Kd.R_drew)); exact HO_2.out) hb); have n1_ := Aside0.mk (below_step (by repeat (first | (with_reducible first | exact HB.out | apply below_alloc | apply pw_below_drewN | apply below_drew1) | exact HB.out)) hb); clear HO_2; clear HB; have HO_2 := n0_; have HB := n1_; clear n0_ n1_; (try clear hb); (try clear hb2); (try clear hk); (try clear hi); have p154 : 0 ≤ (x3_2 : Int) := of_decide_eq_true (by first | (with_reducible assumption) | assumption); have q154 : x3_2 < (t145.length : Int) := of_decide_eq_true (by first | (with_reducible assumption) | assumption); obtain ⟨ad154, e154, hx154_0, hx154_1⟩ := at_T32 (Kd.R_reads' HO_2.out).2.2 x3_2 p154 q154; obtain rfl : ad152 = ad154 := (by injection e154); replace p154 := eq_true p154; replace q154 := eq_true q154) | (go_at_call 10; (with_reducible refine (width_Class.calls kj11 ((rd_T32 t145 x3_2).f1) t155 _ A24.out).mono ?_); rintro e w34 ⟨rfl, hb⟩; have n0_ := Aside0.mk (Kd.R_below (by (with_reducible repeat (first | apply Kd.R_alloc | apply Kd.R_drewN | apply Kd.R_drew)); exact HO_2.out) hb); have n1_ := Aside0.mk (below_step (by repeat (first | (with_reducible first | exact HB.out | apply below_alloc | apply pw_below_drewN | apply below_drew1) | exact HB.out)) hb); clear HO_2; clear HB; have HO_2 := n0_; have HB := n1_; clear n0_ n1_; (try clear hb); (try clear hb2); (try clear hk); (try clear hi); have p156 : 0 ≤ (x3_2 : Int) := of_decide_eq_true (by first | (with_reducible assumption) | assumption); have q156 : x3_2 < (t145.length : Int) := of_decide_eq_true (by first | (with_reducible assumption) | assumption); obtain ⟨ad156, e156, hx156_0, hx156_1⟩ := at_T32 (Kd.R_reads' HO_2.out).2.2 x3_2 p156 q156; obtain rfl : ad152 = ad156 := (by injection e156); replace p156 := eq_true p156; replace q156 := eq_true q156) | (go_at_call 10; (with_reducible refine (width_Class.calls kj11 (wrap32 (((rd_T32 t145 x3_2).f1) + 1)) t157 _ A26.out).mono ?_); rintro e w35 ⟨rfl, hb⟩; have n0_ := Aside0.mk (Kd.R_below (by (with_reducible repeat (first | apply Kd.R_alloc | apply Kd.R_drewN | apply Kd.R_drew)); exact HO_2.out) hb); have n1_ := Aside0.mk (below_step (by repeat (first | (with_reducible first | exact HB.out | apply below_alloc | apply pw_below_drewN | apply below_drew1) | exact HB.out)) hb); clear HO_2; clear HB; have HO_2 := n0_; have HB := n1_; clear n0_ n1_; (try clear hb); (try clear hb2); (try clear hk); (try clear hi); have p158 : 0 ≤ (x3_2 : Int) := of_decide_eq_true (by first | (with_reducible assumption) | assumption); have q158 : x3_2 < (t145.length : Int) := of_decide_eq_true (by first | (with_reducible assumption) | assumption); obtain ⟨ad158, e158, hx158_0, hx158_1⟩ := at_T32 (Kd.R_reads' HO_2.out).2.2 x3_2 p158 q158; obtain rfl : ad152 = ad158 := (by injection e158); replace p158 := eq_true p158; replace q158 := eq_true q158) | (go_at_call 10; (with_reducible refine (width_Class.calls kj11 (wrap32 (((rd_T32 t145 x3_2).f0) - 1)) t159 _ A31.out).mono ?_); rintro e w36 ⟨rfl, hb⟩; have n0_ := Aside0.mk (Kd.R_below (by (with_reducible repeat (first | apply Kd.R_alloc | apply Kd.R_drewN | apply Kd.R_drew)); exact HO_2.out) hb); have n1_ := Aside0.mk (below_step (by repeat (first | (with_reducible first | exact HB.out | apply below_alloc | apply pw_below_drewN | apply below_drew1) | exact HB.out)) hb); clear HO_2; clear HB; have HO_2 := n0_; have HB := n1_; clear n0_ n1_; (try clear hb); (try clear hb2); (try clear hk); (try clear hi))); try go_wp2_with (first | (go_at_call 10; (with_reducible refine (width_Class.calls kj11 ((rd_T32 t145 x3_2).f0) t153 _ A22.out).mono ?_); rintro e w33 ⟨rfl, hb⟩; have n0_ := Aside0.mk (Kd.R_below (by (with_reducible repeat (first | apply Kd.R_alloc | apply Kd.R_drewN | apply Kd.R_drew)); exact HO_2.out) hb); have n1_ := Aside0.mk (below_step (by repeat (first | (with_reducible first | exact HB.out | apply below_alloc | apply pw_below_drewN | apply below_drew1) | exact HB.out)) hb); clear HO_2; clear HB; have HO_2 := n0_; have HB := n1_; clear n0_ n1_; (try clear hb); (try clear hb2); (try clear hk); (try clear hi); have p154 : 0 ≤ (x3_2 : Int) := of_decide_eq_true (by first | (with_reducible assumption) | assumption); have q154 : x3_2 < (t145.length : Int) := of_decide_eq_true (by first | (with_reducible assumption) | assumption); obtain ⟨ad154, e154, hx154_0, hx154_1⟩ := at_T32 (Kd.R_reads' HO_2.out).2.2 x3_2 p154 q154; obtain rfl : ad152 = ad154 := (by injection e154); replace p154 := eq_true p154; replace q154 := eq_true q154) | (go_at_call 10; (with_reducible refine (width_Class.calls kj11 ((rd_T32 t145 x3_2).f1) t155 _ A24.out).mono ?_); rintro e w34 ⟨rfl, hb⟩; have n0_ := Aside0.mk (Kd.R_below (by (with_reducible repeat (first | apply Kd.R_alloc | apply Kd.R_drewN | apply Kd.R_drew)); exact HO_2.out) hb); have n1_ := Aside0.mk (below_step (by repeat (first | (with_reducible first | exact HB.out | apply below_alloc | apply pw_below_drewN | apply below_drew1) | exact HB.out)) hb); clear HO_2; clear HB; have HO_2 := n0_; have HB := n1_; clear n0_ n1_; (try clear hb); (try clear hb2); (try clear hk); (try clear hi); have p156 : 0 ≤ (x3_2 : Int) := of_decide_eq_true (by first | (with_reducible assumption) | assumption); have q156 : x3_2 < (t145.length : Int) := of_decide_eq_true (by first | (with_reducible assumption) | assumption); obtain ⟨ad156, e156, hx156_0, hx156_1⟩ := at_T32 (Kd.R_reads' HO_2.out).2.2 x3_2 p156 q156; obtain rfl : ad152 = ad156 := (by injection e156); replace p156 := eq_true p156; replace q156 := eq_true q156) | (go_at_call 10; (with_reducible refine (width_Class.calls kj11 (wrap32 (((rd_T32 t145 x3_2).f1) + 1)) t157 _ A26.out).mono ?_); rintro e w35 ⟨rfl, hb⟩; have n0_ := Aside0.mk (Kd.R_below (by (with_reducible repeat (first | apply Kd.R_alloc | apply Kd.R_drewN | apply Kd.R_drew)); exact HO_2.out) hb); have n1_ := Aside0.mk (below_step (by repeat (first | (with_reducible first | exact HB.out | apply below_alloc | apply pw_below_drewN | apply below_drew1) | exact HB.out)) hb); clear HO_2; clear HB; have HO_2 := n0_; have HB := n1_; clear n0_ n1_; (try clear hb); (try clear hb2); (try clear hk); (try clear hi); have p158 : 0 ≤ (x3_2 : Int) := of_decide_eq_true (by first | (with_reducible assumption) | assumption); have q158 : x3_2 < (t145.length : Int) := of_decide_eq_true (by first | (with_reducible assumption) | assumption); obtain ⟨ad158, e158, hx158_0, hx158_1⟩ := at_T32 (Kd.R_reads' HO_2.out).2.2 x3_2 p158 q158; obtain rfl : ad152 = ad158 := (by injection e158); replace p158 := eq_true p158; replace q158 := eq_true q158) | (go_at_call 10; (with_reducible refine (width_Class.calls kj11 (wrap32 (((rd_T32 t145 x3_2).f0) - 1)) t159 _ A31.out).mono ?_); rintro e w36 ⟨rfl, hb⟩; have n0_ := Aside0.mk (Kd.R_below (by (with_reducible repeat (first | apply Kd.R_alloc | apply Kd.R_drewN | apply Kd.R_drew)); exact HO_2.out) hb); have n1_ := Aside0.mk (below_step (by repeat (first | (with_reducible first | exact HB.out | apply below_alloc | apply pw_below_drewN | apply below_drew1) | exact HB.out)) hb); clear HO_2; clear HB; have HO_2 := n0_; have HB := n1_; clear n0_ n1_; (try clear hb); (try clear hb2); (try clear hk); (try clear hi))))
                                    go_ret
                                    exact ⟨by first | rfl | (simp [errW_none, errW_some] <;> rfl) | (simp [*, errW_none, errW_some] <;> rfl), by repeat (first | (with_reducible first | exact HB.out | apply below_alloc | apply pw_below_drewN | apply below_drew1) | exact HB.out)⟩
                                  · rw [if_neg c32] at H
                                    have c32b0 : (t159 == x1_1) = false := beq_eq_false_iff_ne.mpr c32
                                    have c32b1 : (t159 != x1_1) = true := bne_iff_ne.mpr c32
                                    have H' := Aside0.mk H
                                    clear H
                                    have p152 : 0 ≤ (x3_2 : Int) := of_decide_eq_true (by first | (with_reducible assumption) | assumption)
                                    have q152 : x3_2 < (t145.length : Int) := of_decide_eq_true (by first | (with_reducible assumption) | assumption)
                                    obtain ⟨ad152, e152, hx152_0, hx152_1⟩ := at_T32 (Kd.R_reads' HO_2.out).2.2 x3_2 p152 q152
                                    cases e152
                                    replace p152 := eq_true p152
                                    replace q152 := eq_true q152
                                    go_wp2_with (first | (go_at_call 10; (with_reducible refine (width_Class.calls kj11 ((rd_T32 t145 x3_2).f0) t153 _ A22.out).mono ?_); rintro e w37 ⟨rfl, hb⟩; have n0_ := Aside0.mk (Kd.R_below (by (with_reducible repeat (first | apply Kd.R_alloc | apply Kd.R_drewN | apply Kd.R_drew)); exact HO_2.out) hb); have n1_ := Aside0.mk (below_step (by repeat (first | (with_reducible first | exact HB.out | apply below_alloc | apply pw_below_drewN | apply below_drew1) | exact HB.out)) hb); clear HO_2; clear HB; have HO_2 := n0_; have HB := n1_; clear n0_ n1_; (try clear hb); (try clear hb2); (try clear hk); (try clear hi); have p154 : 0 ≤ (x3_2 : Int) := of_decide_eq_true (by first | (with_reducible assumption) | assumption); have q154 : x3_2 < (t145.length : Int) := of_decide_eq_true (by first | (with_reducible assumption) | assumption); obtain ⟨ad154, e154, hx154_0, hx154_1⟩ := at_T32 (Kd.R_reads' HO_2.out).2.2 x3_2 p154 q154; obtain rfl : ad152 = ad154 := (by injection e154); replace p154 := eq_true p154; replace q154 := eq_true q154) | (go_at_call 10; (with_reducible refine (width_Class.calls kj11 ((rd_T32 t145 x3_2).f1) t155 _ A24.out).mono ?_); rintro e w38 ⟨rfl, hb⟩; have n0_ := Aside0.mk (Kd.R_below (by (with_reducible repeat (first | apply Kd.R_alloc | apply Kd.R_drewN | apply Kd.R_drew)); exact HO_2.out) hb); have n1_ := Aside0.mk (below_step (by repeat (first | (with_reducible first | exact HB.out | apply below_alloc | apply pw_below_drewN | apply below_drew1) | exact HB.out)) hb); clear HO_2; clear HB; have HO_2 := n0_; have HB := n1_; clear n0_ n1_; (try clear hb); (try clear hb2); (try clear hk); (try clear hi); have p156 : 0 ≤ (x3_2 : Int) := of_decide_eq_true (by first | (with_reducible assumption) | assumption); have q156 : x3_2 < (t145.length : Int) := of_decide_eq_true (by first | (with_reducible assumption) | assumption); obtain ⟨ad156, e156, hx156_0, hx156_1⟩ := at_T32 (Kd.R_reads' HO_2.out).2.2 x3_2 p156 q156; obtain rfl : ad152 = ad156 := (by injection e156); replace p156 := eq_true p156; replace q156 := eq_true q156) | (go_at_call 10; (with_reducible refine (width_Class.calls kj11 (wrap32 (((rd_T32 t145 x3_2).f1) + 1)) t157 _ A26.out).mono ?_); rintro e w39 ⟨rfl, hb⟩; have n0_ := Aside0.mk (Kd.R_below (by (with_reducible repeat (first | apply Kd.R_alloc | apply Kd.R_drewN | apply Kd.R_drew)); exact HO_2.out) hb); have n1_ := Aside0.mk (below_step (by repeat (first | (with_reducible first | exact HB.out | apply below_alloc | apply pw_below_drewN | apply below_drew1) | exact HB.out)) hb); clear HO_2; clear HB; have HO_2 := n0_; have HB := n1_; clear n0_ n1_; (try clear hb); (try clear hb2); (try clear hk); (try clear hi); have p158 : 0 ≤ (x3_2 : Int) := of_decide_eq_true (by first | (with_reducible assumption) | assumption); have q158 : x3_2 < (t145.length : Int) := of_decide_eq_true (by first | (with_reducible assumption) | assumption); obtain ⟨ad158, e158, hx158_0, hx158_1⟩ := at_T32 (Kd.R_reads' HO_2.out).2.2 x3_2 p158 q158; obtain rfl : ad152 = ad158 := (by injection e158); replace p158 := eq_true p158; replace q158 := eq_true q158) | (go_at_call 10; (with_reducible refine (width_Class.calls kj11 (wrap32 (((rd_T32 t145 x3_2).f0) - 1)) t159 _ A31.out).mono ?_); rintro e w40 ⟨rfl, hb⟩; have n0_ := Aside0.mk (Kd.R_below (by (with_reducible repeat (first | apply Kd.R_alloc | apply Kd.R_drewN | apply Kd.R_drew)); exact HO_2.out) hb); have n1_ := Aside0.mk (below_step (by repeat (first | (with_reducible first | exact HB.out | apply below_alloc | apply pw_below_drewN | apply below_drew1) | exact HB.out)) hb); clear HO_2; clear HB; have HO_2 := n0_; have HB := n1_; clear n0_ n1_; (try clear hb); (try clear hb2); (try clear hk); (try clear hi)))
                                    repeat (go_quiet (first | (go_at_call 10; (with_reducible refine (width_Class.calls kj11 ((rd_T32 t145 x3_2).f0) t153 _ A22.out).mono ?_); rintro e w37 ⟨rfl, hb⟩; have n0_ := Aside0.mk (Kd.R_below (by (with_reducible repeat (first | apply Kd.R_alloc | apply Kd.R_drewN | apply Kd.R_drew)); exact HO_2.out) hb); have n1_ := Aside0.mk (below_step (by repeat (first | (with_reducible first | exact HB.out | apply below_alloc | apply pw_below_drewN | apply below_drew1) | exact HB.out)) hb); clear HO_2; clear HB; have HO_2 := n0_; have HB := n1_; clear n0_ n1_; (try clear hb); (try clear hb2); (try clear hk); (try clear hi); have p154 : 0 ≤ (x3_2 : Int) := of_decide_eq_true (by first | (with_reducible assumption) | assumption); have q154 : x3_2 < (t145.length : Int) := of_decide_eq_true (by first | (with_reducible assumption) | assumption); obtain ⟨ad154, e154, hx154_0, hx154_1⟩ := at_T32 (Kd.R_reads' HO_2.out).2.2 x3_2 p154 q154; obtain rfl : ad152 = ad154 := (by injection e154); replace p154 := eq_true p154; replace q154 := eq_true q154) | (go_at_call 10; (with_reducible refine (width_Class.calls kj11 ((rd_T32 t145 x3_2).f1) t155 _ A24.out).mono ?_); rintro e w38 ⟨rfl, hb⟩; have n0_ := Aside0.mk (Kd.R_below (by (with_reducible repeat (first | apply Kd.R_alloc | apply Kd.R_drewN | apply Kd.R_drew)); exact HO_2.out) hb); have n1_ := Aside0.mk (below_step (by repeat (first | (with_reducible first | exact HB.out | apply below_alloc | apply pw_below_drewN | apply below_drew1) | exact HB.out)) hb); clear HO_2; clear HB; have HO_2 := n0_; have HB := n1_; clear n0_ n1_; (try clear hb); (try clear hb2); (try clear hk); (try clear hi); have p156 : 0 ≤ (x3_2 : Int) := of_decide_eq_true (by first | (with_reducible assumption) | assumption); have q156 : x3_2 < (t145.length : Int) := of_decide_eq_true (by first | (with_reducible assumption) | assumption); obtain ⟨ad156, e156, hx156_0, hx156_1⟩ := at_T32 (Kd.R_reads' HO_2.out).2.2 x3_2 p156 q156; obtain rfl : ad152 = ad156 := (by injection e156); replace p156 := eq_true p156; replace q156 := eq_true q156) | (go_at_call 10; (with_reducible refine (width_Class.calls kj11 (wrap32 (((rd_T32 t145 x3_2).f1) + 1)) t157 _ A26.out).mono ?_); rintro e w39 ⟨rfl, hb⟩; have n0_ := Aside0.mk (Kd.R_below (by (with_reducible repeat (first | apply Kd.R_alloc | apply Kd.R_drewN | apply Kd.R_drew)); exact HO_2.out) hb); have n1_ := Aside0.mk (below_step (by repeat (first | (with_reducible first | exact HB.out | apply below_alloc | apply pw_below_drewN | apply below_drew1) | exact HB.out)) hb); clear HO_2; clear HB; have HO_2 := n0_; have HB := n1_; clear n0_ n1_; (try clear hb); (try clear hb2); (try clear hk); (try clear hi); have p158 : 0 ≤ (x3_2 : Int) := of_decide_eq_true (by first | (with_reducible assumption) | assumption); have q158 : x3_2 < (t145.length : Int) := of_decide_eq_true (by first | (with_reducible assumption) | assumption); obtain ⟨ad158, e158, hx158_0, hx158_1⟩ := at_T32 (Kd.R_reads' HO_2.out).2.2 x3_2 p158 q158; obtain rfl : ad152 = ad158 := (by injection e158); replace p158 := eq_true p158; replace q158 := eq_true q158) | (go_at_call 10; (with_reducible refine (width_Class.calls kj11 (wrap32 (((rd_T32 t145 x3_2).f0) - 1)) t159 _ A31.out).mono ?_); rintro e w40 ⟨rfl, hb⟩; have n0_ := Aside0.mk (Kd.R_below (by (with_reducible repeat (first | apply Kd.R_alloc | apply Kd.R_drewN | apply Kd.R_drew)); exact HO_2.out) hb); have n1_ := Aside0.mk (below_step (by repeat (first | (with_reducible first | exact HB.out | apply below_alloc | apply pw_below_drewN | apply below_drew1) | exact HB.out)) hb); clear HO_2; clear HB; have HO_2 := n0_; have HB := n1_; clear n0_ n1_; (try clear hb); (try clear hb2); (try clear hk); (try clear hi))); try go_wp2_with (first | (go_at_call 10; (with_reducible refine (width_Class.calls kj11 ((rd_T32 t145 x3_2).f0) t153 _ A22.out).mono ?_); rintro e w37 ⟨rfl, hb⟩; have n0_ := Aside0.mk (Kd.R_below (by (with_reducible repeat (first | apply Kd.R_alloc | apply Kd.R_drewN | apply Kd.R_drew)); exact HO_2.out) hb); have n1_ := Aside0.mk (below_step (by repeat (first | (with_reducible first | exact HB.out | apply below_alloc | apply pw_below_drewN | apply below_drew1) | exact HB.out)) hb); clear HO_2; clear HB; have HO_2 := n0_; have HB := n1_; clear n0_ n1_; (try clear hb); (try clear hb2); (try clear hk); (try clear hi); have p154 : 0 ≤ (x3_2 : Int) := of_decide_eq_true (by first | (with_reducible assumption) | assumption); have q154 : x3_2 < (t145.length : Int) := of_decide_eq_true (by first | (with_reducible assumption) | assumption); obtain ⟨ad154, e154, hx154_0, hx154_1⟩ := at_T32 (Kd.R_reads' HO_2.out).2.2 x3_2 p154 q154; obtain rfl : ad152 = ad154 := (by injection e154); replace p154 := eq_true p154; replace q154 := eq_true q154) | (go_at_call 10; (with_reducible refine (width_Class.calls kj11 ((rd_T32 t145 x3_2).f1) t155 _ A24.out).mono ?_); rintro e w38 ⟨rfl, hb⟩; have n0_ := Aside0.mk (Kd.R_below (by (with_reducible repeat (first | apply Kd.R_alloc | apply Kd.R_drewN | apply Kd.R_drew)); exact HO_2.out) hb); have n1_ := Aside0.mk (below_step (by repeat (first | (with_reducible first | exact HB.out | apply below_alloc | apply pw_below_drewN | apply below_drew1) | exact HB.out)) hb); clear HO_2; clear HB; have HO_2 := n0_; have HB := n1_; clear n0_ n1_; (try clear hb); (try clear hb2); (try clear hk); (try clear hi); have p156 : 0 ≤ (x3_2 : Int) := of_decide_eq_true (by first | (with_reducible assumption) | assumption); have q156 : x3_2 < (t145.length : Int) := of_decide_eq_true (by first | (with_reducible assumption) | assumption); obtain ⟨ad156, e156, hx156_0, hx156_1⟩ := at_T32 (Kd.R_reads' HO_2.out).2.2 x3_2 p156 q156; obtain rfl : ad152 = ad156 := (by injection e156); replace p156 := eq_true p156; replace q156 := eq_true q156) | (go_at_call 10; (with_reducible refine (width_Class.calls kj11 (wrap32 (((rd_T32 t145 x3_2).f1) + 1)) t157 _ A26.out).mono ?_); rintro e w39 ⟨rfl, hb⟩; have n0_ := Aside0.mk (Kd.R_below (by (with_reducible repeat (first | apply Kd.R_alloc | apply Kd.R_drewN | apply Kd.R_drew)); exact HO_2.out) hb); have n1_ := Aside0.mk (below_step (by repeat (first | (with_reducible first | exact HB.out | apply below_alloc | apply pw_below_drewN | apply below_drew1) | exact HB.out)) hb); clear HO_2; clear HB; have HO_2 := n0_; have HB := n1_; clear n0_ n1_; (try clear hb); (try clear hb2); (try clear hk); (try clear hi); have p158 : 0 ≤ (x3_2 : Int) := of_decide_eq_true (by first | (with_reducible assumption) | assumption); have q158 : x3_2 < (t145.length : Int) := of_decide_eq_true (by first | (with_reducible assumption) | assumption); obtain ⟨ad158, e158, hx158_0, hx158_1⟩ := at_T32 (Kd.R_reads' HO_2.out).2.2 x3_2 p158 q158; obtain rfl : ad152 = ad158 := (by injection e158); replace p158 := eq_true p158; replace q158 := eq_true q158) | (go_at_call 10; (with_reducible refine (width_Class.calls kj11 (wrap32 (((rd_T32 t145 x3_2).f0) - 1)) t159 _ A31.out).mono ?_); rintro e w40 ⟨rfl, hb⟩; have n0_ := Aside0.mk (Kd.R_below (by (with_reducible repeat (first | apply Kd.R_alloc | apply Kd.R_drewN | apply Kd.R_drew)); exact HO_2.out) hb); have n1_ := Aside0.mk (below_step (by repeat (first | (with_reducible first | exact HB.out | apply below_alloc | apply pw_below_drewN | apply below_drew1) | exact HB.out)) hb); clear HO_2; clear HB; have HO_2 := n0_; have HB := n1_; clear n0_ n1_; (try clear hb); (try clear hb2); (try clear hk); (try clear hi))))
                                    go_roundg kj11
                                    case measure => have := HK1.out; have := HK2.out; have := HJ11.out; omega
                                    case rel => exact ⟨(wrap64 (x3_2 + 1)), (by first | rfl | (simp; done) | (simp [*]; done)), H', ⟨by have := HK1.out; have := HK2.out; have := HJ11.out; omega⟩, ⟨by (with_reducible repeat (first | apply Kd.R_alloc | apply Kd.R_drewN | apply Kd.R_drew)); exact HO_2.out⟩, ⟨by repeat (first | (with_reducible first | exact HB.out | apply below_alloc | apply pw_below_drewN | apply below_drew1) | exact HB.out)⟩⟩
                              · rw [if_neg c25] at H
                                have c25b0 : (t155 == x1_1) = false := beq_eq_false_iff_ne.mpr c25
                                have c25b1 : (t155 != x1_1) = true := bne_iff_ne.mpr c25
                                obtain rfl := Option.some.inj H
                                have p152 : 0 ≤ (x3_2 : Int) := of_decide_eq_true (by first | (with_reducible assumption) | assumption)
                                have q152 : x3_2 < (t145.length : Int) := of_decide_eq_true (by first | (with_reducible assumption) | assumption)
                                obtain ⟨ad152, e152, hx152_0, hx152_1⟩ := at_T32 (Kd.R_reads' HO_2.out).2.2 x3_2 p152 q152
                                cases e152
                                replace p152 := eq_true p152
                                replace q152 := eq_true q152
                                go_wp2_with (first | (go_at_call 10; (with_reducible refine (width_Class.calls kj11 ((rd_T32 t145 x3_2).f0) t153 _ A22.out).mono ?_); rintro e w41 ⟨rfl, hb⟩; have n0_ := Aside0.mk (Kd.R_below (by (with_reducible repeat (first | apply Kd.R_alloc | apply Kd.R_drewN | apply Kd.R_drew)); exact HO_2.out) hb); have n1_ := Aside0.mk (below_step (by repeat (first | (with_reducible first | exact HB.out | apply below_alloc | apply pw_below_drewN | apply below_drew1) | exact HB.out)) hb); clear HO_2; clear HB; have HO_2 := n0_; have HB := n1_; clear n0_ n1_; (try clear hb); (try clear hb2); (try clear hk); (try clear hi); have p154 : 0 ≤ (x3_2 : Int) := of_decide_eq_true (by first | (with_reducible assumption) | assumption); have q154 : x3_2 < (t145.length : Int) := of_decide_eq_true (by first | (with_reducible assumption) | assumption); obtain ⟨ad154, e154, hx154_0, hx154_1⟩ := at_T32 (Kd.R_reads' HO_2.out).2.2 x3_2 p154 q154; obtain rfl : ad152 = ad154 := (by injection e154); replace p154 := eq_true p154; replace q154 := eq_true q154) | (go_at_call 10; (with_reducible refine (width_Class.calls kj11 ((rd_T32 t145 x3_2).f1) t155 _ A24.out).mono ?_); rintro e w42 ⟨rfl, hb⟩; have n0_ := Aside0.mk (Kd.R_below (by (with_reducible repeat (first | apply Kd.R_alloc | apply Kd.R_drewN | apply Kd.R_drew)); exact HO_2.out) hb); have n1_ := Aside0.mk (below_step (by repeat (first | (with_reducible first | exact HB.out | apply below_alloc | apply pw_below_drewN | apply below_drew1) | exact HB.out)) hb); clear HO_2; clear HB; have HO_2 := n0_; have HB := n1_; clear n0_ n1_; (try clear hb); (try clear hb2); (try clear hk); (try clear hi)))
                                repeat (go_quiet (first | (go_at_call 10; (with_reducible refine (width_Class.calls kj11 ((rd_T32 t145 x3_2).f0) t153 _ A22.out).mono ?_); rintro e w41 ⟨rfl, hb⟩; have n0_ := Aside0.mk (Kd.R_below (by (with_reducible repeat (first | apply Kd.R_alloc | apply Kd.R_drewN | apply Kd.R_drew)); exact HO_2.out) hb); have n1_ := Aside0.mk (below_step (by repeat (first | (with_reducible first | exact HB.out | apply below_alloc | apply pw_below_drewN | apply below_drew1) | exact HB.out)) hb); clear HO_2; clear HB; have HO_2 := n0_; have HB := n1_; clear n0_ n1_; (try clear hb); (try clear hb2); (try clear hk); (try clear hi); have p154 : 0 ≤ (x3_2 : Int) := of_decide_eq_true (by first | (with_reducible assumption) | assumption); have q154 : x3_2 < (t145.length : Int) := of_decide_eq_true (by first | (with_reducible assumption) | assumption); obtain ⟨ad154, e154, hx154_0, hx154_1⟩ := at_T32 (Kd.R_reads' HO_2.out).2.2 x3_2 p154 q154; obtain rfl : ad152 = ad154 := (by injection e154); replace p154 := eq_true p154; replace q154 := eq_true q154) | (go_at_call 10; (with_reducible refine (width_Class.calls kj11 ((rd_T32 t145 x3_2).f1) t155 _ A24.out).mono ?_); rintro e w42 ⟨rfl, hb⟩; have n0_ := Aside0.mk (Kd.R_below (by (with_reducible repeat (first | apply Kd.R_alloc | apply Kd.R_drewN | apply Kd.R_drew)); exact HO_2.out) hb); have n1_ := Aside0.mk (below_step (by repeat (first | (with_reducible first | exact HB.out | apply below_alloc | apply pw_below_drewN | apply below_drew1) | exact HB.out)) hb); clear HO_2; clear HB; have HO_2 := n0_; have HB := n1_; clear n0_ n1_; (try clear hb); (try clear hb2); (try clear hk); (try clear hi))); try go_wp2_with (first | (go_at_call 10; (with_reducible refine (width_Class.calls kj11 ((rd_T32 t145 x3_2).f0) t153 _ A22.out).mono ?_); rintro e w41 ⟨rfl, hb⟩; have n0_ := Aside0.mk (Kd.R_below (by (with_reducible repeat (first | apply Kd.R_alloc | apply Kd.R_drewN | apply Kd.R_drew)); exact HO_2.out) hb); have n1_ := Aside0.mk (below_step (by repeat (first | (with_reducible first | exact HB.out | apply below_alloc | apply pw_below_drewN | apply below_drew1) | exact HB.out)) hb); clear HO_2; clear HB; have HO_2 := n0_; have HB := n1_; clear n0_ n1_; (try clear hb); (try clear hb2); (try clear hk); (try clear hi); have p154 : 0 ≤ (x3_2 : Int) := of_decide_eq_true (by first | (with_reducible assumption) | assumption); have q154 : x3_2 < (t145.length : Int) := of_decide_eq_true (by first | (with_reducible assumption) | assumption); obtain ⟨ad154, e154, hx154_0, hx154_1⟩ := at_T32 (Kd.R_reads' HO_2.out).2.2 x3_2 p154 q154; obtain rfl : ad152 = ad154 := (by injection e154); replace p154 := eq_true p154; replace q154 := eq_true q154) | (go_at_call 10; (with_reducible refine (width_Class.calls kj11 ((rd_T32 t145 x3_2).f1) t155 _ A24.out).mono ?_); rintro e w42 ⟨rfl, hb⟩; have n0_ := Aside0.mk (Kd.R_below (by (with_reducible repeat (first | apply Kd.R_alloc | apply Kd.R_drewN | apply Kd.R_drew)); exact HO_2.out) hb); have n1_ := Aside0.mk (below_step (by repeat (first | (with_reducible first | exact HB.out | apply below_alloc | apply pw_below_drewN | apply below_drew1) | exact HB.out)) hb); clear HO_2; clear HB; have HO_2 := n0_; have HB := n1_; clear n0_ n1_; (try clear hb); (try clear hb2); (try clear hk); (try clear hi))))
                                go_ret
                                exact ⟨by first | rfl | (simp [errW_none, errW_some] <;> rfl) | (simp [*, errW_none, errW_some] <;> rfl), by repeat (first | (with_reducible first | exact HB.out | apply below_alloc | apply pw_below_drewN | apply below_drew1) | exact HB.out)⟩
                            · rw [if_neg c23] at H
                              have c23b0 : (t153 == x1_1) = false := beq_eq_false_iff_ne.mpr c23
                              have c23b1 : (t153 != x1_1) = true := bne_iff_ne.mpr c23
                              obtain rfl := Option.some.inj H
                              have p152 : 0 ≤ (x3_2 : Int) := of_decide_eq_true (by first | (with_reducible assumption) | assumption)
                              have q152 : x3_2 < (t145.length : Int) := of_decide_eq_true (by first | (with_reducible assumption) | assumption)
                              obtain ⟨ad152, e152, hx152_0, hx152_1⟩ := at_T32 (Kd.R_reads' HO_2.out).2.2 x3_2 p152 q152
                              cases e152
                              replace p152 := eq_true p152
                              replace q152 := eq_true q152
                              go_wp2_with (first | (go_at_call 10; (with_reducible refine (width_Class.calls kj11 ((rd_T32 t145 x3_2).f0) t153 _ A22.out).mono ?_); rintro e w43 ⟨rfl, hb⟩; have n0_ := Aside0.mk (Kd.R_below (by (with_reducible repeat (first | apply Kd.R_alloc | apply Kd.R_drewN | apply Kd.R_drew)); exact HO_2.out) hb); have n1_ := Aside0.mk (below_step (by repeat (first | (with_reducible first | exact HB.out | apply below_alloc | apply pw_below_drewN | apply below_drew1) | exact HB.out)) hb); clear HO_2; clear HB; have HO_2 := n0_; have HB := n1_; clear n0_ n1_; (try clear hb); (try clear hb2); (try clear hk); (try clear hi)))
                              repeat (go_quiet (first | (go_at_call 10; (with_reducible refine (width_Class.calls kj11 ((rd_T32 t145 x3_2).f0) t153 _ A22.out).mono ?_); rintro e w43 ⟨rfl, hb⟩; have n0_ := Aside0.mk (Kd.R_below (by (with_reducible repeat (first | apply Kd.R_alloc | apply Kd.R_drewN | apply Kd.R_drew)); exact HO_2.out) hb); have n1_ := Aside0.mk (below_step (by repeat (first | (with_reducible first | exact HB.out | apply below_alloc | apply pw_below_drewN | apply below_drew1) | exact HB.out)) hb); clear HO_2; clear HB; have HO_2 := n0_; have HB := n1_; clear n0_ n1_; (try clear hb); (try clear hb2); (try clear hk); (try clear hi))); try go_wp2_with (first | (go_at_call 10; (with_reducible refine (width_Class.calls kj11 ((rd_T32 t145 x3_2).f0) t153 _ A22.out).mono ?_); rintro e w43 ⟨rfl, hb⟩; have n0_ := Aside0.mk (Kd.R_below (by (with_reducible repeat (first | apply Kd.R_alloc | apply Kd.R_drewN | apply Kd.R_drew)); exact HO_2.out) hb); have n1_ := Aside0.mk (below_step (by repeat (first | (with_reducible first | exact HB.out | apply below_alloc | apply pw_below_drewN | apply below_drew1) | exact HB.out)) hb); clear HO_2; clear HB; have HO_2 := n0_; have HB := n1_; clear n0_ n1_; (try clear hb); (try clear hb2); (try clear hk); (try clear hi))))
                              go_ret
                              exact ⟨by first | rfl | (simp [errW_none, errW_some] <;> rfl) | (simp [*, errW_none, errW_some] <;> rfl), by repeat (first | (with_reducible first | exact HB.out | apply below_alloc | apply pw_below_drewN | apply below_drew1) | exact HB.out)⟩
                          · rw [if_neg c21] at H
                            exact absurd H (by simp)
                        · rw [if_neg c20] at H
                          exact absurd H (by simp)
                · rw [if_neg c11] at H
                  have c11b0 : decide (x3_2 < (t145.length : Int)) = false := decide_eq_false c11
                  clear c11
                  have H' := Aside0.mk H
                  clear H
                  go_wp2
                  repeat (go_quiet (fail); try go_wp2)
                  go_roundg k2
                  case measure => have := HK1.out; have := HK2.out; omega
                  case rel => exact ⟨(wrap64 (x1_1 + 1)), (by first | rfl | (simp; done) | (simp [*]; done)), H', ⟨by have := HK1.out; have := HK2.out; omega⟩, ⟨by repeat (first | (with_reducible first | exact HB.out | apply below_alloc | apply pw_below_drewN | apply below_drew1) | exact HB.out)⟩⟩
        · rw [if_neg c4] at H
          have c4b0 : decide (x1_1 ≤ 4) = false := decide_eq_false c4
          clear c4
          replace H := Option.bind_eq_some_iff.mp H
          obtain ⟨t139, A440, H⟩ := H
          replace H : (if (t139.length : Int) = 0 then ((width_Ranges.f k1 5).bind fun t142 => (some ((t142.length : Int) == 0))) else (some false)) = some r := H
          have A44 := Aside0.mk A440
          clear A440
          by_cases c45 : (t139.length : Int) = 0
          · rw [if_pos c45] at H
            have c45b0 : ((t139.length : Int) == 0) = true := beq_iff_eq.mpr c45
            have c45b1 : ((t139.length : Int) != 0) = false := bne_eq_false_iff_eq.mpr c45
            clear c45
            replace H := Option.bind_eq_some_iff.mp H
            obtain ⟨t142, A460, H⟩ := H
            replace H : (some ((t142.length : Int) == 0)) = some r := H
            have A46 := Aside0.mk A460
            clear A460
            obtain rfl := Option.some.inj H
            go_wp2_with (first | (go_at_call 15; (with_reducible refine (width_Ranges.calls k1 0 t139 _ A44.out).mono ?_); rintro e w47 ⟨v140, rfl, ho0, hb⟩; have n0_ := Aside0.mk (Kd.R_lower ho0 (below_size (by repeat (first | (with_reducible first | exact HB.out | apply below_alloc | apply pw_below_drewN | apply below_drew1) | exact HB.out)))); have n1_ := Aside0.mk (below_step (by repeat (first | (with_reducible first | exact HB.out | apply below_alloc | apply pw_below_drewN | apply below_drew1) | exact HB.out)) hb); clear HB; have HO141 := n0_; have HB := n1_; clear n0_ n1_; (try clear hb); (try clear hb2); (try clear hk); (try clear hi); (try clear ho0); obtain ⟨Ao48, co48, eo48⟩ := Kd.R_slice HO141.out; subst eo48) | (go_at_call 15; (with_reducible refine (width_Ranges.calls k1 5 t142 _ A46.out).mono ?_); rintro e w49 ⟨v143, rfl, ho0, hb⟩; have n0_ := Aside0.mk (Kd.R_elder' (by (with_reducible repeat (first | apply Kd.R_alloc | apply Kd.R_drewN | apply Kd.R_drew)); exact HO141.out) (Kd.R_base ho0) hb); have n1_ := Aside0.mk (Kd.R_lower (Kd.R_new' ho0 (Kd.R_lt (by (with_reducible repeat (first | apply Kd.R_alloc | apply Kd.R_drewN | apply Kd.R_drew)); exact HO141.out))) (below_size (by repeat (first | (with_reducible first | exact HB.out | apply below_alloc | apply pw_below_drewN | apply below_drew1) | exact HB.out)))); have n2_ := Aside0.mk (below_step (by repeat (first | (with_reducible first | exact HB.out | apply below_alloc | apply pw_below_drewN | apply below_drew1) | exact HB.out)) hb); clear HO141; clear HB; have HO141 := n0_; have HO144 := n1_; have HB := n2_; clear n0_ n1_ n2_; (try clear hb); (try clear hb2); (try clear hk); (try clear hi); (try clear ho0); obtain ⟨Ao50, co50, eo50⟩ := Kd.R_slice HO144.out; subst eo50))
            repeat (go_quiet (first | (go_at_call 15; (with_reducible refine (width_Ranges.calls k1 0 t139 _ A44.out).mono ?_); rintro e w47 ⟨v140, rfl, ho0, hb⟩; have n0_ := Aside0.mk (Kd.R_lower ho0 (below_size (by repeat (first | (with_reducible first | exact HB.out | apply below_alloc | apply pw_below_drewN | apply below_drew1) | exact HB.out)))); have n1_ := Aside0.mk (below_step (by repeat (first | (with_reducible first | exact HB.out | apply below_alloc | apply pw_below_drewN | apply below_drew1) | exact HB.out)) hb); clear HB; have HO141 := n0_; have HB := n1_; clear n0_ n1_; (try clear hb); (try clear hb2); (try clear hk); (try clear hi); (try clear ho0); obtain ⟨Ao48, co48, eo48⟩ := Kd.R_slice HO141.out; subst eo48) | (go_at_call 15; (with_reducible refine (width_Ranges.calls k1 5 t142 _ A46.out).mono ?_); rintro e w49 ⟨v143, rfl, ho0, hb⟩; have n0_ := Aside0.mk (Kd.R_elder' (by (with_reducible repeat (first | apply Kd.R_alloc | apply Kd.R_drewN | apply Kd.R_drew)); exact HO141.out) (Kd.R_base ho0) hb); have n1_ := Aside0.mk (Kd.R_lower (Kd.R_new' ho0 (Kd.R_lt (by (with_reducible repeat (first | apply Kd.R_alloc | apply Kd.R_drewN | apply Kd.R_drew)); exact HO141.out))) (below_size (by repeat (first | (with_reducible first | exact HB.out | apply below_alloc | apply pw_below_drewN | apply below_drew1) | exact HB.out)))); have n2_ := Aside0.mk (below_step (by repeat (first | (with_reducible first | exact HB.out | apply below_alloc | apply pw_below_drewN | apply below_drew1) | exact HB.out)) hb); clear HO141; clear HB; have HO141 := n0_; have HO144 := n1_; have HB := n2_; clear n0_ n1_ n2_; (try clear hb); (try clear hb2); (try clear hk); (try clear hi); (try clear ho0); obtain ⟨Ao50, co50, eo50⟩ := Kd.R_slice HO144.out; subst eo50)); try go_wp2_with (first | (go_at_call 15; (with_reducible refine (width_Ranges.calls k1 0 t139 _ A44.out).mono ?_); rintro e w47 ⟨v140, rfl, ho0, hb⟩; have n0_ := Aside0.mk (Kd.R_lower ho0 (below_size (by repeat (first | (with_reducible first | exact HB.out | apply below_alloc | apply pw_below_drewN | apply below_drew1) | exact HB.out)))); have n1_ := Aside0.mk (below_step (by repeat (first | (with_reducible first | exact HB.out | apply below_alloc | apply pw_below_drewN | apply below_drew1) | exact HB.out)) hb); clear HB; have HO141 := n0_; have HB := n1_; clear n0_ n1_; (try clear hb); (try clear hb2); (try clear hk); (try clear hi); (try clear ho0); obtain ⟨Ao48, co48, eo48⟩ := Kd.R_slice HO141.out; subst eo48) | (go_at_call 15; (with_reducible refine (width_Ranges.calls k1 5 t142 _ A46.out).mono ?_); rintro e w49 ⟨v143, rfl, ho0, hb⟩; have n0_ := Aside0.mk (Kd.R_elder' (by (with_reducible repeat (first | apply Kd.R_alloc | apply Kd.R_drewN | apply Kd.R_drew)); exact HO141.out) (Kd.R_base ho0) hb); have n1_ := Aside0.mk (Kd.R_lower (Kd.R_new' ho0 (Kd.R_lt (by (with_reducible repeat (first | apply Kd.R_alloc | apply Kd.R_drewN | apply Kd.R_drew)); exact HO141.out))) (below_size (by repeat (first | (with_reducible first | exact HB.out | apply below_alloc | apply pw_below_drewN | apply below_drew1) | exact HB.out)))); have n2_ := Aside0.mk (below_step (by repeat (first | (with_reducible first | exact HB.out | apply below_alloc | apply pw_below_drewN | apply below_drew1) | exact HB.out)) hb); clear HO141; clear HB; have HO141 := n0_; have HO144 := n1_; have HB := n2_; clear n0_ n1_ n2_; (try clear hb); (try clear hb2); (try clear hk); (try clear hi); (try clear ho0); obtain ⟨Ao50, co50, eo50⟩ := Kd.R_slice HO144.out; subst eo50)))
            go_ret
            exact ⟨by first | rfl | (simp [errW_none, errW_some] <;> rfl) | (simp [*, errW_none, errW_some] <;> rfl), by repeat (first | (with_reducible first | exact HB.out | apply below_alloc | apply pw_below_drewN | apply below_drew1) | exact HB.out)⟩
          · rw [if_neg c45] at H
            have c45b0 : ((t139.length : Int) == 0) = false := beq_eq_false_iff_ne.mpr c45
            have c45b1 : ((t139.length : Int) != 0) = true := bne_iff_ne.mpr c45
            have c45b2 : ¬ (t139 = []) := fun h_ => c45 (by rw [h_]; rfl)
            obtain rfl := Option.some.inj H
            go_wp2_with (first | (go_at_call 15; (with_reducible refine (width_Ranges.calls k1 0 t139 _ A44.out).mono ?_); rintro e w51 ⟨v140, rfl, ho0, hb⟩; have n0_ := Aside0.mk (Kd.R_lower ho0 (below_size (by repeat (first | (with_reducible first | exact HB.out | apply below_alloc | apply pw_below_drewN | apply below_drew1) | exact HB.out)))); have n1_ := Aside0.mk (below_step (by repeat (first | (with_reducible first | exact HB.out | apply below_alloc | apply pw_below_drewN | apply below_drew1) | exact HB.out)) hb); clear HB; have HO141 := n0_; have HB := n1_; clear n0_ n1_; (try clear hb); (try clear hb2); (try clear hk); (try clear hi); (try clear ho0); obtain ⟨Ao52, co52, eo52⟩ := Kd.R_slice HO141.out; subst eo52))
            repeat (go_quiet (first | (go_at_call 15; (with_reducible refine (width_Ranges.calls k1 0 t139 _ A44.out).mono ?_); rintro e w51 ⟨v140, rfl, ho0, hb⟩; have n0_ := Aside0.mk (Kd.R_lower ho0 (below_size (by repeat (first | (with_reducible first | exact HB.out | apply below_alloc | apply pw_below_drewN | apply below_drew1) | exact HB.out)))); have n1_ := Aside0.mk (below_step (by repeat (first | (with_reducible first | exact HB.out | apply below_alloc | apply pw_below_drewN | apply below_drew1) | exact HB.out)) hb); clear HB; have HO141 := n0_; have HB := n1_; clear n0_ n1_; (try clear hb); (try clear hb2); (try clear hk); (try clear hi); (try clear ho0); obtain ⟨Ao52, co52, eo52⟩ := Kd.R_slice HO141.out; subst eo52)); try go_wp2_with (first | (go_at_call 15; (with_reducible refine (width_Ranges.calls k1 0 t139 _ A44.out).mono ?_); rintro e w51 ⟨v140, rfl, ho0, hb⟩; have n0_ := Aside0.mk (Kd.R_lower ho0 (below_size (by repeat (first | (with_reducible first | exact HB.out | apply below_alloc | apply pw_below_drewN | apply below_drew1) | exact HB.out)))); have n1_ := Aside0.mk (below_step (by repeat (first | (with_reducible first | exact HB.out | apply below_alloc | apply pw_below_drewN | apply below_drew1) | exact HB.out)) hb); clear HB; have HO141 := n0_; have HB := n1_; clear n0_ n1_; (try clear hb); (try clear hb2); (try clear hk); (try clear hi); (try clear ho0); obtain ⟨Ao52, co52, eo52⟩ := Kd.R_slice HO141.out; subst eo52)))
            go_ret
            exact ⟨by first | rfl | (simp [errW_none, errW_some] <;> rfl) | (simp [*, errW_none, errW_some] <;> rfl), by repeat (first | (with_reducible first | exact HB.out | apply below_alloc | apply pw_below_drewN | apply below_drew1) | exact HB.out)⟩
  · replace c2 := Bool.eq_false_iff.mpr c2
    subst c2
    have H1 : (some false) = some r := by rw [if_neg (show ¬ (false = true) by decide)] at H; exact H
    clear H
    have H := H1
    clear H1
    obtain rfl := Option.some.inj H
    go_enter Try.func8, Try.ntmps8
    go_wp2_with (first | (go_at_call 9; (with_reducible refine (bodkinlaw02_awake.calls k  false _ A1.out).mono ?_); rintro e w53 ⟨rfl, hb⟩; have n0_ := Aside0.mk (below_step (by repeat (first | (with_reducible first | exact HB.out | apply below_alloc | apply pw_below_drewN | apply below_drew1) | exact HB.out)) hb); clear HB; have HB := n0_; clear n0_; (try clear hb); (try clear hb2); (try clear hk); (try clear hi)))
    repeat (go_quiet (first | (go_at_call 9; (with_reducible refine (bodkinlaw02_awake.calls k  false _ A1.out).mono ?_); rintro e w53 ⟨rfl, hb⟩; have n0_ := Aside0.mk (below_step (by repeat (first | (with_reducible first | exact HB.out | apply below_alloc | apply pw_below_drewN | apply below_drew1) | exact HB.out)) hb); clear HB; have HB := n0_; clear n0_; (try clear hb); (try clear hb2); (try clear hk); (try clear hi))); try go_wp2_with (first | (go_at_call 9; (with_reducible refine (bodkinlaw02_awake.calls k  false _ A1.out).mono ?_); rintro e w53 ⟨rfl, hb⟩; have n0_ := Aside0.mk (below_step (by repeat (first | (with_reducible first | exact HB.out | apply below_alloc | apply pw_below_drewN | apply below_drew1) | exact HB.out)) hb); clear HB; have HB := n0_; clear n0_; (try clear hb); (try clear hb2); (try clear hk); (try clear hi))))
    go_ret
    exact ⟨by first | rfl | (simp [errW_none, errW_some] <;> rfl) | (simp [*, errW_none, errW_some] <;> rfl), by repeat (first | (with_reducible first | exact HB.out | apply below_alloc | apply pw_below_drewN | apply below_drew1) | exact HB.out)⟩

/-- THE ONE PURE STATEMENT of bodkinlaw02_WidthTables: yours. -/
def bodkinlaw02_WidthTables.Pure : Prop := ∃ k, bodkinlaw02_WidthTables.f k  = some true
theorem bodkinlaw02_WidthTables.walk (P : bodkinlaw02_WidthTables.Pure)  (w : World)  :
    Calls Try.prog 8 #[] w fun e w' => e = .returned (.bool true) ∧ Below w.heap.size w w' := by
  obtain ⟨k, h⟩ := P  
  refine (bodkinlaw02_WidthTables.calls k  true w h).mono ?_
  rintro e w' ⟨rfl, hd⟩
  exact ⟨rfl, hd⟩

end Go.Proofs.Ytdcbgaikakhadaa.PWidthTables
