/- The law's helpers: play. Printed by a program of this claim. -/
import Derived.Test.YtlflohbpdapiiaaDoorPlay2
set_option linter.unusedVariables false
namespace Go.Proofs.YtlflohbpdapiiaaDoor
open Go.RowKit Go.Proofs.YtlflohbpdapiiaaDoorW.PrintWords Go.Proofs.YtlflohbpdapiiaaDoor.Sep Go.Proofs.YtlflohbpdapiiaaDoor.Libs
open Go.Proofs.YtlflohbpdapiiaaDoor.Ring (RS foot joined)
namespace Both
theorem Pair.boxed {w0 w : World} {b c : Nat} {v u : Value} {s : RS} (h : Pair w0 w b c v u s) (o : Obj) : Pair w0 (w.alloc o) b c v u s := h.later ((Below.refl _ _).alloc (Nat.le_refl _) o)
theorem Pair.drew {w0 w : World} {b c : Nat} {v u : Value} {s : RS} (h : Pair w0 w b c v u s) : Pair w0 w.drew b c v u s := ⟨h.p, h.r, h.inv, h.apart, h.newp, h.newr, h.below.os, h.below.tape, h.below.output, h.below.size, h.below.block⟩
abbrev Fit (s : RS) (t : ByteArray) : Prop := (s.state = 1 ∧ 0 < s.ents.length) → t.size + (s.ents.getD 0 E).size ≤ 9223372036854775807
set_option maxHeartbeats 1600000 in
theorem play_0 {w0 w : World} {b c : Nat} {v u : Value} {s : RS} (k : Nat) (t : ByteArray) (h : Pair w0 w b c v u s) (hr : k % 7 = 0) (hz : Fit s t) :
    Calls Tryd.prog 24 #[.pointer (some ⟨b, 0, none⟩), .pointer (some ⟨c, 0, none⟩), .agg #[.int .u8 k, .string t]] w fun e w' => e = .returned (.bool true) ∧ ∃ v' u', Pair w0 w' b c v' u' (step s k t) ∧ Upd (fun k => foot b v k ∨ foot c u k) w w' := by
  have HZ := Lib.hid hz
  clear hz
  have m0 : (k : Int) % 7 = 0 := by omega
  have m1 : (k : Int).tmod 7 = 0 := by rw [Int.tmod_eq_emod_of_nonneg (by omega)]; exact m0
  have M0 := Lib.hid m0
  have M1 := Lib.hid m1
  clear m0 m1
  have hs : step s k t = kill s t false := by unfold step; simp only [hr]
  rw [hs]
  have b0 : ((k : Int) % 7 == 0) = true := by rw [beq_iff_eq]; omega
  have b1 : ((k : Int) % 7 == 1) = false := by rw [beq_eq_false_iff_ne]; omega
  have b2 : ((k : Int) % 7 == 2) = false := by rw [beq_eq_false_iff_ne]; omega
  have b3 : ((k : Int) % 7 == 3) = false := by rw [beq_eq_false_iff_ne]; omega
  have b4 : ((k : Int) % 7 == 4) = false := by rw [beq_eq_false_iff_ne]; omega
  have b5 : ((k : Int) % 7 == 5) = false := by rw [beq_eq_false_iff_ne]; omega
  have HP := Lib.hid (h.boxed (.cells #[.int .u8 k, .string t] 47))
  have hne : ¬ foot b v w.heap.size := fun e => Nat.lt_irrefl _ (h.p.lt _ e)
  have hnu : ¬ foot c u w.heap.size := fun e => Nat.lt_irrefl _ (h.r.lt _ e)
  clear h hr hs
  have HD := Lib.hid HP.out.drew
  go_enter Tryd.func24, Tryd.ntmps24
  go_wp2
  clear b0 b1 b2 b3 b4 b5
  have m0 := M0.out
  have m1 := M1.out
  clear M0 M1
  go_region_held3 (fun w' => w'.cell? ⟨w.heap.size, 0, none⟩ = some (.int .u8 k) ∧ w'.cell? ⟨w.heap.size, 1, none⟩ = some (.string t))
    (first | go_keep | exact ⟨d0, d1⟩ | exact ⟨e0, e1⟩)
    (first
      | (go_at_call 13; refine (kill_p _ _ _ _ t false HD.out.p HD.out.inv HZ.out).mono ?_; rintro e w1 ⟨rfl, v1, ha, hu, hf⟩; have HU1 := Lib.hid (((((Upd.refl (fun k => foot b v k ∨ foot c u k) w).alloc (.cells #[.int .u8 k, .string t] 47)).drew)).then_ hu (fun k hk => .inl (.inl hk))); have HH := Lib.hid (HD.out.half ha hu hf (HD.out.inv.kill t false)); have d0 := hu.cell (a := ⟨w.heap.size, 0, none⟩) (v := .int .u8 k) (by simp) hne; have d1 := hu.cell (a := ⟨w.heap.size, 1, none⟩) (v := .string t) (by simp) hne; clear ha hu hf)
      | (go_at_call 35; refine (kill_r _ _ _ _ t false HH.out.r HH.out.inv HZ.out).mono ?_; rintro e w2 ⟨rfl, u1, ha, hu, hf⟩; have HU2 := Lib.hid (HU1.out.then_ hu (fun k hk => .inl (.inr hk))); have HF := Lib.hid (HH.out.full ha hu hf); have e0 := hu.cell d0 hnu; have e1 := hu.cell d1 hnu; clear ha hu hf))
  go_wp2
  go_ret
  exact ⟨(by simp), _, _, HF.out, HU2.out⟩
set_option maxHeartbeats 1600000 in
theorem play_1 {w0 w : World} {b c : Nat} {v u : Value} {s : RS} (k : Nat) (t : ByteArray) (h : Pair w0 w b c v u s) (hr : k % 7 = 1) (hz : Fit s t) :
    Calls Tryd.prog 24 #[.pointer (some ⟨b, 0, none⟩), .pointer (some ⟨c, 0, none⟩), .agg #[.int .u8 k, .string t]] w fun e w' => e = .returned (.bool true) ∧ ∃ v' u', Pair w0 w' b c v' u' (step s k t) ∧ Upd (fun k => foot b v k ∨ foot c u k) w w' := by
  have HZ := Lib.hid hz
  clear hz
  have m0 : (k : Int) % 7 = 1 := by omega
  have m1 : (k : Int).tmod 7 = 1 := by rw [Int.tmod_eq_emod_of_nonneg (by omega)]; exact m0
  have M0 := Lib.hid m0
  have M1 := Lib.hid m1
  clear m0 m1
  have hs : step s k t = kill s t true := by unfold step; simp only [hr]
  rw [hs]
  have b0 : ((k : Int) % 7 == 0) = false := by rw [beq_eq_false_iff_ne]; omega
  have b1 : ((k : Int) % 7 == 1) = true := by rw [beq_iff_eq]; omega
  have b2 : ((k : Int) % 7 == 2) = false := by rw [beq_eq_false_iff_ne]; omega
  have b3 : ((k : Int) % 7 == 3) = false := by rw [beq_eq_false_iff_ne]; omega
  have b4 : ((k : Int) % 7 == 4) = false := by rw [beq_eq_false_iff_ne]; omega
  have b5 : ((k : Int) % 7 == 5) = false := by rw [beq_eq_false_iff_ne]; omega
  have HP := Lib.hid (h.boxed (.cells #[.int .u8 k, .string t] 47))
  have hne : ¬ foot b v w.heap.size := fun e => Nat.lt_irrefl _ (h.p.lt _ e)
  have hnu : ¬ foot c u w.heap.size := fun e => Nat.lt_irrefl _ (h.r.lt _ e)
  clear h hr hs
  have HD := Lib.hid HP.out.drew
  go_enter Tryd.func24, Tryd.ntmps24
  go_wp2
  clear b0 b1 b2 b3 b4 b5
  have m0 := M0.out
  have m1 := M1.out
  clear M0 M1
  go_region_held3 (fun w' => w'.cell? ⟨w.heap.size, 0, none⟩ = some (.int .u8 k) ∧ w'.cell? ⟨w.heap.size, 1, none⟩ = some (.string t))
    (first | go_keep | exact ⟨d0, d1⟩ | exact ⟨e0, e1⟩)
    (first
      | (go_at_call 13; refine (kill_p _ _ _ _ t true HD.out.p HD.out.inv HZ.out).mono ?_; rintro e w1 ⟨rfl, v1, ha, hu, hf⟩; have HU1 := Lib.hid (((((Upd.refl (fun k => foot b v k ∨ foot c u k) w).alloc (.cells #[.int .u8 k, .string t] 47)).drew)).then_ hu (fun k hk => .inl (.inl hk))); have HH := Lib.hid (HD.out.half ha hu hf (HD.out.inv.kill t true)); have d0 := hu.cell (a := ⟨w.heap.size, 0, none⟩) (v := .int .u8 k) (by simp) hne; have d1 := hu.cell (a := ⟨w.heap.size, 1, none⟩) (v := .string t) (by simp) hne; clear ha hu hf)
      | (go_at_call 35; refine (kill_r _ _ _ _ t true HH.out.r HH.out.inv HZ.out).mono ?_; rintro e w2 ⟨rfl, u1, ha, hu, hf⟩; have HU2 := Lib.hid (HU1.out.then_ hu (fun k hk => .inl (.inr hk))); have HF := Lib.hid (HH.out.full ha hu hf); have e0 := hu.cell d0 hnu; have e1 := hu.cell d1 hnu; clear ha hu hf))
  go_wp2
  go_ret
  exact ⟨(by simp), _, _, HF.out, HU2.out⟩
set_option maxHeartbeats 1600000 in
theorem play_2 {w0 w : World} {b c : Nat} {v u : Value} {s : RS} (k : Nat) (t : ByteArray) (h : Pair w0 w b c v u s) (hr : k % 7 = 2) :
    Calls Tryd.prog 24 #[.pointer (some ⟨b, 0, none⟩), .pointer (some ⟨c, 0, none⟩), .agg #[.int .u8 k, .string t]] w fun e w' => e = .returned (.bool true) ∧ ∃ v' u', Pair w0 w' b c v' u' (step s k t) ∧ Upd (fun k => foot b v k ∨ foot c u k) w w' := by
  have hs : step s k t = copy s t := by unfold step; simp only [hr]
  rw [hs]
  have b0 : ((k : Int) % 7 == 0) = false := by rw [beq_eq_false_iff_ne]; omega
  have b1 : ((k : Int) % 7 == 1) = false := by rw [beq_eq_false_iff_ne]; omega
  have b2 : ((k : Int) % 7 == 2) = true := by rw [beq_iff_eq]; omega
  have b3 : ((k : Int) % 7 == 3) = false := by rw [beq_eq_false_iff_ne]; omega
  have b4 : ((k : Int) % 7 == 4) = false := by rw [beq_eq_false_iff_ne]; omega
  have b5 : ((k : Int) % 7 == 5) = false := by rw [beq_eq_false_iff_ne]; omega
  have HP := Lib.hid (h.boxed (.cells #[.int .u8 k, .string t] 47))
  have hne : ¬ foot b v w.heap.size := fun e => Nat.lt_irrefl _ (h.p.lt _ e)
  have hnu : ¬ foot c u w.heap.size := fun e => Nat.lt_irrefl _ (h.r.lt _ e)
  clear h hr hs
  have HD := Lib.hid HP.out.drew
  go_enter Tryd.func24, Tryd.ntmps24
  go_wp2
  go_region_held3 (fun w' => w'.cell? ⟨w.heap.size, 0, none⟩ = some (.int .u8 k) ∧ w'.cell? ⟨w.heap.size, 1, none⟩ = some (.string t))
    (first | go_keep | exact ⟨d0, d1⟩ | exact ⟨e0, e1⟩)
    (first
      | (go_at_call 11; refine (copy_p _ _ _ _ t HD.out.p HD.out.inv).mono ?_; rintro e w1 ⟨rfl, v1, ha, hu, hf⟩; have HU1 := Lib.hid (((((Upd.refl (fun k => foot b v k ∨ foot c u k) w).alloc (.cells #[.int .u8 k, .string t] 47)).drew)).then_ hu (fun k hk => .inl (.inl hk))); have HH := Lib.hid (HD.out.half ha hu hf (HD.out.inv.copy t)); have d0 := hu.cell (a := ⟨w.heap.size, 0, none⟩) (v := .int .u8 k) (by simp) hne; have d1 := hu.cell (a := ⟨w.heap.size, 1, none⟩) (v := .string t) (by simp) hne; clear ha hu hf)
      | (go_at_call 36; refine (copy_r _ _ _ _ t HH.out.r HH.out.inv).mono ?_; rintro e w2 ⟨rfl, u1, ha, hu, hf⟩; have HU2 := Lib.hid (HU1.out.then_ hu (fun k hk => .inl (.inr hk))); have HF := Lib.hid (HH.out.full ha hu hf); have e0 := hu.cell d0 hnu; have e1 := hu.cell d1 hnu; clear ha hu hf))
  go_wp2
  go_ret
  exact ⟨(by simp), _, _, HF.out, HU2.out⟩
set_option maxHeartbeats 1600000 in
theorem play_3 {w0 w : World} {b c : Nat} {v u : Value} {s : RS} (k : Nat) (t : ByteArray) (h : Pair w0 w b c v u s) (hr : k % 7 = 3) :
    Calls Tryd.prog 24 #[.pointer (some ⟨b, 0, none⟩), .pointer (some ⟨c, 0, none⟩), .agg #[.int .u8 k, .string t]] w fun e w' => e = .returned (.bool true) ∧ ∃ v' u', Pair w0 w' b c v' u' (step s k t) ∧ Upd (fun k => foot b v k ∨ foot c u k) w w' := by
  have hs : step s k t = yank s := by unfold step; simp only [hr]
  rw [hs]
  have b0 : ((k : Int) % 7 == 0) = false := by rw [beq_eq_false_iff_ne]; omega
  have b1 : ((k : Int) % 7 == 1) = false := by rw [beq_eq_false_iff_ne]; omega
  have b2 : ((k : Int) % 7 == 2) = false := by rw [beq_eq_false_iff_ne]; omega
  have b3 : ((k : Int) % 7 == 3) = true := by rw [beq_iff_eq]; omega
  have b4 : ((k : Int) % 7 == 4) = false := by rw [beq_eq_false_iff_ne]; omega
  have b5 : ((k : Int) % 7 == 5) = false := by rw [beq_eq_false_iff_ne]; omega
  have HP := Lib.hid (h.boxed (.cells #[.int .u8 k, .string t] 47))
  have hne : ¬ foot b v w.heap.size := fun e => Nat.lt_irrefl _ (h.p.lt _ e)
  have hnu : ¬ foot c u w.heap.size := fun e => Nat.lt_irrefl _ (h.r.lt _ e)
  clear h hr hs
  go_enter Tryd.func24, Tryd.ntmps24
  go_wp2_with (first
      | (go_at_call 17; refine (yank_p _ _ _ _ HP.out.p).mono ?_; rintro e w1 ⟨rfl, ha, hu⟩; have HU1 := Lib.hid ((((Upd.refl (fun k => foot b v k ∨ foot c u k) w).alloc (.cells #[.int .u8 k, .string t] 47))).then_ hu (fun k hk => .inl (.inl hk))); have HH := Lib.hid (HP.out.half ha hu (Fr.same _ _) HP.out.inv.yank); clear ha hu)
      | (go_at_call 37; refine (yank_r _ _ _ _ HH.out.r).mono ?_; rintro e w2 ⟨rfl, ha, hu⟩; have HU2 := Lib.hid (HU1.out.then_ hu (fun k hk => .inl (.inr hk))); have HF := Lib.hid (HH.out.full ha hu (Fr.same _ _)); clear ha hu))
  go_ret
  exact ⟨(by first | rfl | simp), _, _, HF.out, HU2.out⟩
set_option maxHeartbeats 1600000 in
theorem play_4 {w0 w : World} {b c : Nat} {v u : Value} {s : RS} (k : Nat) (t : ByteArray) (h : Pair w0 w b c v u s) (hr : k % 7 = 4) :
    Calls Tryd.prog 24 #[.pointer (some ⟨b, 0, none⟩), .pointer (some ⟨c, 0, none⟩), .agg #[.int .u8 k, .string t]] w fun e w' => e = .returned (.bool true) ∧ ∃ v' u', Pair w0 w' b c v' u' (step s k t) ∧ Upd (fun k => foot b v k ∨ foot c u k) w w' := by
  have hs : step s k t = pop s := by unfold step; simp only [hr]
  rw [hs]
  have b0 : ((k : Int) % 7 == 0) = false := by rw [beq_eq_false_iff_ne]; omega
  have b1 : ((k : Int) % 7 == 1) = false := by rw [beq_eq_false_iff_ne]; omega
  have b2 : ((k : Int) % 7 == 2) = false := by rw [beq_eq_false_iff_ne]; omega
  have b3 : ((k : Int) % 7 == 3) = false := by rw [beq_eq_false_iff_ne]; omega
  have b4 : ((k : Int) % 7 == 4) = true := by rw [beq_iff_eq]; omega
  have b5 : ((k : Int) % 7 == 5) = false := by rw [beq_eq_false_iff_ne]; omega
  have HP := Lib.hid (h.boxed (.cells #[.int .u8 k, .string t] 47))
  have hne : ¬ foot b v w.heap.size := fun e => Nat.lt_irrefl _ (h.p.lt _ e)
  have hnu : ¬ foot c u w.heap.size := fun e => Nat.lt_irrefl _ (h.r.lt _ e)
  clear h hr hs
  go_enter Tryd.func24, Tryd.ntmps24
  go_wp2_with (first
      | (go_at_call 18; refine (pop_p _ _ _ _ HP.out.p HP.out.inv).mono ?_; rintro e w1 ⟨rfl, ha, hu⟩; have HU1 := Lib.hid ((((Upd.refl (fun k => foot b v k ∨ foot c u k) w).alloc (.cells #[.int .u8 k, .string t] 47))).then_ hu (fun k hk => .inl (.inl hk))); have HH := Lib.hid (HP.out.half ha hu (Fr.same _ _) HP.out.inv.pop); clear ha hu)
      | (go_at_call 38; refine (pop_r _ _ _ _ HH.out.r HH.out.inv).mono ?_; rintro e w2 ⟨rfl, ha, hu⟩; have HU2 := Lib.hid (HU1.out.then_ hu (fun k hk => .inl (.inr hk))); have HF := Lib.hid (HH.out.full ha hu (Fr.same _ _)); clear ha hu))
  go_ret
  exact ⟨(by first | rfl | simp), _, _, HF.out, HU2.out⟩
set_option maxHeartbeats 1600000 in
theorem play_5 {w0 w : World} {b c : Nat} {v u : Value} {s : RS} (k : Nat) (t : ByteArray) (h : Pair w0 w b c v u s) (hr : k % 7 = 5) :
    Calls Tryd.prog 24 #[.pointer (some ⟨b, 0, none⟩), .pointer (some ⟨c, 0, none⟩), .agg #[.int .u8 k, .string t]] w fun e w' => e = .returned (.bool true) ∧ ∃ v' u', Pair w0 w' b c v' u' (step s k t) ∧ Upd (fun k => foot b v k ∨ foot c u k) w w' := by
  have hs : step s k t = stop s := by unfold step; simp only [hr]
  rw [hs]
  have b0 : ((k : Int) % 7 == 0) = false := by rw [beq_eq_false_iff_ne]; omega
  have b1 : ((k : Int) % 7 == 1) = false := by rw [beq_eq_false_iff_ne]; omega
  have b2 : ((k : Int) % 7 == 2) = false := by rw [beq_eq_false_iff_ne]; omega
  have b3 : ((k : Int) % 7 == 3) = false := by rw [beq_eq_false_iff_ne]; omega
  have b4 : ((k : Int) % 7 == 4) = false := by rw [beq_eq_false_iff_ne]; omega
  have b5 : ((k : Int) % 7 == 5) = true := by rw [beq_iff_eq]; omega
  have HP := Lib.hid (h.boxed (.cells #[.int .u8 k, .string t] 47))
  have hne : ¬ foot b v w.heap.size := fun e => Nat.lt_irrefl _ (h.p.lt _ e)
  have hnu : ¬ foot c u w.heap.size := fun e => Nat.lt_irrefl _ (h.r.lt _ e)
  clear h hr hs
  go_enter Tryd.func24, Tryd.ntmps24
  go_wp2_with (first
      | (go_at_call 16; refine (stop_p _ _ _ _ HP.out.p).mono ?_; rintro e w1 ⟨rfl, ha, hu⟩; have HU1 := Lib.hid ((((Upd.refl (fun k => foot b v k ∨ foot c u k) w).alloc (.cells #[.int .u8 k, .string t] 47))).then_ hu (fun k hk => .inl (.inl hk))); have HH := Lib.hid (HP.out.half ha hu (Fr.same _ _) HP.out.inv.stop); clear ha hu)
      | (go_at_call 39; refine (stop_r _ _ _ _ HH.out.r).mono ?_; rintro e w2 ⟨rfl, ha, hu⟩; have HU2 := Lib.hid (HU1.out.then_ hu (fun k hk => .inl (.inr hk))); have HF := Lib.hid (HH.out.full ha hu (Fr.same _ _)); clear ha hu))
  go_ret
  exact ⟨(by first | rfl | simp), _, _, HF.out, HU2.out⟩
set_option maxHeartbeats 1600000 in
theorem play_6 {w0 w : World} {b c : Nat} {v u : Value} {s : RS} (k : Nat) (t : ByteArray) (h : Pair w0 w b c v u s) (hr : k % 7 = 6) :
    Calls Tryd.prog 24 #[.pointer (some ⟨b, 0, none⟩), .pointer (some ⟨c, 0, none⟩), .agg #[.int .u8 k, .string t]] w fun e w' => e = .returned (.bool true) ∧ ∃ v' u', Pair w0 w' b c v' u' (step s k t) ∧ Upd (fun k => foot b v k ∨ foot c u k) w w' := by
  have hs : step s k t = s := by unfold step; simp only [hr]
  rw [hs]
  have b0 : ((k : Int) % 7 == 0) = false := by rw [beq_eq_false_iff_ne]; omega
  have b1 : ((k : Int) % 7 == 1) = false := by rw [beq_eq_false_iff_ne]; omega
  have b2 : ((k : Int) % 7 == 2) = false := by rw [beq_eq_false_iff_ne]; omega
  have b3 : ((k : Int) % 7 == 3) = false := by rw [beq_eq_false_iff_ne]; omega
  have b4 : ((k : Int) % 7 == 4) = false := by rw [beq_eq_false_iff_ne]; omega
  have b5 : ((k : Int) % 7 == 5) = false := by rw [beq_eq_false_iff_ne]; omega
  have HP := Lib.hid (h.boxed (.cells #[.int .u8 k, .string t] 47))
  have hne : ¬ foot b v w.heap.size := fun e => Nat.lt_irrefl _ (h.p.lt _ e)
  have hnu : ¬ foot c u w.heap.size := fun e => Nat.lt_irrefl _ (h.r.lt _ e)
  clear h hr hs
  go_enter Tryd.func24, Tryd.ntmps24
  go_wp2
  go_ret
  exact ⟨rfl, _, _, HP.out, (Upd.refl _ w).alloc _⟩
theorem play {w0 w : World} {b c : Nat} {v u : Value} {s : RS} (k : Nat) (t : ByteArray) (h : Pair w0 w b c v u s) (hz : Fit s t) :
    Calls Tryd.prog 24 #[.pointer (some ⟨b, 0, none⟩), .pointer (some ⟨c, 0, none⟩), .agg #[.int .u8 k, .string t]] w fun e w' => e = .returned (.bool true) ∧ ∃ v' u', Pair w0 w' b c v' u' (step s k t) ∧ Upd (fun k => foot b v k ∨ foot c u k) w w' := by
  have : k % 7 < 7 := Nat.mod_lt _ (by decide)
  rcases (by omega : k % 7 = 0 ∨ k % 7 = 1 ∨ k % 7 = 2 ∨ k % 7 = 3 ∨ k % 7 = 4 ∨ k % 7 = 5 ∨ k % 7 = 6) with e | e | e | e | e | e | e
  · exact play_0 k t h e hz
  · exact play_1 k t h e hz
  · exact play_2 k t h e
  · exact play_3 k t h e
  · exact play_4 k t h e
  · exact play_5 k t h e
  · exact play_6 k t h e
end Both
end Go.Proofs.YtlflohbpdapiiaaDoor
