/- The walk of HistNil: a nil history keeps nothing; the zero one is as New(0)'s. -/
import Derived.Test.YtjghfdhahkokhaaDoorPlaysH
set_option linter.unusedVariables false
namespace Go.Proofs.YtjghfdhahkokhaaDoor
open Go.RowKit Go.Proofs.YtjghfdhahkokhaaDoorW.PrintWords Go.Proofs.YtjghfdhahkokhaaDoor.Sep Go.Proofs.YtjghfdhahkokhaaDoor.Libs
namespace Hist
theorem nil_find (w : World) (part : ByteArray) (n : Int) : Calls Tryd.prog 29 #[.pointer none, .string part, .int .i64 n] w fun e w' => e = .returned (.tuple #[.int .i64 0, .int .i64 0, .int .i64 10]) ∧ w = w' := by
  rcases (show part.toList.isEmpty = true ∨ part.toList.isEmpty = false by cases part.toList.isEmpty <;> simp) with hp | hp
  · go_enter Tryd.func29, Tryd.ntmps29
    go_wp2
    go_ret3
    exact ⟨rfl, rfl⟩
  · have hm : min (max n 0) 0 = 0 := by omega
    go_enter Tryd.func29, Tryd.ntmps29
    go_wp2_with (go_at_call 18; refine (nil_len _).mono ?_; rintro e w' ⟨rfl, rfl⟩)
    go_loopg [9] 0 (fun k v9 w' => v9 = .int .i64 (-1) ∧ w = w')
    case atStart => exact ⟨rfl, rfl⟩
    case round =>
      obtain ⟨rfl, rfl⟩ := hrel
      go_wp2
      go_ret3
      exact ⟨rfl, rfl⟩
theorem zero_at (w : World) : At (w.alloc (.cells #[.int .i64 0, .slice none 0 0, .int .i64 0, .map none] 53)) w.heap.size r0 (start 0) := by
  have e : start 0 = ⟨0, [], 0, []⟩ := by unfold start; congr 1
  rw [e]
  exact ⟨Blk.new _ _ _, Own.nil _, .inl ⟨rfl, rfl⟩, fun g hg => by cases hg⟩
theorem zero_h {W w : World} (hb : Below W.heap.size W w) : HB W (w.alloc (.cells #[.int .i64 0, .slice none 0 0, .int .i64 0, .map none] 53)) w.heap.size r0 (start 0) :=
  ⟨zero_at w, fun k hk => Nat.le_trans hb.size (foot_r0 (Nat.le_refl _) k hk), hb.trans ((Below.refl _ _).alloc hb.size _), Inv.start 0⟩
set_option maxHeartbeats 6400000 in
set_option maxRecDepth 100000 in
theorem nils (W : World) (A : Option Addr) (l cp : Nat) (xs : List OpV) (hx : xs.length = l) (hr : Reads W W.heap.size 3 A l (xs.flatMap opCells)) (hc : l ≤ cp) (hl : l ≤ 10000000000000) (hm : ∀ u ∈ xs, u.2.1.size ≤ 1000000000000000) :
    Calls Tryd.prog 9 #[.slice A l cp] W fun e W' => e = .returned (.bool true) ∧ Below W.heap.size W W' := by
  have HR := Lib.hid hr
  have HX := Lib.hid hx
  have HM : Hid (∀ i, i < l → (xs.getD i (0, E, 0)).2.1.size ≤ 1000000000000000) := Lib.hid (fun i hi => by
    refine hm _ ?_
    have : i < xs.length := by omega
    simp [List.getD, this])
  clear hr hm hx
  go_enter Tryd.func9, Tryd.ntmps9
  go_wp2_with (first
    | (go_at_call 10; refine (awake W).mono ?_; rintro e w1 ⟨rfl, hb⟩; have HW := Lib.hid hb; have HZ := Lib.hid (zero_h hb); clear hb)
    | (go_at_call 23; refine (new_pair 0 HZ.out.below HZ.out).mono ?_; rintro e w5 ⟨c, rfl, hp⟩; have HP5 := Lib.hid hp; clear hp))
  have HS0 : Hid (Sm (start 0)) := Lib.hid (fun i hi => by simp [start] at hi)
  generalize start 0 = s00 at *
  go_loopg [6] l (fun k v6 w' => ∃ i : Nat, v6 = .int .i64 i ∧ i + k = l ∧ ∃ s r q, Hid (Pair W w' w1.heap.size c r q s s) ∧ Hid (Sm s))
  case atStart => exact ⟨0, rfl, by omega, _, _, _, HP5, HS0⟩
  case round =>
    clear HP5 HS0 HZ
    obtain ⟨i, rfl, hik, s, r, q, HP, HSm⟩ := hrel
    rename World => wz
    cases gk with
    | zero =>
      have e1 : decide ((i : Int) < (l : Int)) = false := by simp; omega
      go_wp2
      go_ret
      exact ⟨rfl, HP.out.below⟩
    | succ k1 =>
      have hi : i < l := by omega
      have e1 : decide ((i : Int) < (l : Int)) = true := by simp [hi]
      obtain ⟨g, off, rfl, d0, d1, d2, hg⟩ := op_at HR.out HX.out HP.out.below hi
      have HT := Lib.hid (HM.out i hi)
      generalize xs.getD i (0, E, 0) = u at d0 d1 d2 HT
      obtain ⟨k, t, m⟩ := u
      dsimp only at d0 d1 d2 HT
      have hne : ¬ foots w1.heap.size c r q wz.heap.size := fun e => e.elim (fun h => Nat.lt_irrefl _ (HP.out.p.lt _ h)) (fun h => Nat.lt_irrefl _ (HP.out.d.lt _ h))
      by_cases hm0 : m = 0
      · subst hm0
        have HPo := Lib.hid (HP.out.later ((Below.refl wz.heap.size wz).alloc (Nat.le_refl _) (.cells #[.int .i64 k, .string t, .int .i64 0] 49)))
        go_wp2_with (first
          | (go_at_call 31; refine (step_ HPo.out k t 0 HSm.out HT.out).mono ?_; rintro e w7 ⟨rfl, r7, q7, hp, hu, hf⟩; have f0 := hu.cell (a := ⟨wz.heap.size, 0, none⟩) (v := .int .i64 k) (by simp) hne; have f1 := hu.cell (a := ⟨wz.heap.size, 1, none⟩) (v := .string t) (by simp) hne; have f2 := hu.cell (a := ⟨wz.heap.size, 2, none⟩) (v := .int .i64 0) (by simp) hne; have HP7 := Lib.hid hp; have HS7 := Lib.hid (HSm.out.stp k t 0 HT.out); clear hp hu hf)
          | (go_at_call 19; refine (nil_go _ 0 t).mono ?_; rw [if_pos rfl]; rintro e w8 ⟨rfl, hb⟩; have g1 := (hb.cell (p := ⟨wz.heap.size, 1, none⟩) (World.block_lt_of_cell? _ _ f1)).trans f1; have g2 := (hb.cell (p := ⟨wz.heap.size, 2, none⟩) (World.block_lt_of_cell? _ _ f2)).trans f2; have HP8 := Lib.hid (HP7.out.later hb); clear hb f0 f1 f2)
          | (go_at_call 13; refine (nil_back _ t).mono ?_; rintro e w9 ⟨rfl, rfl⟩)
          | (go_at_call 15; refine (nil_forth _ t).mono ?_; rintro e w9 ⟨rfl, rfl⟩)
          | (go_at_call 29; refine (nil_find _ t 0).mono ?_; rintro e w9 ⟨rfl, rfl⟩)
          | (go_at_call 21; refine (nil_entry _ 0).mono ?_; rintro e w9 ⟨rfl, rfl⟩)
          | (go_at_call 17; refine (nil_home _).mono ?_; rintro e w9 ⟨rfl, rfl⟩)
          | (go_at_call 24; refine (nil_add _ t).mono ?_; rintro e w9 ⟨rfl, rfl⟩)
          | (go_at_call 18; refine (nil_len _).mono ?_; rintro e w9 ⟨rfl, rfl⟩)
          | (go_at_call 14; refine (nil_place _).mono ?_; rintro e w9 ⟨rfl, rfl⟩)
          | (go_at_call 20; refine (nil_drafts _).mono ?_; rintro e w9 ⟨rfl, rfl⟩)
          | (go_at_call 28; refine (nil_bound _).mono ?_; rintro e w9 ⟨rfl, rfl⟩)
          | (go_at_call 12; refine (nil_entries _).mono ?_; rintro e w9 ⟨rfl, rfl⟩))
        go_roundg k1
        case measure => omega
        case rel => exact ⟨i + 1, by simp, by omega, _, _, _, HP8, HS7⟩
      · have HM0 := Lib.hid hm0
        have m1 : (m == 0) = false := by rw [beq_eq_false_iff_ne]; exact hm0
        have m2 : (m != 0) = true := by rw [bne_iff_ne]; exact hm0
        clear hm0
        have HPo := Lib.hid (HP.out.later ((Below.refl wz.heap.size wz).alloc (Nat.le_refl _) (.cells #[.int .i64 k, .string t, .int .i64 m] 49)))
        go_wp2_with (first
          | (go_at_call 31; refine (step_ HPo.out k t m HSm.out HT.out).mono ?_; rintro e w7 ⟨rfl, r7, q7, hp, hu, hf⟩; have f0 := hu.cell (a := ⟨wz.heap.size, 0, none⟩) (v := .int .i64 k) (by simp) hne; have f1 := hu.cell (a := ⟨wz.heap.size, 1, none⟩) (v := .string t) (by simp) hne; have f2 := hu.cell (a := ⟨wz.heap.size, 2, none⟩) (v := .int .i64 m) (by simp) hne; have HP7 := Lib.hid hp; have HS7 := Lib.hid (HSm.out.stp k t m HT.out); clear hp hu hf)
          | (go_at_call 19; refine (nil_go _ m t).mono ?_; rw [if_neg HM0.out]; rintro e w8 ⟨rfl, hb⟩; have g1 := (hb.cell (p := ⟨wz.heap.size, 1, none⟩) (World.block_lt_of_cell? _ _ f1)).trans f1; have g2 := (hb.cell (p := ⟨wz.heap.size, 2, none⟩) (World.block_lt_of_cell? _ _ f2)).trans f2; have HP8 := Lib.hid (HP7.out.later hb); clear hb f0 f1 f2)
          | (go_at_call 13; refine (nil_back _ t).mono ?_; rintro e w9 ⟨rfl, rfl⟩)
          | (go_at_call 15; refine (nil_forth _ t).mono ?_; rintro e w9 ⟨rfl, rfl⟩)
          | (go_at_call 29; refine (nil_find _ t m).mono ?_; rintro e w9 ⟨rfl, rfl⟩)
          | (go_at_call 21; refine (nil_entry _ m).mono ?_; rintro e w9 ⟨rfl, rfl⟩)
          | (go_at_call 17; refine (nil_home _).mono ?_; rintro e w9 ⟨rfl, rfl⟩)
          | (go_at_call 24; refine (nil_add _ t).mono ?_; rintro e w9 ⟨rfl, rfl⟩)
          | (go_at_call 18; refine (nil_len _).mono ?_; rintro e w9 ⟨rfl, rfl⟩)
          | (go_at_call 14; refine (nil_place _).mono ?_; rintro e w9 ⟨rfl, rfl⟩)
          | (go_at_call 20; refine (nil_drafts _).mono ?_; rintro e w9 ⟨rfl, rfl⟩)
          | (go_at_call 28; refine (nil_bound _).mono ?_; rintro e w9 ⟨rfl, rfl⟩)
          | (go_at_call 12; refine (nil_entries _).mono ?_; rintro e w9 ⟨rfl, rfl⟩))
        go_roundg k1
        case measure => omega
        case rel => exact ⟨i + 1, by simp, by omega, _, _, _, HP8, HS7⟩
theorem nils_row (W : World) (A : Option Addr) (l cp : Nat) (xs : List OpV) (hr : Reads W W.heap.size 3 A l (xs.flatMap opCells)) (hc : l ≤ cp) (hm : ∀ u ∈ xs, u.2.1.size ≤ reachBytes) (y : l * 32 ≤ reachBytes) :
    Calls Tryd.prog 9 #[.slice A l cp] W fun e W' => e = .returned (.bool true) ∧ Below W.heap.size W W' := by
  have e : reachBytes = 140737488351232 := by rfl
  have hx : xs.length = l := by
    have h1 := hr.1
    rw [Opens.flat_len opCells 3 (fun _ => rfl)] at h1
    omega
  exact nils W A l cp xs hx hr hc (by omega) (fun u hu => by have := hm u hu; omega)
end Hist
end Go.Proofs.YtjghfdhahkokhaaDoor
