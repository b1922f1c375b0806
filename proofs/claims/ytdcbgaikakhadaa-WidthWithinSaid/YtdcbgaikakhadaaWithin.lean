/- The contract of width.within at runes: it tells whether the binary search finds a range that holds the number. -/
import Derived.Test.YtdcbgaikakhadaaProg
import Derived.WalkKit
import Derived.KernelRfl
import Derived.Deep.LoopGhost
import Derived.Deep.QuietTactic
import Derived.BigQuiet
import Derived.Lib.Hide
import Derived.Test.YtdcbgaikakhadaaWWords
namespace Go.Proofs.Ytdcbgaikakhadaa.Within
open Go.RowKit Go.Proofs.YtdcbgaikakhadaaW.PrintWords

set_option maxHeartbeats 400000 in
theorem clo (k : Int) (A0 : Option Addr) (c0 : Nat) (l0 : List Int) (c : Int) (b2 b3 : Nat) (w : World) (h2 : w.cell? ⟨b2, 0, none⟩ = some (.slice A0 l0.length c0)) (h3 : w.cell? ⟨b3, 0, none⟩ = some (.int .i32 c))
    (hr : Kd.C (Kd.int .i32) w A0 l0.length l0) (h0 : 0 ≤ k) (h1 : 2 * k + 1 < (l0.length : Int)) (hm : l0.length ≤ 1000000) :
    Calls Try.prog 24 #[.int .i64 k, .pointer (some ⟨b2, 0, none⟩), .pointer (some ⟨b3, 0, none⟩)] w fun e w' => e = .returned (.bool (decide (c ≤ rd l0 (2 * k + 1)))) ∧ ∃ m, w' = w.drewN m := by
  obtain ⟨ad, rfl, hc⟩ := Kd.at_int hr (2 * k + 1) (by omega) h1
  have e1 : IntKind.i64.wrap (2 * k) = 2 * k := IntWalk.i64_in _ (by omega)
  have e2 : IntKind.i64.wrap (2 * k + 1) = 2 * k + 1 := IntWalk.i64_in _ (by omega)
  have p1 : 0 ≤ 2 * k + 1 := by omega
  clear hm
  go_enter Try.func24, Try.ntmps24
  go_wp2
  go_quiet (fail)
  go_wp2
  go_ret
  exact ⟨rfl, _, rfl⟩

/-- The binary search: the least place from i up to j at which p holds, if p is false and then true. -/
def srch (p : Int → Bool) : Nat → Int → Int → Int
  | 0, i, _ => i
  | k + 1, i, j => if i < j then (if p ((i + j) / 2) = true then srch p k i ((i + j) / 2) else srch p k ((i + j) / 2 + 1) j) else i

theorem srch_le (p : Int → Bool) : ∀ k i j, i ≤ j → i ≤ srch p k i j ∧ srch p k i j ≤ j
  | 0, i, j, h => ⟨Int.le_refl _, h⟩
  | k + 1, i, j, h => by
    unfold srch
    split
    · split
      · have := srch_le p k i ((i + j) / 2) (by omega); omega
      · have := srch_le p k ((i + j) / 2 + 1) j (by omega); omega
    · exact ⟨Int.le_refl _, h⟩

theorem srch_done (p : Int → Bool) (k : Nat) (i j : Int) (h : ¬ i < j) : srch p k i j = i := by
  cases k with
  | zero => rfl
  | succ k => unfold srch; rw [if_neg h]

theorem srch_more (p : Int → Bool) : ∀ k m i j, (j - i).toNat ≤ k → k ≤ m → srch p m i j = srch p k i j
  | 0, m, i, j, h, _ => by rw [srch_done p m i j (by omega), srch_done p 0 i j (by omega)]
  | k + 1, 0, _, _, _, h => by omega
  | k + 1, m + 1, i, j, h, hm => by
    unfold srch
    split
    · split
      · exact srch_more p k m _ _ (by omega) (by omega)
      · exact srch_more p k m _ _ (by omega) (by omega)
    · rfl

theorem srch_yes (p : Int → Bool) (i j : Int) (h : i < j) (hp : p ((i + j) / 2) = true) : srch p (j - i).toNat i j = srch p ((i + j) / 2 - i).toNat i ((i + j) / 2) := by
  obtain ⟨k, hk⟩ : ∃ k, (j - i).toNat = k + 1 := ⟨(j - i).toNat - 1, by omega⟩
  rw [hk]; conv => lhs; unfold srch
  rw [if_pos h, if_pos hp]
  exact srch_more p ((i + j) / 2 - i).toNat k i ((i + j) / 2) (Nat.le_refl _) (by omega)
theorem srch_no (p : Int → Bool) (i j : Int) (h : i < j) (hp : p ((i + j) / 2) = false) : srch p (j - i).toNat i j = srch p (j - ((i + j) / 2 + 1)).toNat ((i + j) / 2 + 1) j := by
  obtain ⟨k, hk⟩ : ∃ k, (j - i).toNat = k + 1 := ⟨(j - i).toNat - 1, by omega⟩
  rw [hk]; conv => lhs; unfold srch
  rw [if_pos h, if_neg (by simp [hp])]
  exact srch_more p (j - ((i + j) / 2 + 1)).toNat k ((i + j) / 2 + 1) j (Nat.le_refl _) (by omega)

set_option maxHeartbeats 800000 in
theorem search (n : Int) (p : Int → Bool) (b2 b3 : Value) (w : World) (hn0 : 0 ≤ n) (hn : n ≤ 1000000)
    (hf : ∀ (k : Int) (W : World), 0 ≤ k → k < n → Drawn0 w W → Calls Try.prog 24 #[.int .i64 k, b2, b3] W fun e w' => e = .returned (.bool (p k)) ∧ ∃ m, w' = W.drewN m) :
    Calls Try.prog 23 #[.int .i64 n, .func (.func 24) #[] #[b2, b3]] w fun e w' => e = .returned (.int .i64 (srch p n.toNat 0 n)) ∧ Drawn0 w w' := by
  go_enter Try.func23, Try.ntmps23
  go_wp2
  go_loopw [5, 6] (fun vi vj W => ∃ i j : Int, vi = .int .i64 i ∧ vj = .int .i64 j ∧ 0 ≤ i ∧ i ≤ j ∧ j ≤ n ∧ Hid (srch p n.toNat 0 n = srch p (j - i).toNat i j) ∧ Drawn0 w W) (fun vi vj _ => (intOf vj - intOf vi).toNat)
  case atStart => exact ⟨0, n, rfl, rfl, by omega, hn0, by omega, by simp [Hid], Drawn0.refl _⟩
  case round =>
    obtain ⟨i, j, rfl, rfl, h0, h1, h2, hh, hd⟩ := hrel
    have HF := Lib.hid hf
    clear hf
    by_cases hlt : i < j
    · have hb1 : 0 ≤ (i + j) / 2 := by omega
      have hb2 : (i + j) / 2 < n := by omega
      have hb3 : (i + j) / 2 < j := by omega
      have hb4 : i ≤ (i + j) / 2 := by omega
      cases hp : p ((i + j) / 2) with
      | true =>
        have HP := Lib.hid (srch_yes p i j hlt hp)
        go_wp2_with (go_at_call 24; refine (HF.out _ _ hb1 hb2 hd).mono ?_; rintro e w' ⟨rfl, m, rfl⟩; simp only [hp])
        go_roundw
        case measure => simp [intOf]; omega
        case rel => exact ⟨i, (i + j) / 2, rfl, rfl, h0, hb4, by omega, hh.out.trans HP.out, hd.step _⟩
      | false =>
        have HP := Lib.hid (srch_no p i j hlt hp)
        go_wp2_with (go_at_call 24; refine (HF.out _ _ hb1 hb2 hd).mono ?_; rintro e w' ⟨rfl, m, rfl⟩; simp only [hp])
        go_roundw
        case measure => simp [intOf]; omega
        case rel => exact ⟨(i + j) / 2 + 1, j, rfl, rfl, by omega, by omega, by omega, hh.out.trans HP.out, hd.step _⟩
    · obtain rfl : i = j := by omega
      have HI : Hid (srch p n.toNat 0 n = i) := hh.out.trans (srch_done p _ i i (by omega))
      go_wp2
      go_ret
      exact ⟨by rw [HI.out]; rfl, hd⟩

def pt (l : List Int) (c : Int) (k : Int) : Bool := decide (c ≤ rd l (2 * k + 1))
def place (l : List Int) (c : Int) : Int := srch (pt l c) ((l.length : Int) / 2).toNat 0 ((l.length : Int) / 2)
def withinF (l : List Int) (c : Int) : Bool := if place l c < (l.length : Int) / 2 then decide (rd l (2 * place l c) ≤ c) else false

theorem withinF_lt (l : List Int) (c i : Int) (hi : place l c = i) (h : i < (l.length : Int) / 2) : withinF l c = decide (rd l (2 * i) ≤ c) := by unfold withinF; rw [hi, if_pos h]
theorem withinF_ge (l : List Int) (c i : Int) (hi : place l c = i) (h : ¬ i < (l.length : Int) / 2) : withinF l c = false := by unfold withinF; rw [hi, if_neg h]

set_option maxHeartbeats 800000 in
theorem within (A0 : Option Addr) (c0 : Nat) (l0 : List Int) (c : Int) (w : World) (hr : Kd.C (Kd.int .i32) w A0 l0.length l0) (hm : l0.length ≤ 1000000) :
    Calls Try.prog 18 #[.slice A0 l0.length c0, .int .i32 c] w fun e w' => e = .returned (.bool (withinF l0 c)) ∧ Below w.heap.size w w' := by
  obtain ⟨i, hi⟩ : ∃ i, place l0 c = i := ⟨_, rfl⟩
  have hle : 0 ≤ i ∧ i ≤ (l0.length : Int) / 2 := by rw [← hi]; exact srch_le (pt l0 c) ((l0.length : Int) / 2).toNat 0 ((l0.length : Int) / 2) (by omega)
  obtain ⟨hle0, hle1⟩ := hle
  have hb := ((Below.refl w.heap.size w).alloc (Nat.le_refl _) (.cells #[.slice A0 l0.length c0] 23)).alloc (by simp) (.cells #[.int .i32 c] 21)
  have hr2 : Kd.C (Kd.int .i32) ((w.alloc (.cells #[.slice A0 l0.length c0] 23)).alloc (.cells #[.int .i32 c] 21)) A0 l0.length l0 := Kd.C_below hr hb
  have HC := Lib.hid (search ((l0.length : Int) / 2) (pt l0 c) (.pointer (some ⟨w.heap.size, 0, none⟩)) (.pointer (some ⟨w.heap.size + 1, 0, none⟩)) ((w.alloc (.cells #[.slice A0 l0.length c0] 23)).alloc (.cells #[.int .i32 c] 21)) (by omega) (by omega) (by
    rintro k W h0 h1 ⟨m, rfl⟩
    exact clo k A0 c0 l0 c _ _ _ (by go_simp) (by go_simp) hr2 h0 (by omega) hm))
  have HI := Lib.hid hi
  have HR := Lib.hid hr2
  have HB := Lib.hid hb
  clear hi hr hr2 hb
  by_cases hlt : i < (l0.length : Int) / 2
  · have HW := Lib.hid (withinF_lt l0 c i HI.out hlt)
    obtain ⟨ad, rfl, hc⟩ := Kd.at_int HR.out (2 * i) (by omega) (by omega)
    have e1 : IntKind.i64.wrap (2 * i) = 2 * i := IntWalk.i64_in _ (by omega)
    have p1 : 0 ≤ 2 * i := by omega
    have q1 : 2 * i < (l0.length : Int) := by omega
    go_enter Try.func18, Try.ntmps18
    go_wp2_with (go_at_call 23; refine HC.out.mono ?_; rintro e w' ⟨rfl, m, rfl⟩; rw [show srch (pt l0 c) ((l0.length : Int) / 2).toNat 0 ((l0.length : Int) / 2) = i from HI.out])
    go_quiet (fail)
    go_wp2
    go_ret
    exact ⟨by rw [HW.out]; rfl, pw_below_drewN (pw_below_drewN HB.out _) _⟩
  · have HW := Lib.hid (withinF_ge l0 c i HI.out hlt)
    have hd : decide (i < (l0.length : Int) / 2) = false := by simpa using hlt
    go_enter Try.func18, Try.ntmps18
    go_wp2_with (go_at_call 23; refine HC.out.mono ?_; rintro e w' ⟨rfl, m, rfl⟩; rw [show srch (pt l0 c) ((l0.length : Int) / 2).toNat 0 ((l0.length : Int) / 2) = i from HI.out])
    go_quiet (fail)
    go_wp2
    go_ret
    exact ⟨by rw [HW.out]; rfl, pw_below_drewN (pw_below_drewN HB.out _) _⟩
end Go.Proofs.Ytdcbgaikakhadaa.Within
