/- The program's history: Find; begins. -/
import Derived.Test.YtjghfdhahkokhaaDoorAwake
import Derived.Shelf.Strings.LastIndexAll
set_option linter.unusedVariables false
namespace Go.Proofs.YtjghfdhahkokhaaDoor
open Go.RowKit Go.Proofs.YtjghfdhahkokhaaDoorW.PrintWords Go.Proofs.YtjghfdhahkokhaaDoor.Sep Go.Proofs.YtjghfdhahkokhaaDoor.Libs
def lixRen : Go.Shelf.Ren := ⟨fun | 148 => 40 | 222 => 48 | 223 => 49 | 269 => 57 | n => n, fun | 3 => 3 | 4 => 4 | 5 => 5 | 9 => 9 | 46 => 80 | 51 => 74 | 146 => 75 | n => n, fun | n => n⟩
theorem lixLays : Go.Proofs.Lays.n148 Tryd.prog lixRen := {
  mixed := by kernel_rfl
  f148 := Tryd.func40.trans (congrArg some (by kernel_rfl))
  f222 := Tryd.func48.trans (congrArg some (by kernel_rfl))
  f223 := Tryd.func49.trans (congrArg some (by kernel_rfl))
  f269 := Tryd.func57.trans (congrArg some (by kernel_rfl))
  t3 := Tryd.underlying3
  a3 := Tryd.isAgg3
  z3 := Tryd.sizeOf3
  v3 := Tryd.zeroValue3
  t4 := Tryd.underlying4
  a4 := Tryd.isAgg4
  z4 := Tryd.sizeOf4
  v4 := Tryd.zeroValue4
  t5 := Tryd.underlying5
  a5 := Tryd.isAgg5
  z5 := Tryd.sizeOf5
  v5 := Tryd.zeroValue5
  t9 := Tryd.underlying9
  a9 := Tryd.isAgg9
  z9 := Tryd.sizeOf9
  v9 := Tryd.zeroValue9
  t46 := Tryd.underlying80
  a46 := Tryd.isAgg80
  z46 := Tryd.sizeOf80
  v46 := Tryd.zeroValue80
  t51 := Tryd.underlying74
  a51 := Tryd.isAgg74
  z51 := Tryd.sizeOf74
  v51 := Tryd.zeroValue74
  t146 := Tryd.underlying75
  a146 := Tryd.isAgg75
  z146 := Tryd.sizeOf75
  v146 := Tryd.zeroValue75 }
namespace Hist
theorem lix (s sub : ByteArray) (hs : s.size < 4611686018427387904) (w : World) : Calls Tryd.prog 40 #[.string s, .string sub] w fun e w' => e = .returned (.int .i64 (Lib.lastIndex s.data.toList sub.data.toList)) ∧ w' = w :=
  Any.strings_LastIndex lixLays s sub hs w
/-- What is found: among the first k entries. -/
def fnd (es : List ByteArray) (part : List UInt8) : Nat → Int × Int × Int
  | 0 => (0, 0, 10)
  | k + 1 => if 0 ≤ Lib.lastIndex (es.getD k E).data.toList part then ((k : Int), Lib.lastIndex (es.getD k E).data.toList part, 0) else fnd es part k
def lim (s : HS) (below : Int) : Nat := (min (max below 0) (s.ents.length : Int)).toNat
def find (s : HS) (part : ByteArray) (below : Int) : Int × Int × Int := if part.toList.isEmpty = true then (0, 0, 10) else fnd s.ents part.data.toList (lim s below)
theorem data_toList (s : ByteArray) : s.toList = s.data.toList := by rw [ByteArray.toList_eq]
set_option maxHeartbeats 1600000 in
theorem find_ {w : World} {b : Nat} {r : Pr} {s : HS} (h : At w b r s) (hi : Inv s) (part : ByteArray) (below : Int) (hz : ∀ i, i < s.ents.length → (s.ents.getD i E).size < 4611686018427387904) :
    Calls Tryd.prog 29 #[.pointer (some ⟨b, 0, none⟩), .string part, .int .i64 below] w fun e w' => e = .returned (.tuple #[.int .i64 (find s part below).1, .int .i64 (find s part below).2.1, .int .i64 (find s part below).2.2]) ∧ w = w' := by
  have hl1 := hi.l1
  have HL := Lib.hid (len w b r s h)
  obtain ⟨c0, c1, c2, c3, hf⟩ := h.cells
  obtain ⟨A, c, hv, hlc⟩ := h.2.1.form
  rw [hv] at c1
  have HO := Lib.hid (show Own w (.slice A s.ents.length c) s.ents by rw [← hv]; exact h.2.1)
  have HZ := Lib.hid hz
  clear h hz hv
  rcases (show part.toList.isEmpty = true ∨ part.toList.isEmpty = false by cases part.toList.isEmpty <;> simp) with hp | hp
  · have HF : Hid (find s part below = (0, 0, 10)) := Lib.hid (if_pos hp)
    rw [HF.out]
    go_enter Tryd.func29, Tryd.ntmps29
    go_wp2
    go_ret3
    exact ⟨rfl, rfl⟩
  · have HF : Hid (find s part below = fnd s.ents part.data.toList (lim s below)) := Lib.hid (if_neg (by simp [hp]))
    rw [HF.out]
    have hm : min (max below 0) (s.ents.length : Int) = (lim s below : Int) := by unfold lim; omega
    have hm2 : lim s below ≤ s.ents.length := by unfold lim; omega
    generalize lim s below = m at *
    clear HF
    obtain ⟨res, hres⟩ : ∃ res, res = fnd s.ents part.data.toList m := ⟨_, rfl⟩
    rw [← hres]
    have HRES := Lib.hid hres
    clear hres
    go_enter Tryd.func29, Tryd.ntmps29
    go_wp2_with (go_at_call 18; refine HL.out.mono ?_; rintro e w' ⟨rfl, rfl⟩)
    go_loopg [9] m (fun k v9 w' => v9 = .int .i64 ((k : Int) - 1) ∧ k ≤ m ∧ Hid (res = fnd s.ents part.data.toList k) ∧ w = w')
    case atStart => exact ⟨rfl, Nat.le_refl _, HRES, rfl⟩
    case round =>
      clear HRES
      obtain ⟨rfl, hk, HRES, rfl⟩ := hrel
      cases gk with
      | zero =>
        have HE1 : Hid (res = (0, 0, 10)) := Lib.hid HRES.out
        go_wp2
        go_ret3
        exact ⟨(by rw [HE1.out]; rfl), rfl⟩
      | succ k1 =>
        obtain ⟨g, rfl, hc, _, _⟩ := Own.at_ HO.out (k := k1) (by omega)
        have hzk := HZ.out k1 (by omega)
        have HR2 : Hid (res = if 0 ≤ Lib.lastIndex (s.ents.getD k1 E).data.toList part.data.toList then ((k1 : Int), Lib.lastIndex (s.ents.getD k1 E).data.toList part.data.toList, 0) else fnd s.ents part.data.toList k1) := Lib.hid HRES.out
        have HX := Lib.hid (lix (s.ents.getD k1 E) part hzk)
        generalize s.ents.getD k1 E = x at *
        generalize Lib.lastIndex x.data.toList part.data.toList = at' at *
        clear hzk
        by_cases hat : 0 ≤ at'
        · have e2 := HR2.out
          rw [if_pos hat] at e2
          have HE1 := Lib.hid e2
          clear HR2 HRES e2
          go_wp2_with (go_at_call 40; refine (HX.out _).mono ?_; rintro e w' ⟨rfl, rfl⟩)
          go_ret3
          exact ⟨(by rw [HE1.out]; rfl), rfl⟩
        · have e2 := HR2.out
          rw [if_neg hat] at e2
          have HR3 := Lib.hid e2
          clear HR2 HRES e2
          go_wp2_with (go_at_call 40; refine (HX.out _).mono ?_; rintro e w' ⟨rfl, rfl⟩)
          go_roundg k1
          case measure => omega
          case rel => exact ⟨by simp, by omega, HR3, rfl⟩
/-! Where a part begins. -/
def beg (s part : ByteArray) (j : Int) : Bool := decide (0 ≤ j) && decide (j ≤ (s.size : Int) - part.size) && Lib.occAt s.data.toList part.data.toList j.toNat
theorem prefix_take {α : Type} [BEq α] [LawfulBEq α] : ∀ (a l : List α), a.isPrefixOf l = (l.take a.length == a)
  | [], l => by simp
  | x :: a, [] => by simp
  | x :: a, y :: l => by
    simp only [List.isPrefixOf, List.length_cons, List.take_succ_cons, prefix_take a l]
    rw [Bool.eq_iff_iff]
    simp only [Bool.and_eq_true, beq_iff_eq, List.cons.injEq]
    constructor
    · rintro ⟨rfl, h⟩; exact ⟨rfl, h⟩
    · rintro ⟨rfl, h⟩; exact ⟨rfl, h⟩
theorem cut_eq (s part : ByteArray) (j : Nat) (hj : j + part.size ≤ s.size) : ((s.extract j (j + part.size)).toList == part.toList) = Lib.occAt s.data.toList part.data.toList j := by
  unfold Lib.occAt
  rw [prefix_take, data_toList, data_toList]
  have e : (s.extract j (j + part.size)).data.toList = (s.data.toList.drop j).take part.data.toList.length := by
    rw [ByteArray.data_extract, Array.toList_extract, List.extract_eq_take_drop, Nat.add_sub_cancel_left]
    congr 1
  rw [e]
theorem begins_ (w : World) (s part : ByteArray) (j : Int) (hs : s.size ≤ 1000000000000000) (hp : part.size ≤ 1000000000000000) (hj : -1000000000000000 ≤ j ∧ j ≤ 1000000000000000) :
    Calls Tryd.prog 30 #[.string s, .string part, .int .i64 j] w fun e w' => e = .returned (.bool (beg s part j)) ∧ w = w' := by
  unfold beg
  obtain ⟨hj0, hj1⟩ := hj
  by_cases h0 : 0 ≤ j
  · by_cases h1 : j ≤ (s.size : Int) - part.size
    · obtain ⟨k, rfl⟩ : ∃ k : Nat, j = k := ⟨j.toNat, by omega⟩
      have hk : k + part.size ≤ s.size := by omega
      have HC := Lib.hid (cut_eq s part k hk)
      go_enter Tryd.func30, Tryd.ntmps30
      go_wp2
      go_ret
      refine ⟨?_, rfl⟩
      have e1 : decide (0 ≤ (k : Int)) = true := by simp
      have e2 : decide ((k : Int) ≤ (s.size : Int) - part.size) = true := by simp; omega
      rw [e1, e2, Bool.true_and, Bool.true_and, Int.toNat_natCast, ← HC.out]
      rfl
    · have e2 : decide (j ≤ (s.size : Int) - part.size) = false := by simp; omega
      go_enter Tryd.func30, Tryd.ntmps30
      go_wp2
      go_ret
      exact ⟨rfl, rfl⟩
  · have e2 : decide (0 ≤ j) = false := by simp; omega
    go_enter Tryd.func30, Tryd.ntmps30
    go_wp2
    go_ret
    exact ⟨rfl, rfl⟩
/-! What was found, told of begins. -/
theorem beg_last {s part : ByteArray} {j : Int} (h : beg s part j = true) : j ≤ Lib.lastIndex s.data.toList part.data.toList := by
  unfold beg at h
  simp only [Bool.and_eq_true, decide_eq_true_eq] at h
  obtain ⟨⟨h0, h1⟩, h2⟩ := h
  have es : s.data.toList.length = s.size := by simp
  have ep : part.data.toList.length = part.size := by simp
  unfold Lib.lastIndex
  rw [es, ep, if_pos (by omega)]
  rcases Lib.lastOcc_spec s.data.toList part.data.toList (s.size - part.size + 1) with ⟨_, h3⟩ | ⟨i, hi, h3, _, h5⟩
  · rw [h3 j.toNat (by omega)] at h2
    cases h2
  · rw [h3]
    rcases Nat.lt_or_ge i j.toNat with h6 | h6
    · rw [h5 j.toNat h6 (by omega)] at h2
      cases h2
    · omega
theorem last_beg {s part : ByteArray} (h : 0 ≤ Lib.lastIndex s.data.toList part.data.toList) : beg s part (Lib.lastIndex s.data.toList part.data.toList) = true ∧ Lib.lastIndex s.data.toList part.data.toList ≤ s.size := by
  have es : s.data.toList.length = s.size := by simp
  have ep : part.data.toList.length = part.size := by simp
  unfold Lib.lastIndex at h ⊢
  rw [es, ep] at h ⊢
  split at h
  · next hle =>
    rw [if_pos hle]
    rcases Lib.lastOcc_spec s.data.toList part.data.toList (s.size - part.size + 1) with ⟨h3, _⟩ | ⟨i, hi, h3, h4, _⟩
    · rw [h3] at h; omega
    · rw [h3]
      unfold beg
      simp only [Bool.and_eq_true, decide_eq_true_eq, Int.toNat_natCast]
      exact ⟨⟨⟨by omega, by omega⟩, h4⟩, by omega⟩
  · omega
theorem fnd_spec (es : List ByteArray) (part : List UInt8) : ∀ m : Nat, (fnd es part m = (0, 0, 10) ∧ ∀ k, k < m → ¬ 0 ≤ Lib.lastIndex (es.getD k E).data.toList part) ∨
    ∃ i : Nat, i < m ∧ fnd es part m = ((i : Int), Lib.lastIndex (es.getD i E).data.toList part, 0) ∧ 0 ≤ Lib.lastIndex (es.getD i E).data.toList part ∧ ∀ k, i < k → k < m → ¬ 0 ≤ Lib.lastIndex (es.getD k E).data.toList part
  | 0 => .inl ⟨rfl, fun k h => absurd h (Nat.not_lt_zero _)⟩
  | m + 1 => by
    unfold fnd
    by_cases h : 0 ≤ Lib.lastIndex (es.getD m E).data.toList part
    · rw [if_pos h]
      exact .inr ⟨m, by omega, rfl, h, fun k h1 h2 => by omega⟩
    · rw [if_neg h]
      rcases fnd_spec es part m with ⟨h1, h2⟩ | ⟨i, hi, h1, h2, h3⟩
      · refine .inl ⟨h1, fun k hk => ?_⟩
        rcases Nat.lt_or_ge k m with h4 | h4
        · exact h2 k h4
        · obtain rfl : k = m := by omega
          exact h
      · refine .inr ⟨i, by omega, h1, h2, fun k h4 h5 => ?_⟩
        rcases Nat.lt_or_ge k m with h6 | h6
        · exact h3 k h4 h6
        · obtain rfl : k = m := by omega
          exact h
end Hist
end Go.Proofs.YtjghfdhahkokhaaDoor
