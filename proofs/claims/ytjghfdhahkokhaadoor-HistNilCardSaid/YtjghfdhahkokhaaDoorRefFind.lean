/- The document's history: Find, and last. -/
import Derived.Test.YtjghfdhahkokhaaDoorRefH2
import Derived.Test.YtjghfdhahkokhaaDoorFind
set_option linter.unusedVariables false
namespace Go.Proofs.YtjghfdhahkokhaaDoor
open Go.RowKit Go.Proofs.YtjghfdhahkokhaaDoorW.PrintWords Go.Proofs.YtjghfdhahkokhaaDoor.Sep Go.Proofs.YtjghfdhahkokhaaDoor.Libs
namespace RefH
open Hist (HS Inv E OwnO fnd lim)
set_option maxHeartbeats 1600000 in
theorem last_ (w : World) (s part : ByteArray) (hs : s.size ≤ 1000000000000000) (hp : part.size ≤ 1000000000000000) :
    Calls Tryd.prog 51 #[.string s, .string part] w fun e w' => e = .returned (.int .i64 (Lib.lastIndex s.data.toList part.data.toList)) ∧ w = w' := by
  have es : s.data.toList.length = s.size := by simp
  have ep : part.data.toList.length = part.size := by simp
  obtain ⟨res, hres⟩ : ∃ res, res = Lib.lastIndex s.data.toList part.data.toList := ⟨_, rfl⟩
  rw [← hres]
  unfold Lib.lastIndex at hres
  rw [es, ep] at hres
  by_cases hle : part.size ≤ s.size
  · rw [if_pos hle] at hres
    have HRES := Lib.hid hres
    clear hres es ep
    obtain ⟨d, hd⟩ : ∃ d, d = s.size - part.size := ⟨_, rfl⟩
    rw [← hd] at HRES
    have hd2 : (s.size : Int) - part.size = d := by omega
    have hd3 : s.size = d + part.size := by omega
    have HD3 := Lib.hid hd3
    have hd4 : d ≤ 1000000000000000 := by omega
    clear hd hd3
    go_enter Tryd.func51, Tryd.ntmps51
    go_wp2
    go_loopg [5] (d + 1) (fun k v5 w' => v5 = .int .i64 ((k : Int) - 1) ∧ k ≤ d + 1 ∧ Hid (res = Lib.lastOcc s.data.toList part.data.toList k) ∧ w = w')
    case atStart => exact ⟨by simp, Nat.le_refl _, HRES, rfl⟩
    case round =>
      clear HRES
      obtain ⟨rfl, hk, HRES, rfl⟩ := hrel
      cases gk with
      | zero =>
        have HE1 : Hid (res = -1) := Lib.hid HRES.out
        go_wp2
        go_ret
        exact ⟨(by rw [HE1.out]; rfl), rfl⟩
      | succ k1 =>
        have hkk : k1 + part.size ≤ s.size := by have := HD3.out; omega
        have HC := Lib.hid (Hist.cut_eq s part k1 hkk)
        have HR2 : Hid (res = if Lib.occAt s.data.toList part.data.toList k1 = true then (k1 : Int) else Lib.lastOcc s.data.toList part.data.toList k1) := Lib.hid HRES.out
        cases ho : Lib.occAt s.data.toList part.data.toList k1 with
        | true =>
          have HE1 : Hid (res = (k1 : Int)) := Lib.hid (by rw [HR2.out, if_pos ho])
          have hcc : ((s.extract k1 (k1 + part.size)).toList == part.toList) = true := by rw [HC.out, ho]
          clear HR2 HRES ho HC
          go_wp2
          go_ret
          exact ⟨(by rw [HE1.out]; show Ending.returned (.int .i64 (((k1 + 1 : Nat) : Int) - 1)) = _; congr 2; omega), rfl⟩
        | false =>
          have HR3 : Hid (res = Lib.lastOcc s.data.toList part.data.toList k1) := Lib.hid (by rw [HR2.out, if_neg (by simp [ho])])
          have hcc : ((s.extract k1 (k1 + part.size)).toList == part.toList) = false := by rw [HC.out, ho]
          clear HR2 HRES ho HC
          go_wp2
          go_roundg k1
          case measure => omega
          case rel => exact ⟨by simp, by omega, HR3, rfl⟩
  · rw [if_neg hle] at hres
    have HRES := Lib.hid hres
    have hneg : (s.size : Int) - part.size < 0 := by omega
    clear hres es ep
    go_enter Tryd.func51, Tryd.ntmps51
    go_wp2
    go_loopg [5] 0 (fun k v5 w' => v5 = .int .i64 ((s.size : Int) - part.size) ∧ w = w')
    case atStart => exact ⟨rfl, rfl⟩
    case round =>
      obtain ⟨rfl, rfl⟩ := hrel
      go_wp2
      go_ret
      exact ⟨(by rw [HRES.out]; rfl), rfl⟩
section
variable {w w' : World} {b : Nat} {r : Pr} {s : HS}
set_option maxHeartbeats 1600000 in
theorem find_ (h : At w b r s) (hi : Inv s) (part : ByteArray) (below : Int) (hp : part.size ≤ 1000000000000000) (hz : ∀ i, i < s.ents.length → (s.ents.getD i E).size ≤ 1000000000000000) :
    Calls Tryd.prog 44 #[.pointer (some ⟨b, 0, none⟩), .string part, .int .i64 below] w fun e w' => e = .returned (.tuple #[.int .i64 (Hist.find s part below).1, .int .i64 (Hist.find s part below).2.1, .int .i64 (Hist.find s part below).2.2]) ∧ w = w' := by
  have hl1 := hi.l1
  obtain ⟨c0, c1, c2, c3, hf⟩ := h.cells
  obtain ⟨A, c, hv, hlc⟩ := h.2.1.form
  rw [hv] at c1
  have HO := Lib.hid (show OwnO w (.slice A s.ents.length c) s.ents by rw [← hv]; exact h.2.1)
  have HZ := Lib.hid hz
  clear h hz hv
  have hm : min (max below 0) (s.ents.length : Int) = (lim s below : Int) := by unfold lim; omega
  have hm2 : lim s below ≤ s.ents.length := by unfold lim; omega
  rcases (show part.toList.isEmpty = true ∨ part.toList.isEmpty = false by cases part.toList.isEmpty <;> simp) with hpe | hpe
  · have HF : Hid (Hist.find s part below = (0, 0, 10)) := Lib.hid (if_pos hpe)
    rw [HF.out]
    generalize lim s below = m at *
    go_enter Tryd.func44, Tryd.ntmps44
    go_wp2
    go_loopg [9] 0 (fun k v9 w' => v9 = .int .i64 ((m : Int) - 1) ∧ w = w')
    case atStart => exact ⟨rfl, rfl⟩
    case round =>
      obtain ⟨rfl, rfl⟩ := hrel
      by_cases h0 : 0 < m
      · have e1 : decide (0 ≤ (m : Int) - 1) = true := by simp; omega
        go_wp2
        go_ret3
        exact ⟨rfl, rfl⟩
      · have e1 : decide (0 ≤ (m : Int) - 1) = false := by simp; omega
        go_wp2
        go_ret3
        exact ⟨rfl, rfl⟩
  · have HF : Hid (Hist.find s part below = fnd s.ents part.data.toList (lim s below)) := Lib.hid (if_neg (by simp [hpe]))
    rw [HF.out]
    generalize lim s below = m at *
    clear HF
    obtain ⟨res, hres⟩ : ∃ res, res = fnd s.ents part.data.toList m := ⟨_, rfl⟩
    rw [← hres]
    have HRES := Lib.hid hres
    clear hres
    go_enter Tryd.func44, Tryd.ntmps44
    go_wp2
    go_loopg [9] m (fun k v9 w' => v9 = .int .i64 ((k : Int) - 1) ∧ k ≤ m ∧ Hid (res = fnd s.ents part.data.toList k) ∧ w = w')
    case atStart => exact ⟨rfl, Nat.le_refl _, HRES, rfl⟩
    case round =>
      clear HRES
      obtain ⟨rfl, hk, HRES, rfl⟩ := hrel
      cases gk with
      | zero =>
        have HE1 : Hid (res = (0, 0, 10)) := Lib.hid HRES.out
        go_wp2
        go_ret3
        exact ⟨(by rw [HE1.out]; rfl), rfl⟩
      | succ k1 =>
        have hzk := HZ.out k1 (by omega)
        obtain ⟨g, off, c', hA, _⟩ := HO.out.some_ (by omega)
        injection hA with hA1 hA2 hA3
        subst hA1; subst hA3; clear hA2
        have hc := HO.out.cell_ (k := k1) (by omega) rfl
        have HR2 : Hid (res = if 0 ≤ Lib.lastIndex (s.ents.getD k1 E).data.toList part.data.toList then ((k1 : Int), Lib.lastIndex (s.ents.getD k1 E).data.toList part.data.toList, 0) else fnd s.ents part.data.toList k1) := Lib.hid HRES.out
        have HX := fun w => Lib.hid (last_ w (s.ents.getD k1 E) part hzk hp)
        generalize s.ents.getD k1 E = x at *
        generalize Lib.lastIndex x.data.toList part.data.toList = at' at *
        clear hzk
        by_cases hat : 0 ≤ at'
        · have e2 := HR2.out
          rw [if_pos hat] at e2
          have HE1 := Lib.hid e2
          clear HR2 HRES e2
          go_wp2_with (go_at_call 51; refine (HX _).out.mono ?_; rintro e w' ⟨rfl, rfl⟩)
          go_ret3
          exact ⟨(by rw [HE1.out]; rfl), rfl⟩
        · have e2 := HR2.out
          rw [if_neg hat] at e2
          have HR3 := Lib.hid e2
          clear HR2 HRES e2
          go_wp2_with (go_at_call 51; refine (HX _).out.mono ?_; rintro e w' ⟨rfl, rfl⟩)
          go_roundg k1
          case measure => omega
          case rel => exact ⟨by simp, by omega, HR3, rfl⟩
end
end RefH
end Go.Proofs.YtjghfdhahkokhaaDoor
