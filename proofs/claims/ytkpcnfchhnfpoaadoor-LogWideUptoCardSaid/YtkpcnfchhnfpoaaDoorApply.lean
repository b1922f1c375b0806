/- Apply and the reference's. -/
import Derived.Test.YtkpcnfchhnfpoaaDoorDelta
import Derived.Handy
import Derived.WalkSpells
import Derived.WalkLawsBesides
import Derived.Deep.RegionHeld3
import Derived.LoopTactic
import Derived.BigQuiet
import Derived.IntWalk
import Derived.StillTailTactics
set_option linter.unusedVariables false
namespace Go.Proofs.YtkpcnfchhnfpoaaDoor
open Go.RowKit Go.Proofs.YtkpcnfchhnfpoaaDoorW.PrintWords Go.Proofs.YtkpcnfchhnfpoaaDoor.Sep
namespace Log
set_option maxHeartbeats 6400000 in
theorem apply_p (w : World) (text : ByteArray) (A : Option Addr) (n c : Nat) (ds : List Delta) (hr : ReadsD w w.heap.size A n ds) (hn : n ≤ 10000000000000) (hz : text.size + insum ds ≤ 1000000000000000) (ho : ∀ d ∈ ds, d.2.1.size ≤ 1000000000000000) :
    Calls Tryd.prog 11 #[.string text, .slice A n c] w fun e w' => e = .returned (.tuple #[.string (apply text ds).1, .bool (apply text ds).2]) ∧ Below w.heap.size w w' := by
  have HR := Lib.hid hr
  have HO := Lib.hid ho
  obtain ⟨res, hres⟩ : ∃ res, res = apply text ds := ⟨_, rfl⟩
  rw [← hres]
  have HRES := Lib.hid hres
  clear hres hr ho
  go_enter Tryd.func11, Tryd.ntmps11
  go_wp2
  go_loopg [10, 0] n (fun k vi v0 w' => ∃ i : Nat, vi = .int .i64 i ∧ i + k = n ∧ ∃ t : ByteArray, v0 = .string t ∧ Hid (res = apply t (ds.drop i)) ∧ Hid (t.size + insum (ds.drop i) ≤ 1000000000000000) ∧ Hid (Below w.heap.size w w'))
  case atStart => exact ⟨0, rfl, by omega, text, rfl, HRES, Lib.hid hz, Lib.hid (Below.refl _ _)⟩
  case round =>
    clear hz HRES text
    obtain ⟨i, rfl, hik, t, rfl, HRES, HZ, HW⟩ := hrel
    cases gk with
    | zero =>
      have e1 : decide ((i : Int) < (n : Int)) = false := by simp; omega
      have HF : Hid (res = (t, true)) := Lib.hid (by rw [HRES.out, List.drop_eq_nil_of_le (by have := HR.out.1; omega)]; rfl)
      go_wp2
      go_ret2
      exact ⟨(by rw [HF.out]; rfl), HW.out⟩
    | succ k1 =>
      have hi : i < n := by omega
      have e1 : decide ((i : Int) < (n : Int)) = true := by simp [hi]
      have hil : i < ds.length := by rw [HR.out.1]; exact hi
      obtain ⟨g, off, rfl, d0, d1, d2, _⟩ := delta_at HR.out hi
      have hgl : g < w.heap.size := World.block_lt_of_cell? _ _ d0
      have c0 := (HW.out.cell (p := ⟨g, off + i * 3, none⟩) hgl).trans d0
      have c1 := (HW.out.cell (p := ⟨g, off + i * 3 + 1, none⟩) hgl).trans d1
      have c2 := (HW.out.cell (p := ⟨g, off + i * 3 + 2, none⟩) hgl).trans d2
      have hgw : g < wr.heap.size := Nat.lt_of_lt_of_le hgl HW.out.size
      clear d0 d1 d2
      have HDR : Hid (ds.drop i = ds.getD i D0 :: ds.drop (i + 1)) := Lib.hid (by rw [List.drop_eq_getElem_cons hil]; simp [List.getD, hil])
      have hoz : (ds.getD i D0).2.1.size ≤ 1000000000000000 := HO.out _ (by simp [List.getD, hil])
      have hsz : t.size ≤ 1000000000000000 ∧ t.size + (ds.getD i D0).2.2.size + insum (ds.drop (i + 1)) ≤ 1000000000000000 := by
        have := HZ.out
        rw [HDR.out] at this
        unfold insum at this ⊢
        simp only [List.map_cons, List.sum_cons] at this
        omega
      have HRES2 : Hid (res = if apOk t (ds.getD i D0) = true then apply (apDo t (ds.getD i D0)) (ds.drop (i + 1)) else (⟨#[]⟩, false)) := Lib.hid (by rw [HRES.out, HDR.out]; rfl)
      clear HZ HRES HDR
      generalize ds.getD i D0 = x at *
      obtain ⟨a, o, p⟩ := x
      dsimp only at c0 c1 c2 hoz hsz HRES2
      obtain ⟨hsz1, hsz2⟩ := hsz
      have hok : apOk t (a, o, p) = (decide (0 ≤ a) && decide (a ≤ (t.size : Int)) && decide ((o.size : Int) ≤ (t.size : Int) - a) && ((t.extract a.toNat (a.toNat + o.size)).toList == o.toList)) := rfl
      by_cases h1 : a < 0
      · have HF : Hid (res = (⟨#[]⟩, false)) := Lib.hid (by rw [HRES2.out, if_neg (by rw [hok]; simp; omega)])
        clear hok
        go_wp2
        go_quiet (fail)
        go_wp2
        go_ret2
        exact ⟨(by rw [HF.out]; rfl), Below.alloc_drew HW.out _ _⟩
      · obtain ⟨k, rfl⟩ : ∃ k : Nat, a = k := ⟨a.toNat, by omega⟩
        have b5 : decide ((k : Int) < 0) = false := by simp
        by_cases h2 : t.size < k
        · have b6 : decide (t.size < k) = true := by simp [h2]
          have HF : Hid (res = (⟨#[]⟩, false)) := Lib.hid (by rw [HRES2.out, if_neg (by rw [hok]; simp; omega)])
          clear hok h1 h2
          go_wp2
          go_quiet (fail)
          go_wp2
          go_ret2
          exact ⟨(by rw [HF.out]; rfl), Below.alloc_drew HW.out _ _⟩
        · have b2 : k ≤ t.size := by omega
          have b6 : decide (t.size < k) = false := by simp; omega
          obtain ⟨r, hr⟩ : ∃ r, r = t.size - k := ⟨_, rfl⟩
          have bw : IntKind.i64.wrap ((t.size : Int) - (k : Int)) = (r : Int) := by rw [IntKind.wrap_i64]; omega
          by_cases h3 : r < o.size
          · have HF : Hid (res = (⟨#[]⟩, false)) := Lib.hid (by rw [HRES2.out, if_neg (by rw [hok]; simp; omega)])
            clear hok h1
            have b3 : decide (r < o.size) = true := by simp [h3]
            clear h3 hr
            go_wp2
            go_quiet (fail)
            go_wp2
            go_ret2
            exact ⟨(by rw [HF.out]; rfl), Below.alloc_drew HW.out _ _⟩
          · have b3 : decide (r < o.size) = false := by simp; omega
            have b4 : k + o.size ≤ t.size := by omega
            obtain ⟨q, hq⟩ : ∃ q, q = k + o.size := ⟨_, rfl⟩
            have bx : IntKind.i64.wrap ((k : Int) + (o.size : Int)) = (q : Int) := by rw [IntKind.wrap_i64]; omega
            have bq1 : k ≤ q := by omega
            have bq2 : q ≤ t.size := by omega
            rw [← hq] at b4
            have HQ := Lib.hid hq
            clear hq hr
            cases hx : (t.extract k q).toList == o.toList with
            | false =>
              have HF : Hid (res = (⟨#[]⟩, false)) := Lib.hid (by rw [HRES2.out, if_neg (by rw [hok, Int.toNat_natCast, ← HQ.out, hx]; simp)])
              have hx2 : ((t.extract k q).toList != o.toList) = true := by rw [bne, hx]; rfl
              clear hok h1 h3
              go_wp2
              go_quiet (fail)
              go_wp2
              go_ret2
              exact ⟨(by rw [HF.out]; rfl), Below.alloc_drew HW.out _ _⟩
            | true =>
              have hok2 : apOk t ((k : Int), o, p) = true := by rw [hok, Int.toNat_natCast, ← HQ.out, hx]; have := HQ.out; simp; omega
              have HF : Hid (res = apply (apDo t ((k : Int), o, p)) (ds.drop (i + 1))) := Lib.hid (by rw [HRES2.out, if_pos hok2])
              have HZ2 : Hid ((apDo t ((k : Int), o, p)).size + insum (ds.drop (i + 1)) ≤ 1000000000000000) := Lib.hid (by have := apDo_size t _ hok2; dsimp only at this; omega)
              have HDO : Hid (apDo t ((k : Int), o, p) = t.extract 0 k ++ p ++ t.extract q t.size) := Lib.hid (by rw [HQ.out]; rfl)
              have hx2 : ((t.extract k q).toList != o.toList) = false := by rw [bne, hx]; rfl
              have s1 : (t.extract 0 k).size + p.size ≤ 9223372036854775807 := by rw [ByteArray.size_extract]; omega
              have s2 : (t.extract 0 k ++ p).size + (t.extract q t.size).size ≤ 9223372036854775807 := by rw [ByteArray.size_append, ByteArray.size_extract, ByteArray.size_extract]; omega
              clear hok hok2 h1 h3
              go_wp2
              go_quiet (fail)
              go_wp2
              go_quiet (fail)
              go_wp2
              go_roundg k1
              case measure => omega
              case rel => exact ⟨i + 1, by simp, by omega, _, rfl, (by rw [HDO.out] at HF; exact HF), (by rw [HDO.out] at HZ2; exact HZ2), Lib.hid (Below.alloc_drew HW.out _ _)⟩
set_option maxHeartbeats 6400000 in
theorem apply_d (w : World) (text : ByteArray) (A : Option Addr) (n c : Nat) (ds : List Delta) (hr : ReadsD w w.heap.size A n ds) (hn : n ≤ 10000000000000) (hz : text.size + insum ds ≤ 1000000000000000) (ho : ∀ d ∈ ds, d.2.1.size ≤ 1000000000000000) :
    Calls Tryd.prog 13 #[.string text, .slice A n c] w fun e w' => e = .returned (.tuple #[.string (apply text ds).1, .bool (apply text ds).2]) ∧ Below w.heap.size w w' := by
  have HR := Lib.hid hr
  have HO := Lib.hid ho
  obtain ⟨res, hres⟩ : ∃ res, res = apply text ds := ⟨_, rfl⟩
  rw [← hres]
  have HRES := Lib.hid hres
  clear hres hr ho
  go_enter Tryd.func13, Tryd.ntmps13
  go_wp2
  go_loopg [6, 0] n (fun k vi v0 w' => ∃ i : Nat, vi = .int .i64 i ∧ i + k = n ∧ ∃ t : ByteArray, v0 = .string t ∧ Hid (res = apply t (ds.drop i)) ∧ Hid (t.size + insum (ds.drop i) ≤ 1000000000000000) ∧ Hid (Below w.heap.size w w'))
  case atStart => exact ⟨0, rfl, by omega, text, rfl, HRES, Lib.hid hz, Lib.hid (Below.refl _ _)⟩
  case round =>
    clear hz HRES text
    obtain ⟨i, rfl, hik, t, rfl, HRES, HZ, HW⟩ := hrel
    cases gk with
    | zero =>
      have e1 : decide ((i : Int) < (n : Int)) = false := by simp; omega
      have HF : Hid (res = (t, true)) := Lib.hid (by rw [HRES.out, List.drop_eq_nil_of_le (by have := HR.out.1; omega)]; rfl)
      go_wp2
      go_ret2
      exact ⟨(by rw [HF.out]; rfl), HW.out⟩
    | succ k1 =>
      have hi : i < n := by omega
      have e1 : decide ((i : Int) < (n : Int)) = true := by simp [hi]
      have hil : i < ds.length := by rw [HR.out.1]; exact hi
      obtain ⟨g, off, rfl, d0, d1, d2, _⟩ := delta_at HR.out hi
      have hgl : g < w.heap.size := World.block_lt_of_cell? _ _ d0
      have c0 := (HW.out.cell (p := ⟨g, off + i * 3, none⟩) hgl).trans d0
      have c1 := (HW.out.cell (p := ⟨g, off + i * 3 + 1, none⟩) hgl).trans d1
      have c2 := (HW.out.cell (p := ⟨g, off + i * 3 + 2, none⟩) hgl).trans d2
      have hgw : g < wr.heap.size := Nat.lt_of_lt_of_le hgl HW.out.size
      clear d0 d1 d2
      have HDR : Hid (ds.drop i = ds.getD i D0 :: ds.drop (i + 1)) := Lib.hid (by rw [List.drop_eq_getElem_cons hil]; simp [List.getD, hil])
      have hoz : (ds.getD i D0).2.1.size ≤ 1000000000000000 := HO.out _ (by simp [List.getD, hil])
      have hsz : t.size ≤ 1000000000000000 ∧ t.size + (ds.getD i D0).2.2.size + insum (ds.drop (i + 1)) ≤ 1000000000000000 := by
        have := HZ.out
        rw [HDR.out] at this
        unfold insum at this ⊢
        simp only [List.map_cons, List.sum_cons] at this
        omega
      have HRES2 : Hid (res = if apOk t (ds.getD i D0) = true then apply (apDo t (ds.getD i D0)) (ds.drop (i + 1)) else (⟨#[]⟩, false)) := Lib.hid (by rw [HRES.out, HDR.out]; rfl)
      clear HZ HRES HDR
      generalize ds.getD i D0 = x at *
      obtain ⟨a, o, p⟩ := x
      dsimp only at c0 c1 c2 hoz hsz HRES2
      obtain ⟨hsz1, hsz2⟩ := hsz
      have hok : apOk t (a, o, p) = (decide (0 ≤ a) && decide (a ≤ (t.size : Int)) && decide ((o.size : Int) ≤ (t.size : Int) - a) && ((t.extract a.toNat (a.toNat + o.size)).toList == o.toList)) := rfl
      by_cases h1 : a < 0
      · have HF : Hid (res = (⟨#[]⟩, false)) := Lib.hid (by rw [HRES2.out, if_neg (by rw [hok]; simp; omega)])
        clear hok
        go_wp2
        go_quiet (fail)
        go_wp2
        go_ret2
        exact ⟨(by rw [HF.out]; rfl), Below.alloc_drew HW.out _ _⟩
      · obtain ⟨k, rfl⟩ : ∃ k : Nat, a = k := ⟨a.toNat, by omega⟩
        have b5 : decide ((k : Int) < 0) = false := by simp
        by_cases h2 : t.size < k
        · have b6 : decide (t.size < k) = true := by simp [h2]
          have HF : Hid (res = (⟨#[]⟩, false)) := Lib.hid (by rw [HRES2.out, if_neg (by rw [hok]; simp; omega)])
          clear hok h1 h2
          go_wp2
          go_quiet (fail)
          go_wp2
          go_ret2
          exact ⟨(by rw [HF.out]; rfl), Below.alloc_drew HW.out _ _⟩
        · have b2 : k ≤ t.size := by omega
          have b6 : decide (t.size < k) = false := by simp; omega
          obtain ⟨r, hr⟩ : ∃ r, r = t.size - k := ⟨_, rfl⟩
          have bw : IntKind.i64.wrap ((t.size : Int) - (k : Int)) = (r : Int) := by rw [IntKind.wrap_i64]; omega
          by_cases h3 : r < o.size
          · have HF : Hid (res = (⟨#[]⟩, false)) := Lib.hid (by rw [HRES2.out, if_neg (by rw [hok]; simp; omega)])
            clear hok h1
            have b3 : decide (r < o.size) = true := by simp [h3]
            clear h3 hr
            go_wp2
            go_quiet (fail)
            go_wp2
            go_ret2
            exact ⟨(by rw [HF.out]; rfl), Below.alloc_drew HW.out _ _⟩
          · have b3 : decide (r < o.size) = false := by simp; omega
            have b4 : k + o.size ≤ t.size := by omega
            obtain ⟨q, hq⟩ : ∃ q, q = k + o.size := ⟨_, rfl⟩
            have bx : IntKind.i64.wrap ((k : Int) + (o.size : Int)) = (q : Int) := by rw [IntKind.wrap_i64]; omega
            have bq1 : k ≤ q := by omega
            have bq2 : q ≤ t.size := by omega
            rw [← hq] at b4
            have HQ := Lib.hid hq
            clear hq hr
            cases hx : (t.extract k q).toList == o.toList with
            | false =>
              have HF : Hid (res = (⟨#[]⟩, false)) := Lib.hid (by rw [HRES2.out, if_neg (by rw [hok, Int.toNat_natCast, ← HQ.out, hx]; simp)])
              have hx2 : ((t.extract k q).toList != o.toList) = true := by rw [bne, hx]; rfl
              clear hok h1 h3
              go_wp2
              go_quiet (fail)
              go_wp2
              go_ret2
              exact ⟨(by rw [HF.out]; rfl), Below.alloc_drew HW.out _ _⟩
            | true =>
              have hok2 : apOk t ((k : Int), o, p) = true := by rw [hok, Int.toNat_natCast, ← HQ.out, hx]; have := HQ.out; simp; omega
              have HF : Hid (res = apply (apDo t ((k : Int), o, p)) (ds.drop (i + 1))) := Lib.hid (by rw [HRES2.out, if_pos hok2])
              have HZ2 : Hid ((apDo t ((k : Int), o, p)).size + insum (ds.drop (i + 1)) ≤ 1000000000000000) := Lib.hid (by have := apDo_size t _ hok2; dsimp only at this; omega)
              have HDO : Hid (apDo t ((k : Int), o, p) = t.extract 0 k ++ p ++ t.extract q t.size) := Lib.hid (by rw [HQ.out]; rfl)
              have hx2 : ((t.extract k q).toList != o.toList) = false := by rw [bne, hx]; rfl
              have s1 : (t.extract 0 k).size + p.size ≤ 9223372036854775807 := by rw [ByteArray.size_extract]; omega
              have s2 : (t.extract 0 k ++ p).size + (t.extract q t.size).size ≤ 9223372036854775807 := by rw [ByteArray.size_append, ByteArray.size_extract, ByteArray.size_extract]; omega
              clear hok hok2 h1 h3
              go_wp2
              go_quiet (fail)
              go_wp2
              go_quiet (fail)
              go_wp2
              go_roundg k1
              case measure => omega
              case rel => exact ⟨i + 1, by simp, by omega, _, rfl, (by rw [HDO.out] at HF; exact HF), (by rw [HDO.out] at HZ2; exact HZ2), Lib.hid (Below.alloc_drew HW.out _ _)⟩
end Log
end Go.Proofs.YtkpcnfchhnfpoaaDoor
