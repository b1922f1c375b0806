/- The document's ring: Yank, Pop, Clone; SameTexts. -/
import Derived.Test.YtlflohbpdapiiaaDoorRef2
import Derived.Deep.RegionWith
import Derived.Deep.LoopGhost
set_option linter.unusedVariables false
namespace Go.Proofs.YtlflohbpdapiiaaDoor.Ref
open Go.RowKit Go.Proofs.YtlflohbpdapiiaaDoorW.PrintWords Go.Proofs.YtlflohbpdapiiaaDoor.Sep Go.Proofs.YtlflohbpdapiiaaDoor.Libs
open Go.Proofs.YtlflohbpdapiiaaDoor.Ring (RS foot joined)

theorem yank_none (w : World) (b : Nat) (v : Value) (s : RS) (h : At w b v s) (hl : s.ents.length = 0) :
    Calls Tryd.prog 37 #[.pointer (some ⟨b, 0, none⟩)] w fun e w' => e = .returned (.tuple #[.string ⟨#[]⟩, .int .i64 5]) ∧ (w.setCell ⟨b, 3, none⟩ (.int .i64 0)).setCell ⟨b, 2, none⟩ (.int .i64 0) = w' := by
  obtain ⟨c0, c1, c2, c3, hf⟩ := h.cells
  obtain ⟨A, c, hv, hlc⟩ := h.2.form
  rw [hl] at hv
  subst hv
  clear h hl hlc
  go_enter Tryd.func37, Tryd.ntmps37
  go_wp2
  go_ret2
  exact ⟨rfl, rfl⟩
set_option maxHeartbeats 800000 in
theorem yank_some (w : World) (b : Nat) (v : Value) (s : RS) (h : At w b v s) (hl : 0 < s.ents.length) :
    Calls Tryd.prog 37 #[.pointer (some ⟨b, 0, none⟩)] w fun e w' => e = .returned (.tuple #[.string (s.ents.getD 0 ByteArray.empty), .int .i64 0]) ∧ (w.setCell ⟨b, 3, none⟩ (.int .i64 0)).setCell ⟨b, 2, none⟩ (.int .i64 2) = w' := by
  have h0 : ((s.ents.length : Int) == 0) = false := by rw [beq_eq_false_iff_ne]; omega
  obtain ⟨c0, c1, c2, c3, hf⟩ := h.cells
  obtain ⟨g, c, rfl, hlc, hcells, hfr⟩ := h.2.some_ hl
  have hg0 := hcells 0 hl
  have hne : g ≠ b := fun e => h.ne (by rw [e]; rfl)
  generalize s.ents.getD 0 ByteArray.empty = x at *
  clear h hcells hfr
  go_enter Tryd.func37, Tryd.ntmps37
  go_wp2
  go_ret2
  exact ⟨rfl, rfl⟩
theorem pop_none (w : World) (b : Nat) (v : Value) (s : RS) (h : At w b v s) (hs : (s.state == 2) = false) :
    Calls Tryd.prog 38 #[.pointer (some ⟨b, 0, none⟩)] w fun e w' => e = .returned (.tuple #[.string ⟨#[]⟩, .string ⟨#[]⟩, .int .i64 6]) ∧ (w.setCell ⟨b, 2, none⟩ (.int .i64 0)).setCell ⟨b, 3, none⟩ (.int .i64 0) = w' := by
  obtain ⟨c0, c1, c2, c3, hf⟩ := h.cells
  have hs2 : (s.state != 2) = true := by simpa using hs
  clear h
  go_enter Tryd.func38, Tryd.ntmps38
  go_wp2
  go_ret3
  exact ⟨rfl, rfl⟩
set_option maxHeartbeats 800000 in
theorem pop_some (w : World) (b : Nat) (v : Value) (s : RS) (h : At w b v s) (hs : (s.state == 2) = true) (hp0 : 0 ≤ s.place) (hp1 : s.place < (s.ents.length : Int)) (hn : s.ents.length ≤ 100000) :
    Calls Tryd.prog 38 #[.pointer (some ⟨b, 0, none⟩)] w fun e w' => e = .returned (.tuple #[.string (s.ents.getD s.place.toNat ByteArray.empty), .string (s.ents.getD ((s.place + 1) % s.ents.length).toNat ByteArray.empty), .int .i64 0]) ∧ At w' b v { s with place := (s.place + 1) % s.ents.length } ∧ Upd (foot b v) w w' := by
  have HA := Lib.hid h
  have hs2 : (s.state != 2) = false := by simpa using hs
  obtain ⟨c0, c1, c2, c3, hf⟩ := h.cells
  obtain ⟨g, c, rfl, hlc, hcells, hfr⟩ := h.2.some_ (by omega)
  have hq0 : 0 ≤ (s.place + 1) % (s.ents.length : Int) := Int.emod_nonneg _ (by omega)
  have hq1 : (s.place + 1) % (s.ents.length : Int) < (s.ents.length : Int) := Int.emod_lt_of_pos _ (by omega)
  generalize hq : (s.place + 1) % (s.ents.length : Int) = q at *
  have hg0 := hcells s.place.toNat (by omega)
  have hg1 := hcells q.toNat (by omega)
  have hne : g ≠ b := fun e => h.ne (by rw [e]; rfl)
  have hm0 : ¬ ((s.ents.length : Int) = 0) := by omega
  generalize s.ents.getD s.place.toNat ByteArray.empty = x at *
  generalize s.ents.getD q.toNat ByteArray.empty = y at *
  clear h hcells hfr
  go_enter Tryd.func38, Tryd.ntmps38
  go_wp2
  go_quiet (fail)
  go_wp2
  go_region
  all_goals
    go_wp2
    go_quiet (fail)
    go_wp2
    go_ret3
    exact ⟨rfl, HA.out.setPlace q, ((((Upd.refl _ w).drewN _).setCell (p := ⟨b, 3, none⟩) (.inl (.inl rfl)) _).drewN _)⟩
theorem At.drew {w : World} {b : Nat} {v : Value} {s : RS} (h : At w b v s) : At w.drew b v s := h
set_option maxHeartbeats 800000 in
theorem clone_ring (w : World) (b : Nat) (v : Value) (s : RS) (h : At w b v s) (hn : s.ents.length ≤ 100000) :
    Calls Tryd.prog 23 #[.pointer (some ⟨b, 0, none⟩)] w fun e w' => ∃ b' v', e = .returned (.pointer (some ⟨b', 0, none⟩)) ∧ At w' b' v' s ∧ (∀ k, foot b' v' k → w.heap.size ≤ k) ∧ Below w.heap.size w w' := by
  obtain ⟨c0, c1, c2, c3, hf⟩ := h.cells
  have hbw := h.1.lt
  have HC := Lib.hid (all w b v s h hn)
  have HD := Lib.hid (all w.drew b v s h hn)
  clear h
  go_enter Tryd.func23, Tryd.ntmps23
  go_wp2
  go_region_held3 (fun w' => w'.cell? ⟨b, 0, none⟩ = some (.int .i64 s.bound) ∧ w'.cell? ⟨b, 2, none⟩ = some (.int .i64 s.state) ∧ w'.cell? ⟨b, 3, none⟩ = some (.int .i64 s.place))
    (first | go_keep | exact ⟨d0, d2, d3⟩)
    ((go_at_call 34; refine HD.out.mono ?_; rintro e w1 ⟨v', rfl, ho, hk, hbl⟩; obtain ⟨A', c', rfl, hl'⟩ := ho.form; have HO := Lib.hid ho; have HK := Lib.hid hk; have HW := Lib.hid hbl; have d0 := (hbl.cell (p := ⟨b, 0, none⟩) hbw).trans c0; have d2 := (hbl.cell (p := ⟨b, 2, none⟩) hbw).trans c2; have d3 := (hbl.cell (p := ⟨b, 3, none⟩) hbw).trans c3; have n0 := World.new_ne w1 _ d0; have n2 := World.new_ne w1 _ d2; have n3 := World.new_ne w1 _ d3; have hs1 := hbl.size; clear ho hk hbl))
  go_wp2
  go_ret
  exact ⟨_, _, rfl, ⟨Blk.new _ _ _, HO.out.upd ((Upd.refl No _).alloc _) (fun _ _ h => h)⟩, fun k hk => hk.elim (fun e => by subst e; exact hs1) (HK.out k), (show Below w.heap.size w w1 from ⟨HW.out.os, HW.out.tape, HW.out.output, HW.out.size, HW.out.block⟩).alloc hs1 _⟩
theorem ext_getD (xs ys : List ByteArray) (hl : xs.length = ys.length) (h : ∀ j, j < xs.length → xs.getD j ByteArray.empty = ys.getD j ByteArray.empty) : xs = ys := by
  apply List.ext_getElem hl
  intro j h1 h2
  have := h j h1
  simpa [List.getD, h1, h2] using this
theorem toList_inj (a b : ByteArray) : a.toList = b.toList ↔ a = b := by
  rw [ByteArray.toList_eq, ByteArray.toList_eq]
  constructor
  · intro h
    cases a; cases b
    simpa [Array.toList_inj] using h
  · rintro rfl; rfl
set_option maxHeartbeats 800000 in
theorem same (w : World) (v u : Value) (xs ys : List ByteArray) (h : Own w v xs) (h' : Own w u ys) (hn : xs.length ≤ 100000) :
    Calls Tryd.prog 14 #[v, u] w fun e w' => e = .returned (.bool (decide (xs = ys))) ∧ Drawn0 w w' := by
  obtain ⟨A, c, rfl, hc⟩ := h.form
  obtain ⟨A', c', rfl, hc'⟩ := h'.form
  by_cases hl : xs.length = ys.length
  · have hl1 : ((xs.length : Int) != (ys.length : Int)) = false := by simp [hl]
    have hl2 : (xs.length == ys.length) = true := by simp [hl]
    have HE := Lib.hid hl
    have HC := Lib.hid (fun hx : 0 < xs.length => h.some_ hx)
    have HC' := Lib.hid (fun hx : 0 < ys.length => h'.some_ hx)
    clear h h' hl
    go_enter Tryd.func14, Tryd.ntmps14
    go_wp2
    go_loopg [5] xs.length (fun k v5 w' => ∃ i : Nat, v5 = .int .i64 i ∧ i + k = xs.length ∧ Hid (∀ j, j < i → xs.getD j ByteArray.empty = ys.getD j ByteArray.empty) ∧ Drawn0 w w')
    case atStart => exact ⟨0, rfl, by omega, Lib.hid (fun j hj => by omega), Drawn0.refl _⟩
    case round =>
      obtain ⟨i, rfl, hik, HI, ⟨m, rfl⟩⟩ := hrel
      cases gk with
      | zero =>
        have e0 : i = xs.length := by omega
        have e1 : xs = ys := ext_getD xs ys HE.out (fun j hj => HI.out j (by omega))
        have HE1 := Lib.hid e1
        have e2 : decide ((i : Int) < (xs.length : Int)) = false := by simp [e0]
        clear e0 e1
        go_wp2
        go_ret
        exact ⟨(by rw [decide_eq_true HE1.out]; rfl), by repeat (first | exact Drawn0.refl _ | apply Drawn0.step)⟩
      | succ k1 =>
        have hi : i < xs.length := by omega
        have hi' : i < ys.length := by rw [← HE.out]; exact hi
        have e2 : decide ((i : Int) < (xs.length : Int)) = true := by simp [hi]
        obtain ⟨g, q, hs, _, hcells, _⟩ := HC.out (by omega)
        obtain ⟨g', q', hs', _, hcells', _⟩ := HC'.out (by omega)
        injection hs with hs hs1 hs2
        injection hs' with hs' hs1' hs2'
        subst hs; subst hs'; subst hs2; subst hs2'
        clear hs1 hs1'
        have d0 := hcells i hi
        have d1 := hcells' i hi'
        clear hcells hcells'
        by_cases hx : (xs.getD i ByteArray.empty).toList = (ys.getD i ByteArray.empty).toList
        · have HX := Lib.hid hx
          have x1 : ((xs.getD i ByteArray.empty).toList == (ys.getD i ByteArray.empty).toList) = true := beq_iff_eq.mpr hx
          have x2 : ((xs.getD i ByteArray.empty).toList != (ys.getD i ByteArray.empty).toList) = false := bne_eq_false_iff_eq.mpr hx
          clear hx
          generalize hx0 : xs.getD i ByteArray.empty = x at *
          generalize hy0 : ys.getD i ByteArray.empty = y at *
          have HX0 := Lib.hid hx0
          have HY0 := Lib.hid hy0
          clear hx0 hy0
          go_wp2
          repeat (go_quiet (fail); try go_wp2)
          go_roundg k1
          case measure => omega
          case rel =>
            refine ⟨i + 1, by simp, by omega, Lib.hid (fun j hj => ?_), by repeat (first | exact Drawn0.refl _ | apply Drawn0.step)⟩
            rcases Nat.lt_or_ge j i with hj' | hj'
            · exact HI.out j hj'
            · obtain rfl : j = i := by omega
              rw [HX0.out, HY0.out]
              exact (toList_inj _ _).1 HX.out
        · have HX : Hid (xs ≠ ys) := Lib.hid (fun e => hx (by rw [e]))
          have x1 : ((xs.getD i ByteArray.empty).toList == (ys.getD i ByteArray.empty).toList) = false := beq_eq_false_iff_ne.mpr hx
          have x2 : ((xs.getD i ByteArray.empty).toList != (ys.getD i ByteArray.empty).toList) = true := bne_iff_ne.mpr hx
          clear hx
          generalize xs.getD i ByteArray.empty = x at *
          generalize ys.getD i ByteArray.empty = y at *
          go_wp2
          repeat (go_quiet (fail); try go_wp2)
          go_ret
          exact ⟨(by rw [decide_eq_false HX.out]; rfl), by repeat (first | exact Drawn0.refl _ | apply Drawn0.step)⟩
  · have hl1 : ((xs.length : Int) != (ys.length : Int)) = true := by simp; omega
    have hl2 : (xs.length == ys.length) = false := by simp [hl]
    have HX : Hid (xs ≠ ys) := Lib.hid (fun e => hl (by rw [e]))
    clear h h' hl
    go_enter Tryd.func14, Tryd.ntmps14
    go_wp2
    go_ret
    exact ⟨(by rw [decide_eq_false HX.out]; rfl), by repeat (first | exact Drawn0.refl _ | apply Drawn0.step)⟩
end Go.Proofs.YtlflohbpdapiiaaDoor.Ref
