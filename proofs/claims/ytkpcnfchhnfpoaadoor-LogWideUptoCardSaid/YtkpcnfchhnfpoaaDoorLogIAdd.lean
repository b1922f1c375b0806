/- A log's Add. -/
import Derived.Test.YtkpcnfchhnfpoaaDoorLogIMore
import Derived.Handy
import Derived.WalkSpells
import Derived.WalkLawsBesides
import Derived.Deep.RegionHeld3
import Derived.LoopTactic
import Derived.BigQuiet
import Derived.IntWalk
import Derived.StillTailTactics
set_option linter.unusedVariables false
namespace Go.Proofs.YtkpcnfchhnfpoaaDoor
open Go.RowKit Go.Proofs.YtkpcnfchhnfpoaaDoorW.PrintWords Go.Proofs.YtkpcnfchhnfpoaaDoor.Sep Log
namespace LogI
section
variable {w w' w5 W : World} {p : Nat} {s s' : LS} {S : Nat → Prop} {init : List Gr} {g : Gr} {v5 : Value}
set_option maxHeartbeats 1600000
set_option maxRecDepth 100000
theorem add_no (h : At w p s) (ho : s.op = false) (v : Value) : Calls Tryd.prog 40 #[.pointer (some ⟨p, 0, none⟩), v] w fun e w' => e = .returned (.bool false) ∧ w = w' := by
  obtain ⟨_, _, _, _, _, _, c6, -⟩ := h.cells
  rw [ho] at c6
  clear h ho
  go_enter Tryd.func40, Tryd.ntmps40
  go_wp2
  go_ret
  exact ⟨rfl, rfl⟩
/-- The open group, with deltas put into it. -/
def LS.put (s : LS) (v : Value) (ds : List Delta) : LS := { s with now := { s.now with dv := v, ds := ds } }
theorem Fr.refl (w : World) (p : Nat) (s : LS) : Fr w p s s := fun k h => .inl h
theorem At.pushed (h : At w p s) {d : Delta} (hW : Below w.heap.size w W)
    (ho5 : OwnS w5 24 3 v5 (s.now.ds.length + 1) (s.now.ds.flatMap dcells ++ dcells d)) (hg5 : W.grownBy w5 s.now.dv.ownBlock) (hb5 : v5.ownBlock = s.now.dv.ownBlock ∨ ∀ k, v5.ownBlock = some k → W.heap.size ≤ k) :
    At (w5.setCell ⟨p, 3, none⟩ v5) p (s.put v5 (s.now.ds ++ [d])) ∧ Upd (foot p s) w (w5.setCell ⟨p, 3, none⟩ v5) ∧ Fr w p s (s.put v5 (s.now.ds ++ [d])) := by
  have hnm : s.now ∈ s.groups := by simp [LS.groups]
  have hg5u : Upd (fun k => s.now.dv.ownBlock = some k) W w5 := Upd.grown hg5 (fun k e => e)
  have hu5 : Upd (fun k => s.now.dv.ownBlock = some k) w w5 := (Upd.below hW _).then_ hg5u (fun k hk => .inl hk)
  have hnp : s.now.dv.ownBlock ≠ some p := fun e => h.notTop hnm e (.inl rfl)
  have hB5 : Blk w5 p 83 s.cells := h.blk.upd hu5 hnp
  have hB6 : Blk (w5.setCell ⟨p, 3, none⟩ v5) p 83 (s.put v5 (s.now.ds ++ [d])).cells := by
    unfold LS.put
    (apply Blk.eq_; (focus (repeat' (first | with_reducible exact hB5 | with_reducible apply Blk.drewN | with_reducible apply Blk.drew | with_reducible apply Blk.set_ | with_reducible apply Blk.alloc))); all_goals (simp only [LS.cells, List.setIfInBounds_toArray, List.set_cons_succ, List.set_cons_zero] <;> rfl))
  have hu6 : Upd (fun k => k = p ∨ s.now.dv.ownBlock = some k) w (w5.setCell ⟨p, 3, none⟩ v5) := (hu5.mono (fun k hk => .inr hk)).setCell (.inl (.inl rfl)) _
  have hvp : v5.ownBlock ≠ some p := fun e => by
    rcases hb5 with hb | hb
    · exact hnp (by rw [← hb]; exact e)
    · have h1 := hb p e
      have h2 := h.blk.lt
      have h3 := hW.size
      omega
  have hlt := h.lt
  have hv5 : ∀ k, v5.ownBlock = some k → s.now.dv.ownBlock = some k ∨ w.heap.size ≤ k := fun k hk => by
    rcases hb5 with hb | hb
    · exact .inl (by rw [← hb]; exact hk)
    · exact .inr (Nat.le_trans hW.size (hb k hk))
  refine ⟨⟨hB6, ?_, ?_, h.ur, ?_, ?_⟩, hu6.mono (fun k hk => hk.elim .inl (fun e => .inr (.inr (.inr ⟨_, hnm, e⟩)))), ?_⟩
  · refine h.u.upd hu6 (fun k hk e => ?_)
    rcases e with rfl | e
    · exact h.up hk
    · exact h.notTop hnm e (.inr (.inl hk))
  · refine h.r.upd hu6 (fun k hk e => ?_)
    rcases e with rfl | e
    · exact h.rp hk
    · exact h.notTop hnm e (.inr (.inr hk))
  · intro g hg
    have hg : g ∈ (s.put v5 (s.now.ds ++ [d])).now :: (s.undo ++ s.redo) := hg
    rcases List.mem_cons.1 hg with rfl | hg
    · show OwnS _ _ _ v5 (s.now.ds ++ [d]).length ((s.now.ds ++ [d]).flatMap dcells)
      rw [List.length_append, List.flatMap_append]
      simp only [List.flatMap_cons, List.flatMap_nil, List.append_nil]
      exact ho5.keep (fun k hk => Below.heap_setCell _ _ _ _ (fun e => hvp (by rw [hk, e])))
    · have hgm : g ∈ s.groups := List.mem_cons_of_mem _ hg
      refine OwnS.upd (h.d g hgm) hu6 (fun k hk e => ?_)
      rcases e with rfl | e
      · exact h.notTop hgm hk (.inl rfl)
      · have h1 := h.ap
        unfold blocks LS.groups at h1
        rw [List.filterMap_cons, e] at h1
        exact (List.nodup_cons.1 h1).1 (List.mem_filterMap.2 ⟨g, hg, hk⟩)
  · show (blocks ((s.put v5 (s.now.ds ++ [d])).now :: (s.undo ++ s.redo))).Nodup
    have h1 := h.ap
    unfold blocks LS.groups at h1
    unfold blocks
    rw [List.filterMap_cons] at h1 ⊢
    have hrest : ((s.undo ++ s.redo).filterMap fun g => g.dv.ownBlock).Nodup := by
      split at h1
      · exact h1
      · exact (List.nodup_cons.1 h1).2
    have hx0 : (s.put v5 (s.now.ds ++ [d])).now.dv.ownBlock = v5.ownBlock := rfl
    rw [hx0]
    cases hx : v5.ownBlock with
    | none => exact hrest
    | some b =>
      refine List.nodup_cons.2 ⟨fun hm => ?_, hrest⟩
      obtain ⟨g, hg, hk⟩ := List.mem_filterMap.1 hm
      rcases hv5 b hx with e | e
      · rw [e] at h1
        exact (List.nodup_cons.1 h1).1 (List.mem_filterMap.2 ⟨g, hg, hk⟩)
      · have := OwnS.lt (h.d g (List.mem_cons_of_mem _ hg)) b hk
        omega
  · rintro k (hk | hk | hk | ⟨g, hg, hk⟩)
    · exact .inl (.inl hk)
    · exact .inl (.inr (.inl hk))
    · exact .inl (.inr (.inr (.inl hk)))
    · have hg : g ∈ (s.put v5 (s.now.ds ++ [d])).now :: (s.undo ++ s.redo) := hg
      rcases List.mem_cons.1 hg with rfl | hg
      · exact (hv5 k hk).imp (fun e => .inr (.inr (.inr ⟨_, hnm, e⟩))) id
      · exact .inl (.inr (.inr (.inr ⟨g, List.mem_cons_of_mem _ hg, hk⟩)))
theorem LS.put_put (s : LS) (v v' : Value) (ds ds' : List Delta) : (s.put v ds).put v' ds' = s.put v' ds' := rfl
theorem live_eq (a : Int) (o i : ByteArray) : live (a, o, i) = (!o.toList.isEmpty || !i.toList.isEmpty) := rfl
theorem filter_step (ds : List Delta) (i : Nat) (hi : i < ds.length) : (ds.take (i + 1)).filter live = (ds.take i).filter live ++ (if live (ds.getD i D0) = true then [ds.getD i D0] else []) := by
  rw [List.take_add_one, List.filter_append]
  congr 1
  rw [List.getElem?_eq_getElem hi]
  simp [List.getD, hi, List.filter_cons]
theorem add_yes (h : At w p s) (ho : s.op = true) (A : Option Addr) (n c : Nat) (ds : List Delta) (hr : ReadsD w w.heap.size A n ds) (hn : s.now.ds.length + n ≤ 1000000000000) (hap : 0 < n → ∀ a, A = some a → ¬ foot p s a.block) :
    Calls Tryd.prog 40 #[.pointer (some ⟨p, 0, none⟩), .slice A n c] w fun e w' => e = .returned (.bool true) ∧ ∃ s', At w' p s' ∧ s'.abs = s.abs.add ds ∧ Upd (foot p s) w w' ∧ Fr w p s s' := by
  obtain ⟨_, _, _, _, _, _, c6, -⟩ := h.cells
  obtain ⟨i0, hi0, hz0, hz1, hz2⟩ := info_parts info24
  rw [ho] at c6
  have hl := hr.1
  have HO := Lib.hid ho
  have HR := Lib.hid hr
  have HAP := Lib.hid hap
  have HA := Lib.hid h
  have HN := Lib.hid hn
  have hn2 : n ≤ 1000000000000 := by omega
  clear h ho hr hap hn
  go_enter Tryd.func40, Tryd.ntmps40
  go_wp2
  go_loopg [18] n (fun k v18 w' => ∃ i : Nat, v18 = .int .i64 i ∧ i + k = n ∧ ∃ v, Hid (At w' p (s.put v (s.now.ds ++ (ds.take i).filter live))) ∧ Hid (Upd (foot p s) w w') ∧ Hid (Fr w p s (s.put v (s.now.ds ++ (ds.take i).filter live))))
  case atStart => exact ⟨0, rfl, by omega, s.now.dv, Lib.hid (by simpa [LS.put] using HA.out), Lib.hid (Upd.refl _ _), Lib.hid (by simpa [LS.put] using Fr.refl w p s)⟩
  case round =>
    obtain ⟨i, rfl, hik, v, HAt, HU, HF⟩ := hrel
    cases gk with
    | zero =>
      have e1 : decide ((i : Int) < (n : Int)) = false := by simp; omega
      have HT : Hid (ds.take i = ds) := Lib.hid (List.take_of_length_le (by omega))
      go_wp2
      go_ret
      refine ⟨rfl, _, HAt.out, ?_, HU.out, HF.out⟩
      rw [HT.out]
      unfold LS.abs AS.add LS.put
      dsimp only
      rw [HO.out]
      rfl
    | succ k1 =>
      have hi : i < n := by omega
      have e1 : decide ((i : Int) < (n : Int)) = true := by simp [hi]
      obtain ⟨g, off, rfl, d0, d1, d2, _⟩ := delta_at HR.out hi
      have hnf : ¬ foot p s g := HAP.out (by omega) _ rfl
      have c0 := HU.out.cell (a := ⟨g, off + i * 3, none⟩) d0 hnf
      have c1 := HU.out.cell (a := ⟨g, off + i * 3 + 1, none⟩) d1 hnf
      have c2 := HU.out.cell (a := ⟨g, off + i * 3 + 2, none⟩) d2 hnf
      have hgw := World.block_lt_of_cell? _ _ c0
      clear d0 d1 d2 hnf
      have HFS := Lib.hid (filter_step ds i (by omega))
      have HN3 : Hid (s.now.ds.length + ((ds.take i).filter live).length + 1 ≤ 1000000000000) := Lib.hid (by
        have h1 := List.length_filter_le live (ds.take i)
        have h2 := HN.out
        rw [List.length_take] at h1
        omega)
      obtain ⟨x, hx⟩ : ∃ x, x = ds.getD i D0 := ⟨_, rfl⟩
      rw [← hx] at c0 c1 c2 HFS
      clear hx
      obtain ⟨x0, x1, x2⟩ := x
      dsimp only at c0 c1 c2
      obtain ⟨s2, hs2⟩ : ∃ s2, s2 = s.put v (s.now.ds ++ (ds.take i).filter live) := ⟨_, rfl⟩
      have HPUT : Hid (∀ v5 y, s2.put v5 (s2.now.ds ++ y) = s.put v5 (s.now.ds ++ ((ds.take i).filter live ++ y))) := Lib.hid (fun v5 y => by rw [hs2, LS.put_put]; unfold LS.put; dsimp only; rw [List.append_assoc])
      have HLN : Hid (s2.now.ds.length + 1 ≤ 1000000000000) := Lib.hid (by rw [hs2]; unfold LS.put; dsimp only; rw [List.length_append]; exact HN3.out)
      rw [← hs2] at HAt HF
      have HS2 := Lib.hid hs2
      clear hs2
      obtain ⟨f0, f1, f2, f3, -, -, -, -, -, ff⟩ := HAt.out.cells
      obtain ⟨A3, cd, hdv, hdl⟩ := (HAt.out.d s2.now (by simp [LS.groups])).len
      have hOr := HAt.out.d s2.now (by simp [LS.groups])
      unfold OwnD at hOr
      rw [hdv] at f3 hOr
      have hpw := HAt.out.blk.lt
      cases hlv : live (x0, x1, x2) with
      | false =>
        rw [hlv] at HFS
        rw [live_eq] at hlv
        have b1 : x1.toList.isEmpty = true := by cases h1 : x1.toList.isEmpty <;> simp_all
        have b2 : x2.toList.isEmpty = true := by cases h1 : x2.toList.isEmpty <;> simp_all
        have HE : Hid ((ds.take (i + 1)).filter live = (ds.take i).filter live) := Lib.hid (by rw [HFS.out]; simp)
        clear hlv hdv hOr hdl f0 f1 f2 f3 ff
        go_wp2
        go_roundg k1
        case measure => omega
        case rel =>
          have hb : Below wr.heap.size wr (wr.alloc (.cells #[.int .i64 x0, .string x1, .string x2] 24)) := (Below.refl _ _).alloc (Nat.le_refl _) _
          refine ⟨i + 1, by simp, by omega, v, Lib.hid ?_, Lib.hid ?_, Lib.hid ?_⟩
          · rw [HE.out, ← HS2.out]
            exact HAt.out.below hb
          · exact HU.out.then_ (Upd.below hb No) (fun k hk => hk.elim)
          · rw [HE.out, ← HS2.out]
            exact HF.out
      | true =>
        rw [hlv] at HFS
        have HE : Hid ((ds.take (i + 1)).filter live = (ds.take i).filter live ++ [(x0, x1, x2)]) := Lib.hid (by rw [HFS.out]; simp)
        have hlv2 : x1.toList.isEmpty = false ∨ (x1.toList.isEmpty = true ∧ x2.toList.isEmpty = false) := by
          rw [live_eq] at hlv
          cases h1 : x1.toList.isEmpty <;> simp_all
        have hWb : Below wr.heap.size wr (((wr.alloc (.cells #[.int .i64 x0, .string x1, .string x2] 24)).alloc (.cells #[.int .i64 x0, .string x1, .string x2] 24)).drew) := by
          have := ((Below.refl wr.heap.size wr).alloc (Nat.le_refl _) (.cells #[.int .i64 x0, .string x1, .string x2] 24)).alloc (by simp) (.cells #[.int .i64 x0, .string x1, .string x2] 24)
          exact ⟨this.os, this.tape, this.output, this.size, this.block⟩
        have HOr := Lib.hid (OwnS.upd hOr (Upd.below hWb No) (fun k hk h => h))
        have hrn := reads_one (wr.alloc (.cells #[.int .i64 x0, .string x1, .string x2] 24)) (x0, x1, x2)
        rw [show (wr.alloc (.cells #[.int .i64 x0, .string x1, .string x2] 24)).heap.size = wr.heap.size + 1 by simp] at hrn
        have HRn := Lib.hid (Reads.drew hrn)
        clear hrn
        have HBu := Lib.hid (HAt.out.blk.upd (Upd.below hWb No) (fun h => h))
        have hnp : (Value.slice A3 s2.now.ds.length cd).ownBlock ≠ some p := fun e => HAt.out.notTop (g := s2.now) (by simp [LS.groups]) (by rw [hdv]; exact e) (.inl rfl)
        have HNP := Lib.hid hnp
        have HFIN : Hid (∀ v5 w5, _ → _ → _ → _) := Lib.hid (fun v5 w5 => At.pushed (v5 := v5) (w5 := w5) (d := (x0, x1, x2)) HAt.out hWb)
        rw [hdv] at HFIN
        have HDV := Lib.hid hdv
        have HL2 := Lib.hid hdl
        obtain ⟨N, hN⟩ : ∃ N, N = s2.now.ds.length := ⟨_, rfl⟩
        rw [← hN] at f3 HOr
        have HNN := Lib.hid hN
        have hN1 : N + 1 ≤ 1000000000000 := by have := HLN.out; omega
        clear hlv hdv hOr hdl f0 f1 f2 hWb hnp hN
        rcases hlv2 with b1 | ⟨b1, b2⟩
        all_goals
          go_wp2
          go_region_law (first
            | (refine step_append_s (v := .slice A3 N cd) (by rfl) _ _ _ (by rfl) Tryd.underlying22 hi0 hz0 hz1 hz2 rfl (by omega) (by rfl) HOr.out (by rfl) HRn.out (one_cells [(x0, x1, x2)]) (by unfold maxLen; omega) (by omega) ?_; intro v5 w5 ho5 hg5 hb5; have HO5 := Lib.hid ho5; have HG5 := Lib.hid hg5; have HB5 := Lib.hid hb5; have hb6 := HBu.out.upd (Upd.grown (S := fun k => (Value.slice A3 N cd).ownBlock = some k) HG5.out (fun k e => e)) (fun e => HNP.out (by rw [← HNN.out]; exact e)); have e3 := hb6.cell 3; have ef := hb6.frozen; have hlp := hb6.lt; obtain ⟨A5, c5, hv5, hl5⟩ := HO5.out.form; subst hv5; clear ho5 hg5 hb5 hb6; simp only [LS.cells, List.getElem?_toArray, List.getElem?_cons_succ, List.getElem?_cons_zero] at e3; rw [HDV.out] at e3))
        all_goals
          have hfin := HFIN.out (.slice A5 (N + 1) c5) w5 (by rw [← HNN.out]; exact HO5.out) (by rw [← HNN.out]; exact HG5.out) (by rw [← HNN.out]; exact HB5.out)
          have HFN := Lib.hid hfin
          clear hfin
          go_wp2
          go_roundg k1
          case measure => omega
          case rel =>
            obtain ⟨hA6, hU6, hF6⟩ := HFN.out
            rw [HPUT.out, ← HE.out] at hA6 hF6
            refine ⟨i + 1, by simp, by omega, .slice A5 (N + 1) c5, Lib.hid hA6, Lib.hid (HU.out.then_ hU6 (fun k hk => HF.out k hk)), Lib.hid (fun k hk => ?_)⟩
            rcases hF6 k hk with e | e
            · exact HF.out k e
            · exact .inr (Nat.le_trans HU.out.size e)
end
end LogI
end Go.Proofs.YtkpcnfchhnfpoaaDoor
