/- The document's ring: what each method answers and leaves. -/
import Derived.Test.YtlflohbpdapiiaaDoorRing2
import Derived.Deep.RegionHeld3
import Derived.LoopTactic
set_option linter.unusedVariables false
namespace Go.Proofs.YtlflohbpdapiiaaDoor.Ref
open Go.RowKit Go.Proofs.YtlflohbpdapiiaaDoorW.PrintWords Go.Proofs.YtlflohbpdapiiaaDoor.Sep Go.Proofs.YtlflohbpdapiiaaDoor.Libs
open Go.Proofs.YtlflohbpdapiiaaDoor.Ring (RS foot joined)

def At (w : World) (b : Nat) (v : Value) (s : RS) : Prop := Blk w b 58 #[.int .i64 s.bound, v, .int .i64 s.state, .int .i64 s.place] ∧ Own w v s.ents
section
variable {w w' : World} {b : Nat} {v : Value} {s : RS}
theorem At.cells (h : At w b v s) : w.cell? ⟨b, 0, none⟩ = some (.int .i64 s.bound) ∧ w.cell? ⟨b, 1, none⟩ = some v ∧ w.cell? ⟨b, 2, none⟩ = some (.int .i64 s.state) ∧ w.cell? ⟨b, 3, none⟩ = some (.int .i64 s.place) ∧ ∀ j, w.frozen? ⟨b, j, none⟩ = false :=
  ⟨(h.1.cell 0).trans rfl, (h.1.cell 1).trans rfl, (h.1.cell 2).trans rfl, (h.1.cell 3).trans rfl, h.1.frozen⟩
theorem At.ne (h : At w b v s) : v.ownBlock ≠ some b := own_blk_ne h.2 h.1 (by decide)
theorem At.upd {S : Nat → Prop} (h : At w b v s) (u : Upd S w w') (hb : ¬ S b) (hv : ∀ k, v.ownBlock = some k → ¬ S k) : At w' b v s := ⟨h.1.upd u hb, h.2.upd u hv⟩
theorem At.ownStay (h : At w b v s) (i : Nat) (x : Value) : Own (w.setCell ⟨b, i, none⟩ x) v s.ents :=
  h.2.keep fun k hk => Below.heap_setCell w ⟨b, i, none⟩ x k (fun e => h.ne (by rw [hk, e]))
theorem At.setState (h : At w b v s) (x : Int) : At (w.setCell ⟨b, 2, none⟩ (.int .i64 x)) b v { s with state := x } := ⟨h.1.set_ 2 _, h.ownStay 2 _⟩
theorem At.setPlace (h : At w b v s) (x : Int) : At (w.setCell ⟨b, 3, none⟩ (.int .i64 x)) b v { s with place := x } := ⟨h.1.set_ 3 _, h.ownStay 3 _⟩
theorem At.setEnts (hb : Blk w b 58 #[.int .i64 s.bound, v, .int .i64 s.state, .int .i64 s.place]) {v' : Value} {xs : List ByteArray} (ho : Own w v' xs) : At (w.setCell ⟨b, 1, none⟩ v') b v' { s with ents := xs } :=
  ⟨hb.set_ 1 _, ho.keep fun k hk => Below.heap_setCell w ⟨b, 1, none⟩ v' k (fun e => own_blk_ne ho hb (by decide) (by rw [hk, e]))⟩
theorem At.setText {g c n : Nat} (h : At w b (.slice (some ⟨g, 0, none⟩) n c) s) (j : Nat) (hj : j < s.ents.length) (x : ByteArray) : At (w.setCell ⟨g, j, none⟩ (.string x)) b (.slice (some ⟨g, 0, none⟩) n c) { s with ents := s.ents.set j x } :=
  ⟨h.1.far (p := ⟨g, j, none⟩) (fun e => h.ne (by rw [e]; rfl)) _, h.2.set_ rfl j hj x⟩
end

set_option maxHeartbeats 400000 in
theorem new (w : World) (n : Int) : Calls Tryd.prog 21 #[.int .i64 n] w fun e w' => ∃ b, e = .returned (.pointer (some ⟨b, 0, none⟩)) ∧ At w' b (.slice none 0 0) ⟨min (max n 0) 1000, [], 0, 0⟩ ∧ w.heap.size ≤ b ∧ Below w.heap.size w w' := by
  by_cases h0 : n < 0
  · go_enter Tryd.func21, Tryd.ntmps21
    go_wp2
    go_ret
    have e : min (max n 0) 1000 = 0 := by omega
    rw [e]
    exact ⟨_, rfl, ⟨Blk.new _ _ _, Own.nil _⟩, Nat.le_refl _, (Below.refl _ _).alloc (Nat.le_refl _) _⟩
  · by_cases h1 : 1000 < n
    · go_enter Tryd.func21, Tryd.ntmps21
      go_wp2
      go_ret
      have e : min (max n 0) 1000 = 1000 := by omega
      rw [e]
      exact ⟨_, rfl, ⟨Blk.new _ _ _, Own.nil _⟩, Nat.le_refl _, (Below.refl _ _).alloc (Nat.le_refl _) _⟩
    · go_enter Tryd.func21, Tryd.ntmps21
      go_wp2
      go_ret
      have e : min (max n 0) 1000 = n := by omega
      rw [e]
      exact ⟨_, rfl, ⟨Blk.new _ _ _, Own.nil _⟩, Nat.le_refl _, (Below.refl _ _).alloc (Nat.le_refl _) _⟩
theorem len (w : World) (b : Nat) (v : Value) (s : RS) (h : At w b v s) : Calls Tryd.prog 31 #[.pointer (some ⟨b, 0, none⟩)] w fun e w' => e = .returned (.int .i64 s.ents.length) ∧ w = w' := by
  obtain ⟨h0, h1, h2, h3, hf⟩ := h.cells
  obtain ⟨A, c, rfl, hl⟩ := h.2.form
  go_enter Tryd.func31, Tryd.ntmps31
  go_wp2
  go_ret
  exact ⟨rfl, rfl⟩
theorem bound (w : World) (b : Nat) (v : Value) (s : RS) (h : At w b v s) : Calls Tryd.prog 30 #[.pointer (some ⟨b, 0, none⟩)] w fun e w' => e = .returned (.int .i64 s.bound) ∧ w = w' := by
  obtain ⟨h0, h1, h2, h3, hf⟩ := h.cells
  go_enter Tryd.func30, Tryd.ntmps30
  go_wp2
  go_ret
  exact ⟨rfl, rfl⟩
theorem killing (w : World) (b : Nat) (v : Value) (s : RS) (h : At w b v s) : Calls Tryd.prog 32 #[.pointer (some ⟨b, 0, none⟩)] w fun e w' => e = .returned (.bool (s.state == 1)) ∧ w = w' := by
  obtain ⟨h0, h1, h2, h3, hf⟩ := h.cells
  go_enter Tryd.func32, Tryd.ntmps32
  go_wp2
  go_ret
  exact ⟨rfl, rfl⟩
theorem yanking (w : World) (b : Nat) (v : Value) (s : RS) (h : At w b v s) : Calls Tryd.prog 33 #[.pointer (some ⟨b, 0, none⟩)] w fun e w' => e = .returned (.bool (s.state == 2)) ∧ w = w' := by
  obtain ⟨h0, h1, h2, h3, hf⟩ := h.cells
  go_enter Tryd.func33, Tryd.ntmps33
  go_wp2
  go_ret
  exact ⟨rfl, rfl⟩
theorem stop (w : World) (b : Nat) (v : Value) (s : RS) (h : At w b v s) : Calls Tryd.prog 39 #[.pointer (some ⟨b, 0, none⟩)] w fun e w' => e = .returned (.tuple #[]) ∧ (w.setCell ⟨b, 2, none⟩ (.int .i64 0)).setCell ⟨b, 3, none⟩ (.int .i64 0) = w' := by
  obtain ⟨h0, h1, h2, h3, hf⟩ := h.cells
  go_enter Tryd.func39, Tryd.ntmps39
  go_wp2
  go_returns
  exact ⟨rfl, rfl⟩

theorem info9 : (Tryd.prog.info? 9).map (fun i => (i.zero, i.size, i.bytes)) = some (some (.string ⟨#[]⟩), 1, 16) := by kernel_rfl
set_option maxHeartbeats 800000 in
theorem all (w : World) (b : Nat) (v : Value) (s : RS) (h : At w b v s) (hn : s.ents.length ≤ 100000) : Calls Tryd.prog 34 #[.pointer (some ⟨b, 0, none⟩)] w fun e w' => ∃ v', e = .returned v' ∧ Own w' v' s.ents ∧ (∀ k, v'.ownBlock = some k → w.heap.size ≤ k) ∧ Below w.heap.size w w' := by
  obtain ⟨i0, hi0, hz0, hz1, hz2⟩ := info_parts info9
  obtain ⟨h0, h1, h2, h3, hf⟩ := h.cells
  obtain ⟨A, c, rfl, hl⟩ := h.2.form
  have HR := Lib.hid (Reads.of_own h.2)
  clear h
  go_enter Tryd.func34, Tryd.ntmps34
  go_wp2_with (at_builtin; refine wpList_append_any _ rfl (.tmp 4) (.tmp 8) _ rfl w.heap.size 9 i0 _ 1 16 Tryd.underlying22 hi0 hz0 hz1 hz2 rfl (by omega) (.slice none 0 0) 0 [] rfl ⟨by simp, .inl ⟨rfl, rfl⟩⟩ w.heap.size A s.ents.length c (s.ents.map Value.string) rfl HR.out (one_map _) (by simp only [maxLen]; omega) (by omega) (Nat.le_refl _) ?_; intro v1 w1 hown1 hg1 hat1; have HO := Lib.hid hown1; have HG := Lib.hid hg1; have HA := Lib.hid hat1; clear hown1 hg1 hat1)
  go_ret
  refine ⟨_, rfl, Own.of_base (b := w.heap.size) (by simpa using HO.out), own_ge HO.out, (Below.refl _ _).grown HG.out (Nat.le_refl _) (by simp [Value.ownBlock])⟩
end Go.Proofs.YtlflohbpdapiiaaDoor.Ref
