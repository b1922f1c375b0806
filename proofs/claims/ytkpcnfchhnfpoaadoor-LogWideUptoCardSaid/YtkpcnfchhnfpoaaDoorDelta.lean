/- Deltas: Invert, copied; cluster.Next at the text 'a'. -/
import Derived.Test.YtkpcnfchhnfpoaaDoorRowz
import Derived.Test.YtkpcnfchhnfpoaaDoorShelf
import Derived.Handy
import Derived.WalkSpells
import Derived.WalkLawsBesides
import Derived.Deep.RegionHeld3
import Derived.LoopTactic
import Derived.BigQuiet
import Derived.IntWalk
import Derived.StillTailTactics
set_option linter.unusedVariables false
namespace Go.Proofs.YtkpcnfchhnfpoaaDoor
open Go.RowKit Go.Proofs.YtkpcnfchhnfpoaaDoorW.PrintWords Go.Proofs.YtkpcnfchhnfpoaaDoor.Sep
namespace Log
abbrev E : ByteArray := ByteArray.empty
theorem first_a (w : World) : Calls Tryd.prog 83 #[.string ⟨#[97]⟩] w fun e w' => e = .returned (.agg #[.int .i32 97, .int .i64 1]) ∧ Below w.heap.size w w' := by
  have HD := fun o : Obj => Lib.hid (Any.utf8_DecodeRuneInString_ascii decLays ⟨#[97]⟩ 97 (w.alloc o) rfl (by decide))
  go_enter Tryd.func83, Tryd.ntmps83
  go_wp2_with (go_at_call 86; refine (show Calls Tryd.prog 86 _ _ _ from (HD _).out).mono ?_; rintro e w' ⟨rfl, hq⟩; subst hq)
  go_returns
  exact ⟨rfl, (Below.refl _ _).alloc (Nat.le_refl _) _⟩
theorem field116 (w : World) : (Instr.field 116 (.agg #[.int .i32 97, .int .i64 1]) 1).run Tryd.prog w = .ok (.int .i64 1) w := by kernel_rfl
theorem around_a (w : World) : Calls Tryd.prog 78 #[.string ⟨#[97]⟩, .int .i64 0] w fun e w' => e = .returned (.tuple #[.int .i64 0, .int .i64 1]) ∧ Below w.heap.size w w' := by
  go_enter Tryd.func78, Tryd.ntmps78
  go_wp2
  go_loopg [6] 0 (fun k v w' => v = .int .i64 0 ∧ w' = w)
  case atStart => exact ⟨rfl, rfl⟩
  case round =>
   obtain ⟨rfl, rfl⟩ := hrel
   have hfl := field116
   go_wp2_with (go_at_call 83; refine (first_a _).mono ?_; rintro e w' ⟨rfl, hb⟩; have HW := Lib.hid hb; clear hb)
   go_ret2
   exact ⟨rfl, HW.out⟩
theorem next_a1 (w : World) : Calls Tryd.prog 75 #[.string ⟨#[97]⟩, .int .i64 0] w fun e w' => e = .returned (.int .i64 1) ∧ Below w.heap.size w w' := by
  go_enter Tryd.func75, Tryd.ntmps75
  go_wp2_with (go_at_call 78; refine (around_a _).mono ?_; rintro e w' ⟨rfl, hb⟩; have HW := Lib.hid hb; clear hb)
  go_ret
  exact ⟨rfl, HW.out⟩
theorem bound_a (w : World) : Calls Tryd.prog 76 #[.string ⟨#[97]⟩, .int .i64 1] w fun e w' => e = .returned (.bool true) ∧ w = w' := by
  go_enter Tryd.func76, Tryd.ntmps76
  go_wp2
  go_ret
  exact ⟨rfl, rfl⟩
theorem next_a (w : World) : Calls Tryd.prog 58 #[.string ⟨#[97]⟩, .int .i64 0] w fun e w' => e = .returned (.int .i64 1) ∧ Below w.heap.size w w' := by
  go_enter Tryd.func58, Tryd.ntmps58
  go_wp2
  go_loopg [1] 0 (fun k v w' => v = .int .i64 0 ∧ w' = w)
  case atStart => exact ⟨rfl, rfl⟩
  case round =>
   obtain ⟨rfl, rfl⟩ := hrel
   go_wp2_with (first | (go_at_call 75; refine (next_a1 _).mono ?_; rintro e w' ⟨rfl, hb⟩; have HW := Lib.hid hb; clear hb) | (go_at_call 76; refine (bound_a _).mono ?_; rintro e w' ⟨rfl, rfl⟩))
   go_ret
   exact ⟨rfl, HW.out⟩
/-- A delta: where, what was there, what is there. -/
abbrev Delta := Int × ByteArray × ByteArray
abbrev D0 : Delta := (0, E, E)
def dcells (d : Delta) : List Value := [.int .i64 d.1, .string d.2.1, .string d.2.2]
def dagg (d : Delta) : Value := .agg #[.int .i64 d.1, .string d.2.1, .string d.2.2]
def inv (d : Delta) : Delta := (d.1, d.2.2, d.2.1)
theorem info24 : (Tryd.prog.info? 24).map (fun i => (i.zero, i.size, i.bytes)) = some (some (.agg #[.int .i64 0, .string ⟨#[]⟩, .string ⟨#[]⟩]), 3, 40) := by kernel_rfl
theorem flat_d (us : List Delta) : ∀ i, i < us.length → ((us.flatMap dcells)[i * 3]? = some (.int .i64 (us.getD i D0).1) ∧ (us.flatMap dcells)[i * 3 + 1]? = some (.string (us.getD i D0).2.1) ∧ (us.flatMap dcells)[i * 3 + 2]? = some (.string (us.getD i D0).2.2)) := by
  induction us with
  | nil => intro i h; simp at h
  | cons u us ih =>
    intro i hi
    rw [List.flatMap_cons]
    cases i with
    | zero => exact ⟨rfl, rfl, rfl⟩
    | succ j =>
      have := ih j (by simpa using hi)
      rw [show (j + 1) * 3 = j * 3 + 3 by omega, show j * 3 + 3 + 1 = j * 3 + 1 + 3 by omega, show j * 3 + 3 + 2 = j * 3 + 2 + 3 by omega]
      simpa [dcells] using this
/-- A list of deltas that one may read: parts of a row. -/
def ReadsD (w : World) (B : Nat) (A : Option Addr) (n : Nat) (xs : List Delta) : Prop := xs.length = n ∧ Reads w B 3 A n (xs.flatMap dcells)
theorem delta_at {w : World} {B : Nat} {A : Option Addr} {n : Nat} {xs : List Delta} (h : ReadsD w B A n xs) {i : Nat} (hi : i < n) :
    ∃ g off, A = some ⟨g, off, none⟩ ∧ w.cell? ⟨g, off + i * 3, none⟩ = some (.int .i64 (xs.getD i D0).1) ∧ w.cell? ⟨g, off + i * 3 + 1, none⟩ = some (.string (xs.getD i D0).2.1) ∧ w.cell? ⟨g, off + i * 3 + 2, none⟩ = some (.string (xs.getD i D0).2.2) ∧ g < B := by
  obtain ⟨hx, hr⟩ := h
  obtain ⟨ad, rfl, hlt, hc⟩ := hr.2 (by omega)
  obtain ⟨h0, h1, h2⟩ := flat_d xs i (by omega)
  have c0 := hc _ _ h0
  have c1 := hc _ _ h1
  have c2 := hc _ _ h2
  obtain ⟨z0, _⟩ := flat_d xs 0 (by omega)
  have cz := hc 0 _ z0
  obtain ⟨g, off, spot⟩ := ad
  have hspot : spot = none := by simpa [Addr.add] using World.cell?_spot cz
  subst hspot
  rw [add_off] at c0 c1 c2
  exact ⟨g, off, rfl, c0, c1, c2, hlt⟩
theorem invert_p (w : World) (d : Delta) : Calls Tryd.prog 16 #[dagg d] w fun e w' => e = .returned (dagg (inv d)) ∧ Below w.heap.size w w' := by
  obtain ⟨a, o, i⟩ := d
  unfold dagg inv
  dsimp only
  go_enter Tryd.func16, Tryd.ntmps16
  go_wp2
  go_returns
  exact ⟨rfl, ((Below.refl _ _).alloc (Nat.le_refl _) _).alloc (by simp) _⟩
theorem invert_d (w : World) (d : Delta) : Calls Tryd.prog 17 #[dagg d] w fun e w' => e = .returned (dagg (inv d)) ∧ Below w.heap.size w w' := by
  obtain ⟨a, o, i⟩ := d
  unfold dagg inv
  dsimp only
  go_enter Tryd.func17, Tryd.ntmps17
  go_wp2
  go_returns
  exact ⟨rfl, ((Below.refl _ _).alloc (Nat.le_refl _) _).alloc (by simp) _⟩
def apOk (text : ByteArray) (d : Delta) : Bool := decide (0 ≤ d.1) && decide (d.1 ≤ (text.size : Int)) && decide ((d.2.1.size : Int) ≤ (text.size : Int) - d.1) && ((text.extract d.1.toNat (d.1.toNat + d.2.1.size)).toList == d.2.1.toList)
def apDo (text : ByteArray) (d : Delta) : ByteArray := text.extract 0 d.1.toNat ++ d.2.2 ++ text.extract (d.1.toNat + d.2.1.size) text.size
def apply : ByteArray → List Delta → ByteArray × Bool
  | text, [] => (text, true)
  | text, d :: ds => if apOk text d = true then apply (apDo text d) ds else (⟨#[]⟩, false)
def insum (ds : List Delta) : Nat := (ds.map fun d => d.2.2.size).sum
theorem apDo_size (text : ByteArray) (d : Delta) (h : apOk text d = true) : (apDo text d).size ≤ text.size + d.2.2.size := by
  unfold apOk at h
  simp only [Bool.and_eq_true, decide_eq_true_eq] at h
  unfold apDo
  rw [ByteArray.size_append, ByteArray.size_append, ByteArray.size_extract, ByteArray.size_extract]
  omega
theorem Below.alloc_drew {W w : World} (h : Below W.heap.size W w) (o : Obj) (n : Nat) : Below W.heap.size W ((w.alloc o).drewN n) := by
  have := h.trans (((Below.refl w.heap.size w).alloc (Nat.le_refl _) o).mono h.size)
  exact ⟨this.os, this.tape, this.output, this.size, this.block⟩
end Log
end Go.Proofs.YtkpcnfchhnfpoaaDoor
