/- Two logs that keep different things beside, told without memory: what one keeps is a function of what the other keeps. Plain, no program. -/
import Derived.Test.YtkpcnfchhnfpoaaDoorAbs2
import Derived.Test.YtkpcnfchhnfpoaaDoorLogBM2
import Derived.Test.YtkpcnfchhnfpoaaDoorFixed
import Derived.Lib.SlBytesRow
import Derived.Laws.FloatArith
import Derived.ChangeKeysEq
import Derived.Test.YtkpcnfchhnfpoaaDoorLogSM2
import Derived.Test.YtkpcnfchhnfpoaaDoorEnds
import Derived.Deep.DeepFit
import Derived.BigQuiet
import Derived.Test.YtkpcnfchhnfpoaaDoorOps
set_option linter.unusedVariables false
namespace Go.Proofs.YtkpcnfchhnfpoaaDoor
namespace Log
section
variable {β : Type}
def gm (F : Int → β) (g : AG Int) : AG β := ⟨g.ds, F g.ah, F g.be⟩
structure Sim (F : Int → β) (a : AS Int) (b : AS β) : Prop where
  bd : b.bound = a.bound
  u : b.undo = a.undo.map (gm F)
  r : b.redo = a.redo.map (gm F)
  c : (a.cur = none ∧ b.cur = none) ∨ ∃ g g' r f, a.cur = some (g, r, f) ∧ b.cur = some (g', r, f) ∧ g'.ds = g.ds ∧ g'.ah = F g.ah ∧ (r = true → g'.be = F g.be)
variable {F : Int → β} {a : AS Int} {b : AS β}
theorem Sim.new (n : Nat) : Sim F (AS.new n) (AS.new n) := ⟨rfl, rfl, rfl, .inl ⟨rfl, rfl⟩⟩
theorem Sim.open_ (h : Sim F a b) : b.isOpen = a.isOpen := by
  unfold AS.isOpen
  rcases h.c with ⟨h1, h2⟩ | ⟨g, g', r, f, h1, h2, _⟩ <;> rw [h1, h2] <;> rfl
theorem Sim.begin_ (h : Sim F a b) (z : Int) (z' : β) (x : Int) : Sim F (a.begin_ z x) (b.begin_ z' (F x)) := by
  unfold AS.begin_
  rcases h.c with ⟨h1, h2⟩ | ⟨g, g', r, f, h1, h2, h3⟩
  · rw [h1, h2]
    exact ⟨h.bd, h.u, h.r, .inr ⟨_, _, _, _, rfl, rfl, rfl, rfl, fun e => by cases e⟩⟩
  · rw [h1, h2]
    exact h
theorem last_map {α : Type} (f : AG Int → α) (l : List (AG Int)) : (l.map f).getLast? = l.getLast?.map f := by rw [List.getLast?_map]
theorem Sim.resumeG (h : Sim F a b) : b.resumeG = a.resumeG.map (gm F) := by
  unfold AS.resumeG
  rcases h.c with ⟨h1, h2⟩ | ⟨g, g', r, f, h1, h2, h3⟩
  · rw [h1, h2]
    dsimp only
    rw [h.r, h.u, last_map]
    cases a.redo with
    | nil => rfl
    | cons x l => rfl
  · rw [h1, h2]
    rfl
theorem Sim.undoG (h : Sim F a b) : b.undoG = a.undoG.map (gm F) := by
  unfold AS.undoG
  rcases h.c with ⟨h1, h2⟩ | ⟨g, g', r, f, h1, h2, h3⟩
  · rw [h1, h2]
    dsimp only
    rw [h.u, last_map]
  · rw [h1, h2]
    rfl
theorem Sim.redoG (h : Sim F a b) : b.redoG = a.redoG.map (gm F) := by
  unfold AS.redoG
  rcases h.c with ⟨h1, h2⟩ | ⟨g, g', r, f, h1, h2, h3⟩
  · rw [h1, h2]
    dsimp only
    rw [h.r, last_map]
  · rw [h1, h2]
    rfl
theorem Sim.resumeB (h : Sim F a b) : b.resumeG.isSome = a.resumeG.isSome := by
  rw [h.resumeG]
  cases a.resumeG <;> rfl
theorem Sim.resume (h : Sim F a b) : Sim F a.resume b.resume := by
  unfold AS.resume
  rw [h.resumeG]
  cases a.resumeG with
  | none => exact h
  | some g => exact ⟨h.bd, by dsimp only [Option.map]; rw [h.u, List.map_dropLast], h.r, .inr ⟨g, gm F g, true, g.ds.length, rfl, rfl, rfl, rfl, fun _ => rfl⟩⟩
theorem Sim.add (h : Sim F a b) (ds : List Delta) : Sim F (a.add ds) (b.add ds) := by
  unfold AS.add
  rcases h.c with ⟨h1, h2⟩ | ⟨g, g', r, f, h1, h2, h3, h4, h5⟩
  · rw [h1, h2]
    exact h
  · rw [h1, h2]
    exact ⟨h.bd, h.u, h.r, .inr ⟨_, _, r, f, rfl, rfl, by dsimp only; rw [h3], h4, h5⟩⟩
theorem Sim.commitB (h : Sim F a b) : b.commitB = a.commitB := by
  unfold AS.commitB
  rcases h.c with ⟨h1, h2⟩ | ⟨g, g', r, f, h1, h2, h3, h4, h5⟩
  · rw [h1, h2]
  · rw [h1, h2]
    dsimp only
    rw [h3, h.bd]
theorem trim_map {α γ : Type} (f : α → γ) (n : Nat) (l : List α) : trim n (l.map f) = (trim n l).map f := by
  unfold trim
  rw [List.length_map]
  split
  · rw [List.map_drop]
  · rfl
theorem Sim.commit (h : Sim F a b) (x : Int) : Sim F (a.commit x) (b.commit (F x)) := by
  unfold AS.commit
  rcases h.c with ⟨h1, h2⟩ | ⟨g, g', r, f, h1, h2, h3, h4, h5⟩
  · rw [h1, h2]
    exact h
  · rw [h1, h2]
    dsimp only
    rw [h3]
    split
    · exact ⟨h.bd, h.u, h.r, .inl ⟨rfl, rfl⟩⟩
    · refine ⟨h.bd, ?_, rfl, .inl ⟨rfl, rfl⟩⟩
      dsimp only
      rw [h.bd, h.u, ← trim_map, List.map_append]
      congr 2
      simp only [List.map_cons, List.map_nil, gm]
      congr 1
      obtain ⟨q1, q2, q3⟩ := g'
      dsimp only at h3 h4
      rw [h3, h4]
theorem Sim.cancelL (h : Sim F a b) : b.cancelL = a.cancelL := by
  unfold AS.cancelL
  rcases h.c with ⟨h1, h2⟩ | ⟨g, g', r, f, h1, h2, h3, h4, h5⟩
  · rw [h1, h2]
  · rw [h1, h2]
    dsimp only
    rw [h3]
theorem Sim.cancel (h : Sim F a b) : Sim F a.cancel b.cancel := by
  unfold AS.cancel
  rcases h.c with ⟨h1, h2⟩ | ⟨g, g', r, f, h1, h2, h3, h4, h5⟩
  · rw [h1, h2]
    exact h
  · rw [h1, h2]
    dsimp only
    refine ⟨h.bd, ?_, h.r, .inl ⟨rfl, rfl⟩⟩
    dsimp only
    cases r with
    | false => exact h.u
    | true =>
      rw [if_pos rfl, if_pos rfl, h.u, List.map_append]
      congr 1
      simp only [List.map_cons, List.map_nil, gm]
      congr 1
      obtain ⟨q1, q2, q3⟩ := g'
      dsimp only at h3 h4 h5
      rw [h3, h4, h5 rfl]
theorem Sim.undoL (h : Sim F a b) : b.undoL = a.undoL := by
  unfold AS.undoL
  rw [h.undoG]
  cases a.undoG <;> rfl
theorem Sim.redoL (h : Sim F a b) : b.redoL = a.redoL := by
  unfold AS.redoL
  rw [h.redoG]
  cases a.redoG <;> rfl
theorem Sim.undoE (h : Sim F a b) : b.undoE = a.undoE := by
  unfold AS.undoE
  rw [h.undoG]
  cases a.undoG <;> rfl
theorem Sim.redoE (h : Sim F a b) : b.redoE = a.redoE := by
  unfold AS.redoE
  rw [h.redoG]
  cases a.redoG <;> rfl
theorem Sim.undo_ (h : Sim F a b) : Sim F a.undo_ b.undo_ := by
  unfold AS.undo_
  rw [h.undoG]
  cases hg : a.undoG with
  | none => exact h
  | some g => exact ⟨h.bd, by dsimp only [Option.map]; rw [h.u, List.map_dropLast], by dsimp only [Option.map]; rw [h.r, List.map_append]; rfl, h.c⟩
theorem Sim.redo_ (h : Sim F a b) : Sim F a.redo_ b.redo_ := by
  unfold AS.redo_
  rw [h.redoG]
  cases hg : a.redoG with
  | none => exact h
  | some g => exact ⟨h.bd, by dsimp only [Option.map]; rw [h.u, List.map_append]; rfl, by dsimp only [Option.map]; rw [h.r, List.map_dropLast], h.c⟩
theorem Sim.clear (h : Sim F a b) : Sim F a.clear b.clear := ⟨h.bd, rfl, rfl, .inl ⟨rfl, rfl⟩⟩
theorem Sim.undos (h : Sim F a b) : b.undo.length = a.undo.length := by rw [h.u, List.length_map]
theorem Sim.redos (h : Sim F a b) : b.redo.length = a.redo.length := by rw [h.r, List.length_map]
/-- What Undo tells beside: the group's, or nothing. -/
theorem Sim.undoA (h : Sim F a b) (z : Int) (z' : β) : (a.undoE = 0 ∧ b.undoA z' = F (a.undoA z)) ∨ (a.undoE = 3 ∧ a.undoA z = z ∧ b.undoA z' = z') := by
  unfold AS.undoE AS.undoA
  rw [h.undoG]
  cases a.undoG with
  | none => exact .inr ⟨rfl, rfl, rfl⟩
  | some g => exact .inl ⟨rfl, rfl⟩
theorem Sim.redoA (h : Sim F a b) (z : Int) (z' : β) : (a.redoE = 0 ∧ b.redoA z' = F (a.redoA z)) ∨ (a.redoE = 4 ∧ a.redoA z = z ∧ b.redoA z' = z') := by
  unfold AS.redoE AS.redoA
  rw [h.redoG]
  cases a.redoG with
  | none => exact .inr ⟨rfl, rfl, rfl⟩
  | some g => exact .inl ⟨rfl, rfl⟩
end
def ok6 (n : Int) : Prop := -63 ≤ n ∧ n ≤ 63
/-- The numbers that are kept are small. -/
structure Rng (a : AS Int) : Prop where
  u : ∀ g ∈ a.undo ++ a.redo, ok6 g.ah ∧ ok6 g.be
  c : ∀ g r f, a.cur = some (g, r, f) → ok6 g.ah ∧ (r = true → ok6 g.be)
section
variable {a : AS Int}
theorem Rng.new (n : Nat) : Rng (AS.new n) := ⟨fun g hg => by simp [AS.new] at hg, fun g r f e => by cases e⟩
theorem Rng.begin_ (h : Rng a) (z x : Int) (hx : ok6 x) : Rng (a.begin_ z x) := by
  unfold AS.begin_
  cases hc : a.cur with
  | none => exact ⟨h.u, fun g r f e => by injection e with e; injection e with e1 e2; injection e2 with e2 e3; subst e1; subst e2; exact ⟨hx, fun e => by cases e⟩⟩
  | some y => exact h
theorem Rng.resume (h : Rng a) : Rng a.resume := by
  unfold AS.resume
  cases hg : a.resumeG with
  | none => exact h
  | some g =>
    have hmem : g ∈ a.undo := by
      unfold AS.resumeG at hg
      cases hc : a.cur with
      | some x => rw [hc] at hg; cases hg
      | none =>
        rw [hc] at hg
        by_cases hr : a.redo.isEmpty = true
        · simp only [hr, if_true] at hg
          exact List.mem_of_getLast? hg
        · simp only [hr] at hg
          simp at hg
    refine ⟨fun g' hg' => h.u g' ?_, fun g' r f e => ?_⟩
    · rcases List.mem_append.1 hg' with h1 | h1
      · exact List.mem_append_left _ ((List.dropLast_sublist _).subset h1)
      · exact List.mem_append_right _ h1
    · injection e with e
      injection e with e1 e2
      subst e1
      have := h.u g (List.mem_append_left _ hmem)
      exact ⟨this.1, fun _ => this.2⟩
theorem Rng.add (h : Rng a) (ds : List Delta) : Rng (a.add ds) := by
  unfold AS.add
  cases hc : a.cur with
  | none => exact h
  | some y =>
    obtain ⟨g, r, f⟩ := y
    refine ⟨h.u, fun g' r' f' e => ?_⟩
    injection e with e
    injection e with e1 e2
    injection e2 with e2 e3
    subst e1; subst e2
    exact h.c g r f hc
theorem Rng.commit (h : Rng a) (x : Int) (hx : ok6 x) : Rng (a.commit x) := by
  unfold AS.commit
  cases hc : a.cur with
  | none => exact h
  | some y =>
    obtain ⟨g, r, f⟩ := y
    dsimp only
    split
    · exact ⟨h.u, fun g r f e => by cases e⟩
    · refine ⟨fun g' hg' => ?_, fun g r f e => by cases e⟩
      rw [List.append_nil] at hg'
      have h1 : g' ∈ a.undo ++ [({ g with be := x } : AG Int)] := by
        unfold trim at hg'
        split at hg'
        · exact List.mem_of_mem_drop hg'
        · exact hg'
      rcases List.mem_append.1 h1 with h2 | h2
      · exact h.u g' (List.mem_append_left _ h2)
      · simp at h2
        subst h2
        exact ⟨(h.c g r f hc).1, hx⟩
theorem Rng.cancel (h : Rng a) : Rng a.cancel := by
  unfold AS.cancel
  cases hc : a.cur with
  | none => exact h
  | some y =>
    obtain ⟨g, r, f⟩ := y
    refine ⟨fun g' hg' => ?_, fun g r f e => by cases e⟩
    dsimp only at hg'
    cases r with
    | false => exact h.u g' hg'
    | true =>
      rw [if_pos rfl] at hg'
      have h1 := h.c g true f hc
      rcases List.mem_append.1 hg' with h2 | h2
      · rcases List.mem_append.1 h2 with h3 | h3
        · exact h.u g' (List.mem_append_left _ h3)
        · simp at h3
          subst h3
          exact ⟨h1.1, h1.2 rfl⟩
      · exact h.u g' (List.mem_append_right _ h2)
theorem Rng.undoA (h : Rng a) (hz : a.undoE = 0) : ok6 (a.undoA 0) := by
  unfold AS.undoE at hz
  unfold AS.undoA
  cases hg : a.undoG with
  | none => rw [hg] at hz; cases hz
  | some g =>
    unfold AS.undoG at hg
    cases hc : a.cur with
    | some x => rw [hc] at hg; cases hg
    | none =>
      rw [hc] at hg
      exact (h.u g (List.mem_append_left _ (List.mem_of_getLast? hg))).1
theorem Rng.redoA (h : Rng a) (hz : a.redoE = 0) : ok6 (a.redoA 0) := by
  unfold AS.redoE at hz
  unfold AS.redoA
  cases hg : a.redoG with
  | none => rw [hg] at hz; cases hz
  | some g =>
    unfold AS.redoG at hg
    cases hc : a.cur with
    | some x => rw [hc] at hg; cases hg
    | none =>
      rw [hc] at hg
      exact (h.u g (List.mem_append_right _ (List.mem_of_getLast? hg))).2
theorem Rng.undo_ (h : Rng a) : Rng a.undo_ := by
  unfold AS.undo_
  cases hg : a.undoG with
  | none => exact h
  | some g =>
    refine ⟨fun g' hg' => h.u g' ?_, h.c⟩
    have hm : g ∈ a.undo := by
      unfold AS.undoG at hg
      cases hc : a.cur with
      | some x => rw [hc] at hg; cases hg
      | none => rw [hc] at hg; exact List.mem_of_getLast? hg
    dsimp only at hg'
    rcases List.mem_append.1 hg' with h1 | h1
    · exact List.mem_append_left _ ((List.dropLast_sublist _).subset h1)
    · rcases List.mem_append.1 h1 with h2 | h2
      · exact List.mem_append_right _ h2
      · simp at h2
        subst h2
        exact List.mem_append_left _ hm
theorem Rng.redo_ (h : Rng a) : Rng a.redo_ := by
  unfold AS.redo_
  cases hg : a.redoG with
  | none => exact h
  | some g =>
    refine ⟨fun g' hg' => h.u g' ?_, h.c⟩
    have hm : g ∈ a.redo := by
      unfold AS.redoG at hg
      cases hc : a.cur with
      | some x => rw [hc] at hg; cases hg
      | none => rw [hc] at hg; exact List.mem_of_getLast? hg
    dsimp only at hg'
    rcases List.mem_append.1 hg' with h1 | h1
    · rcases List.mem_append.1 h1 with h2 | h2
      · exact List.mem_append_left _ h2
      · simp at h2
        subst h2
        exact List.mem_append_right _ hm
    · exact List.mem_append_right _ ((List.dropLast_sublist _).subset h1)
theorem Rng.clear : Rng a.clear := ⟨fun g hg => by simp [AS.clear] at hg, fun g r f e => by cases e⟩
end
end Log
end Go.Proofs.YtkpcnfchhnfpoaaDoor
/- Beside: something of many fields by a number; two of them compared; a word of so many letters. -/
set_option linter.unusedVariables false
namespace Go.Proofs.YtkpcnfchhnfpoaaDoor
open Go.RowKit Go.Proofs.YtkpcnfchhnfpoaaDoorW.PrintWords Go.Proofs.YtkpcnfchhnfpoaaDoor.Sep
namespace Log
attribute [local go_sem] LogB.run_store_float
def fadd (n : Int) : Option Nat := floatBits .add .f64 (floatOfInt .f64 n) 4602678819172646912
def fb (n : Int) : Nat := (fadd n).getD 0
theorem fadd_fin : ∀ k : Fin 127, (fadd ((k.val : Int) - 63)).isSome = true := by decide +kernel
theorem feq_fin : ∀ k : Fin 127, (FloatKind.f64.format.order (fb ((k.val : Int) - 63)) (fb ((k.val : Int) - 63)) == some .eq) = true := by decide +kernel
theorem fin_of {n : Int} (h : ok6 n) : ∃ k : Fin 127, n = (k.val : Int) - 63 := ⟨⟨(n + 63).toNat, by unfold ok6 at h; omega⟩, by unfold ok6 at h; dsimp only; omega⟩
theorem fadd_some {n : Int} (h : ok6 n) : fadd n = some (fb n) := by
  obtain ⟨k, rfl⟩ := fin_of h
  have h1 := fadd_fin k
  unfold fb
  cases hx : fadd ((k.val : Int) - 63) with
  | none => rw [hx] at h1; cases h1
  | some b => rfl
theorem feq_self {n : Int} (h : ok6 n) : (FloatKind.f64.format.order (fb n) (fb n) == some .eq) = true := by
  obtain ⟨k, rfl⟩ := fin_of h
  exact feq_fin k
theorem feq_zero : (FloatKind.f64.format.order 0 0 == some .eq) = true := by decide +kernel
abbrev bagg (x : LogB.A) : Value := .agg #[.string x.1, .int .i64 x.2.1, .int .i64 x.2.2.1, .float .f64 x.2.2.2]
def bes (n : Int) : LogB.A := (⟨#[UInt8.ofNat (n % 256).toNat]⟩, n, -n, fb n)
theorem bytes1 {w : World} {g : Nat} {x : Nat} (hx : x < 256) (h : w.cell? ⟨g, 0, none⟩ = some (.int .u8 (x : Int))) : Lib.Bytes w g 0 ⟨#[UInt8.ofNat x]⟩ := by
  intro j hj
  have hj0 : j = 0 := by
    have : (⟨#[UInt8.ofNat x]⟩ : ByteArray).size = 1 := rfl
    omega
  subst hj0
  rw [Nat.add_zero, h]
  have e : ((⟨#[UInt8.ofNat x]⟩ : ByteArray)[0]'hj).toNat = x := by
    show (UInt8.ofNat x).toNat = x
    rw [UInt8.toNat_ofNat']
    exact Nat.mod_eq_of_lt (by omega)
  rw [e]
theorem flds66 : ∃ f0 f1 f2 : Field, (Tryd.prog.fieldsOf 66).toList = [f0, f1, f2] ∧ ((f0.name == "_") = false ∧ f0.type = 9 ∧ f0.offset = 0) ∧ ((f1.name == "_") = false ∧ f1.type = 63 ∧ f1.offset = 1) ∧ ((f2.name == "_") = false ∧ f2.type = 64 ∧ f2.offset = 3) := by
  have h : ((Tryd.prog.fieldsOf 66).toList.map fun f => (f.name == "_", f.type, f.offset)) = [(false, 9, 0), (false, 63, 1), (false, 64, 3)] := by kernel_rfl
  generalize (Tryd.prog.fieldsOf 66).toList = l at h
  rcases l with _ | ⟨f0, _ | ⟨f1, _ | ⟨f2, _ | ⟨f3, l⟩⟩⟩⟩ <;> simp at h
  exact ⟨f0, f1, f2, rfl, by simp [h], by simp [h], by simp [h]⟩
theorem und66 : Tryd.prog.underlying 66 = some (.struct (Tryd.prog.fieldsOf 66)) := by kernel_rfl
theorem info3 : (Tryd.prog.info? 3).map (fun i => (i.zero, i.size, i.bytes)) = some (some (.int .i64 0), 1, 8) := by kernel_rfl
theorem eq_float (w : World) (d : Nat) (a b : Nat) : (Op.equalIn (d + 1) 64 (.float .f64 a) (.float .f64 b)).run Tryd.prog w = .ok (FloatKind.f64.format.order a b == some .eq) w := by
  simp [Op.equalIn, run_underlying Tryd.underlying64, Op.floatEq]
theorem eq_pair (w : World) (d : Nat) (a b a' b' : Int) : (Op.equalIn (d + 1 + 1) 63 (.agg #[.int .i64 a, .int .i64 b]) (.agg #[.int .i64 a', .int .i64 b'])).run Tryd.prog w = .ok ((a == a') && (b == b')) w := by
  obtain ⟨i, hi, h0, h1, h2⟩ := info_parts info3
  rw [run_equalIn_array w (d + 1) _ _ Tryd.underlying63 hi]
  have c3 : Tryd.prog.cellsOf 3 = 1 := by kernel_rfl
  rw [c3]
  show (Op.eqItems (d + 1) 3 1 _ _ [0, 1]).run Tryd.prog w = _
  have p0 : ∀ (x y : Int), (part 3 #[.int .i64 x, .int .i64 y] (0 * 1)).run Tryd.prog w = .ok (.int .i64 x) w := fun x y => by kernel_rfl
  have p1 : ∀ (x y : Int), (part 3 #[.int .i64 x, .int .i64 y] (1 * 1)).run Tryd.prog w = .ok (.int .i64 y) w := fun x y => by kernel_rfl
  have p1' : ∀ (x y : Int), (part 3 #[.int .i64 x, .int .i64 y] 1).run Tryd.prog w = .ok (.int .i64 y) w := fun x y => by kernel_rfl
  have q := fun (x y : Int) => run_equalIn_int w d 3 .i64 .i64 x y Tryd.underlying3
  simp only [Op.eqItems, Sem.run_bind, p0, Result.andThen_ok, q]
  cases h1 : (a == a') <;> cases h2 : (b == b') <;> simp [p1', q, h2]
theorem equal66 (w : World) (a b : LogB.A) : (Op.equalIn 10000 66 (bagg a) (bagg b)).run Tryd.prog w = .ok ((a.1.toList == b.1.toList) && (((a.2.1 == b.2.1) && (a.2.2.1 == b.2.2.1)) && (FloatKind.f64.format.order a.2.2.2 b.2.2.2 == some .eq))) w := by
  refine eqA_of und66 (by kernel_rfl) ?_
  obtain ⟨f0, f1, f2, h, ⟨n0, t0, o0⟩, ⟨n1, t1, o1⟩, ⟨n2, t2, o2⟩⟩ := flds66
  rw [h]
  refine eqf_cons n0 (a := .string a.1) (b := .string b.1) (by rw [t0, o0]; kernel_rfl) (by rw [t0, o0]; kernel_rfl) (by rw [t0]; exact run_equalIn_string _ _ _ _ _ Tryd.underlying9) ?_
  refine eqf_cons n1 (a := .agg #[.int .i64 a.2.1, .int .i64 a.2.2.1]) (b := .agg #[.int .i64 b.2.1, .int .i64 b.2.2.1]) (by rw [t1, o1]; kernel_rfl) (by rw [t1, o1]; kernel_rfl) (by rw [t1]; exact eq_pair _ 9997 _ _ _ _) ?_
  exact eqf_last n2 (a := .float .f64 a.2.2.2) (b := .float .f64 b.2.2.2) (by rw [t2, o2]; kernel_rfl) (by rw [t2, o2]; kernel_rfl) (by rw [t2]; exact eq_float _ 9998 _ _)
theorem eql66 (w : World) (a b : LogB.A) : (binOp .eql 66 (bagg a) (bagg b)).run Tryd.prog w = .ok (.bool ((a.1.toList == b.1.toList) && (((a.2.1 == b.2.1) && (a.2.2.1 == b.2.2.1)) && (FloatKind.f64.format.order a.2.2.2 b.2.2.2 == some .eq)))) w := by
  rw [run_eql_struct, equal66]
  rfl
theorem eql_bes (n : Int) (h : ok6 n) (w : World) : (binOp .eql 66 (bagg (bes n)) (bagg (bes n))).run Tryd.prog w = .ok (.bool true) w := by
  rw [eql66]
  have := feq_self h
  simp [bes, this]
theorem eql_zero (w : World) : (binOp .eql 66 (.agg #[.string ⟨#[]⟩, .int .i64 0, .int .i64 0, .float .f64 0]) (.agg #[.string ⟨#[]⟩, .int .i64 0, .int .i64 0, .float .f64 0])).run Tryd.prog w = .ok (.bool true) w := by
  have h := eql66 w (⟨#[]⟩, 0, 0, 0) (⟨#[]⟩, 0, 0, 0)
  rw [feq_zero] at h
  simpa using h
set_option maxHeartbeats 6400000
set_option maxRecDepth 100000
theorem beside_ (w : World) (n : Int) (h : ok6 n) : Calls Tryd.prog 35 #[.int .i64 n] w fun e w' => e = .returned (bagg (bes n)) ∧ Below w.heap.size w w' := by
  obtain ⟨x, hx⟩ : ∃ x : Nat, x = (n % 256).toNat := ⟨_, rfl⟩
  have hx2 : x < 256 := by omega
  have hn1 : -63 ≤ n := h.1
  have hn2 : n ≤ 63 := h.2
  have hfl : ∀ w, (convert 3 64 (.int .i64 n)).run Tryd.prog w = .ok (.float .f64 (floatOfInt .f64 n)) w := fun w => run_convert_int_float w 3 64 .i64 .f64 n (by rw [Tryd.underlying3]; rfl) Tryd.underlying64
  have hfa : ∀ w, (binOp .add 64 (.float .f64 (floatOfInt .f64 n)) (.float .f64 4602678819172646912)).run Tryd.prog w = .ok (.float .f64 (fb n)) w := fun w => run_float_arith w .add 64 .f64 _ _ _ (fadd_some h)
  have hcs : ∀ W : World, (convert 69 9 (.slice (some ⟨W.heap.size, 0, none⟩) 1 1)).run Tryd.prog (W.alloc (.cells #[.int .u8 (n % 256)] 5)) = .ok (.string ⟨#[UInt8.ofNat x]⟩) (W.alloc (.cells #[.int .u8 (n % 256)] 5)) := fun W => by
    rw [show n % 256 = (x : Int) by omega]
    have hb := bytes1 hx2 (((Blk.new W 5 #[.int .u8 (x : Int)]).cell 0).trans rfl)
    exact Lib.run_convert_whole _ 69 5 9 Tryd.underlying69 Tryd.underlying5 Tryd.underlying9 _ 0 ⟨#[UInt8.ofNat x]⟩ hb 1
  have hcs2 := hcs (w.alloc (.cells #[.string ⟨#[]⟩, .int .i64 0, .int .i64 0, .float .f64 0] 66))
  rw [World.size_alloc] at hcs2
  clear h hcs hx2
  have hx := Lib.hid hx
  go_enter Tryd.func35, Tryd.ntmps35
  go_wp2
  go_returns
  unfold bes
  exact ⟨rfl, by repeat' (first | with_reducible exact Below.refl _ _ | with_reducible refine Below.drewN' ?_ _ | with_reducible refine LogB.below_drew0 ?_ | (with_reducible refine Below.alloc ?_ (by first | (simp; done) | (simp; omega)) _))⟩
end Log
end Go.Proofs.YtkpcnfchhnfpoaaDoor
/- Three logs in new memory, apart. -/
set_option linter.unusedVariables false
namespace Go.Proofs.YtkpcnfchhnfpoaaDoor
open Go.RowKit Go.Proofs.YtkpcnfchhnfpoaaDoorW.PrintWords Go.Proofs.YtkpcnfchhnfpoaaDoor.Sep Log
namespace Log
def wlen (n : Int) : Nat := (Int.tmod (Int.tmod n 8 + 8) 8).toNat
def wrd (n : Int) : ByteArray := ⟨Array.replicate (wlen n) 0⟩
structure M3 (w0 w : World) (p : Nat) (s : LogI.LS) (q : Nat) (t : LogB.LS) (r : Nat) (u : LogS.LS) (a : AS Int) (b : AS LogB.A) (c : AS LogS.A) (N M K : Nat) : Prop where
  l : LogI.LB w0 w p s a N
  m : LogB.LB w0 w q t b M
  k : LogS.LB w0 w r u c K
  pq : ∀ k, LogI.foot p s k → ¬ LogB.foot q t k
  pr : ∀ k, LogI.foot p s k → ¬ LogS.foot r u k
  qr : ∀ k, LogB.foot q t k → ¬ LogS.foot r u k
def F3 (p : Nat) (s : LogI.LS) (q : Nat) (t : LogB.LS) (r : Nat) (u : LogS.LS) (k : Nat) : Prop := LogI.foot p s k ∨ LogB.foot q t k ∨ LogS.foot r u k
section
variable {w0 w w' : World} {p q r : Nat} {s : LogI.LS} {t : LogB.LS} {u : LogS.LS} {a a' : AS Int} {b b' : AS LogB.A} {c c' : AS LogS.A} {N M K N' : Nat} {S : Nat → Prop}
theorem M3.lt (h : M3 w0 w p s q t r u a b c N M K) : ∀ k, F3 p s q t r u k → k < w.heap.size := by
  rintro k (hk | hk | hk)
  · exact h.l.at_.lt k hk
  · exact h.m.at_.lt k hk
  · exact h.k.at_.lt k hk
theorem M3.later (h : M3 w0 w p s q t r u a b c N M K) (hb : Below w.heap.size w w') : M3 w0 w' p s q t r u a b c N M K := ⟨h.l.later hb, h.m.later hb, h.k.later hb, h.pq, h.pr, h.qr⟩
theorem M3.stepL (h : M3 w0 w p s q t r u a b c N M K) (hb : LogI.Box w0 w w' p s a' N') : ∃ s', M3 w0 w' p s' q t r u a' b c N' M K ∧ Upd (F3 p s q t r u) w w' ∧ ∀ k, F3 p s' q t r u k → F3 p s q t r u k ∨ w.heap.size ≤ k := by
  obtain ⟨s', h1, h2, h3⟩ := hb
  refine ⟨s', ⟨h1, h.m.beside h2 (fun k hk => ⟨h.l.new k hk, h.pq k hk⟩), h.k.beside h2 (fun k hk => ⟨h.l.new k hk, h.pr k hk⟩), fun k hk hx => ?_, fun k hk hx => ?_, h.qr⟩, h2.mono (fun k hk => .inl hk), fun k hk => ?_⟩
  · rcases h3 k hk with e | e
    · exact h.pq k e hx
    · have := h.m.at_.lt k hx
      omega
  · rcases h3 k hk with e | e
    · exact h.pr k e hx
    · have := h.k.at_.lt k hx
      omega
  · rcases hk with hk | hk
    · exact (h3 k hk).imp .inl id
    · exact .inl (.inr hk)
theorem M3.stepM (h : M3 w0 w p s q t r u a b c N M K) (hb : LogB.Box w0 w w' q t b' N') : ∃ t', M3 w0 w' p s q t' r u a b' c N N' K ∧ Upd (F3 p s q t r u) w w' ∧ ∀ k, F3 p s q t' r u k → F3 p s q t r u k ∨ w.heap.size ≤ k := by
  obtain ⟨t', h1, h2, h3⟩ := hb
  refine ⟨t', ⟨h.l.beside h2 (fun k hk => ⟨h.m.new k hk, fun hx => h.pq k hx hk⟩), h1, h.k.beside h2 (fun k hk => ⟨h.m.new k hk, h.qr k hk⟩), fun k hk hx => ?_, h.pr, fun k hk hx => ?_⟩, h2.mono (fun k hk => .inr (.inl hk)), fun k hk => ?_⟩
  · rcases h3 k hx with e | e
    · exact h.pq k hk e
    · have := h.l.at_.lt k hk
      omega
  · rcases h3 k hk with e | e
    · exact h.qr k e hx
    · have := h.k.at_.lt k hx
      omega
  · rcases hk with hk | hk | hk
    · exact .inl (.inl hk)
    · exact (h3 k hk).imp (fun e => .inr (.inl e)) id
    · exact .inl (.inr (.inr hk))
theorem M3.stepK (h : M3 w0 w p s q t r u a b c N M K) (hb : LogS.Box w0 w w' r u c' N') : ∃ u', M3 w0 w' p s q t r u' a b c' N M N' ∧ Upd (F3 p s q t r u) w w' ∧ ∀ k, F3 p s q t r u' k → F3 p s q t r u k ∨ w.heap.size ≤ k := by
  obtain ⟨u', h1, h2, h3⟩ := hb
  refine ⟨u', ⟨h.l.beside h2 (fun k hk => ⟨h.k.new k hk, fun hx => h.pr k hx hk⟩), h.m.beside h2 (fun k hk => ⟨h.k.new k hk, fun hx => h.qr k hx hk⟩), h1, h.pq, fun k hk hx => ?_, fun k hk hx => ?_⟩, h2.mono (fun k hk => .inr (.inr hk)), fun k hk => ?_⟩
  · rcases h3 k hx with e | e
    · exact h.pr k hk e
    · have := h.l.at_.lt k hk
      omega
  · rcases h3 k hx with e | e
    · exact h.qr k hk e
    · have := h.m.at_.lt k hk
      omega
  · rcases hk with hk | hk | hk
    · exact .inl (.inl hk)
    · exact .inl (.inr (.inl hk))
    · exact (h3 k hk).imp (fun e => .inr (.inr e)) id
theorem M3.listL (h : M3 w0 w p s q t r u a b c N M K) {v : Value} {ds : List Delta} (hb : LogI.BoxL w0 w w' p s a' N' v ds) : ∃ s', M3 w0 w' p s' q t r u a' b c N' M K ∧ OwnD w' v ds ∧ ∀ k, v.ownBlock = some k → ¬ LogB.foot q t k ∧ ¬ LogS.foot r u k := by
  obtain ⟨s', h1, h2, h3, h4, h5⟩ := hb
  obtain ⟨s2, hm, _⟩ := h.stepL ⟨s', h1, h2, h3⟩
  exact ⟨s2, hm, h4, fun k hk => ⟨fun hx => by have h6 := (h5 k hk).1; have h7 := h.m.at_.lt k hx; omega, fun hx => by have h6 := (h5 k hk).1; have h7 := h.k.at_.lt k hx; omega⟩⟩
theorem M3.listM (h : M3 w0 w p s q t r u a b c N M K) {v x : Value} {ds es : List Delta} (hb : LogB.BoxL w0 w w' q t b' N' v ds) (hx : OwnD w x es) (fx : ∀ k, x.ownBlock = some k → ¬ LogB.foot q t k ∧ ¬ LogS.foot r u k) : ∃ t', M3 w0 w' p s q t' r u a b' c N N' K ∧ OwnD w' v ds ∧ OwnD w' x es ∧ ∀ k, v.ownBlock = some k → ¬ LogS.foot r u k := by
  obtain ⟨t', h1, h2, h3, h4, h5⟩ := hb
  obtain ⟨t2, hm, _⟩ := h.stepM ⟨t', h1, h2, h3⟩
  exact ⟨t2, hm, h4, OwnS.upd hx h2 (fun k hk => (fx k hk).1), fun k hk hx => by have h6 := (h5 k hk).1; have h7 := h.k.at_.lt k hx; omega⟩
theorem M3.listK (h : M3 w0 w p s q t r u a b c N M K) {v x y : Value} {ds es fs : List Delta} (hb : LogS.BoxL w0 w w' r u c' N' v ds) (hx : OwnD w x es) (fx : ∀ k, x.ownBlock = some k → ¬ LogS.foot r u k) (hy : OwnD w y fs) (fy : ∀ k, y.ownBlock = some k → ¬ LogS.foot r u k) : ∃ u', M3 w0 w' p s q t r u' a b c' N M N' ∧ OwnD w' v ds ∧ OwnD w' x es ∧ OwnD w' y fs ∧ Upd (LogS.foot r u) w w' := by
  obtain ⟨u', h1, h2, h3, h4, h5⟩ := hb
  obtain ⟨u2, hm, _⟩ := h.stepK ⟨u', h1, h2, h3⟩
  exact ⟨u2, hm, h4, OwnS.upd hx h2 fx, OwnS.upd hy h2 fy, h2⟩
theorem OwnD.below3 {v : Value} {ds : List Delta} (hu : OwnD w v ds) (hb : Below w.heap.size w w') : OwnD w' v ds := OwnS.upd hu (Upd.below hb No) (fun _ _ h => h)
theorem undoL_len3 {α : Type} {a : AS α} (h : AS.Inv N a) : a.undoL.length ≤ N := by
  unfold AS.undoL AS.undoG
  cases hc : a.cur with
  | some y => exact Nat.zero_le _
  | none =>
    cases hl : a.undo.getLast? with
    | none => simp
    | some g =>
      have := h.d g (List.mem_append_left _ (List.mem_of_getLast? hl))
      simp only
      unfold back
      rw [List.length_map, List.length_reverse]
      exact this
theorem redoL_len3 {α : Type} {a : AS α} (h : AS.Inv N a) : a.redoL.length ≤ N := by
  unfold AS.redoL AS.redoG
  cases hc : a.cur with
  | some y => exact Nat.zero_le _
  | none =>
    cases hl : a.redo.getLast? with
    | none => simp
    | some g =>
      have := h.d g (List.mem_append_right _ (List.mem_of_getLast? hl))
      simp only
      exact this
end
theorem beside_x (w : World) (n : Int) (h : ok6 n) (x1 : ByteArray) (x2 x3 : Int) (x4 : Nat) (hx : bes n = (x1, x2, x3, x4)) : Calls Tryd.prog 35 #[.int .i64 n] w fun e w' => e = .returned (.agg #[.string x1, .int .i64 x2, .int .i64 x3, .float .f64 x4]) ∧ Below w.heap.size w w' := by
  have h1 := beside_ w n h
  rw [hx] at h1
  exact h1
theorem eql_bes_x (n : Int) (h : ok6 n) (x1 : ByteArray) (x2 x3 : Int) (x4 : Nat) (hx : bes n = (x1, x2, x3, x4)) (w : World) : (binOp .eql 66 (.agg #[.string x1, .int .i64 x2, .int .i64 x3, .float .f64 x4]) (.agg #[.string x1, .int .i64 x2, .int .i64 x3, .float .f64 x4])).run Tryd.prog w = .ok (.bool true) w := by
  have h1 := eql_bes n h w
  rw [hx] at h1
  exact h1
end Log
end Go.Proofs.YtkpcnfchhnfpoaaDoor
/- LogWide: an undo or redo on three logs, walked. Printed by a program of this claim. -/
set_option linter.unusedVariables false
namespace Go.Proofs.YtkpcnfchhnfpoaaDoor
open Go.RowKit Go.Proofs.YtkpcnfchhnfpoaaDoorW.PrintWords Go.Proofs.YtkpcnfchhnfpoaaDoor.Sep Log
namespace Log
attribute [local go_sem] LogB.run_store_float
theorem undo_x {w0 w : World} {q : Nat} {t : LogB.LS} {a : AS LogB.A} {N : Nat} (h : LogB.LB w0 w q t a N) (ds : List Delta) (hd : a.undoL = ds) (x1 : ByteArray) (x2 x3 : Int) (x4 : Nat) (hx : a.undoA LogB.zA = (x1, x2, x3, x4)) (c : Int) (hc : a.undoE = c) : Calls Tryd.prog 71 #[.pointer (some ⟨q, 0, none⟩)] w fun e w' => ∃ v, e = .returned (.tuple #[v, .agg #[.string x1, .int .i64 x2, .int .i64 x3, .float .f64 x4], .int .i64 c]) ∧ LogB.BoxL w0 w w' q t a.undo_ N v ds := LogB.undo_b h ds hd (x1, x2, x3, x4) hx c hc _ rfl
theorem redo_x {w0 w : World} {q : Nat} {t : LogB.LS} {a : AS LogB.A} {N : Nat} (h : LogB.LB w0 w q t a N) (ds : List Delta) (hd : a.redoL = ds) (x1 : ByteArray) (x2 x3 : Int) (x4 : Nat) (hx : a.redoA LogB.zA = (x1, x2, x3, x4)) (c : Int) (hc : a.redoE = c) : Calls Tryd.prog 73 #[.pointer (some ⟨q, 0, none⟩)] w fun e w' => ∃ v, e = .returned (.tuple #[v, .agg #[.string x1, .int .i64 x2, .int .i64 x3, .float .f64 x4], .int .i64 c]) ∧ LogB.BoxL w0 w w' q t a.redo_ N v ds := LogB.redo_b h ds hd (x1, x2, x3, x4) hx c hc _ rfl
theorem wrd_size (n : Int) : (wrd n).size = wlen n := by unfold wrd; show (Array.replicate _ _).size = _; rw [Array.size_replicate]
theorem world_class (w : World) : ∃ (ι : Type) (_ : Nonempty ι) (Wf : ι → World), (∀ i, Below w.heap.size w (Wf i)) ∧ (∀ w', Below w.heap.size w w' → ∃ i, w' = Wf i) :=
  ⟨{w' : World // Below w.heap.size w w'}, ⟨⟨w, Below.refl _ _⟩⟩, fun i => i.1, fun i => i.2, fun w' h => ⟨⟨w', h⟩, rfl⟩⟩
theorem region_class {P : Program} {ι : Type} (Wf : ι → World) {id : Nat} {Q : Exit → Act → World → Prop} {a : Act} {w : World} {l : List Oper} (hm : P.follows .mixedOrders = true) (hB : Region.lexB .any l.toArray = true) (hC : ∃ i, w.drew = Wf i)
    (h : wpQuiet P l.toArray (fun w' => ∃ i, w' = Wf i) (fun a' => ∀ w', (∃ i, w' = Wf i) → Q .normal a' w') l a) : (Code.region id l.toArray true).wp P Q a w :=
  wp_region_quiet (C := fun w' => ∃ i, w' = Wf i) hm hB hC (by simpa using h)
section
variable {w0 w : World} {p q r : Nat} {s : LogI.LS} {t : LogB.LS} {u : LogS.LS} {a : AS Int} {b : AS LogB.A} {c : AS LogS.A} {N : Nat}
set_option maxHeartbeats 40000000
set_option maxRecDepth 100000
theorem sides_uo (h : M3 w0 w p s q t r u a b c N N N) (sb : Sim bes a b) (ss : Sim wrd a c) (rg : Rng a) (he : a.undoE = 0) :
    Calls Tryd.prog 49 #[.pointer (some ⟨p, 0, none⟩), .pointer (some ⟨q, 0, none⟩), .pointer (some ⟨r, 0, none⟩), .bool true] w fun e w' => e = .returned (.bool true) ∧ ∃ s' t' u', M3 w0 w' p s' q t' r u' a.undo_ b.undo_ c.undo_ N N N := by
  have hlen : a.undoL.length ≤ 1000000000000 := by have h1 := undoL_len3 h.l.inv; have h2 := h.l.small; omega
  obtain ⟨ds, hds⟩ : ∃ ds, a.undoL = ds := ⟨_, rfl⟩
  rw [hds] at hlen
  have HDA := Lib.hid hds
  have HDB : Hid (b.undoL = ds) := Lib.hid (by rw [sb.undoL]; exact hds)
  have HDC : Hid (c.undoL = ds) := Lib.hid (by rw [ss.undoL]; exact hds)
  have HEA := Lib.hid he
  have HEB : Hid (b.undoE = 0) := Lib.hid (by rw [sb.undoE]; exact he)
  have HEC : Hid (c.undoE = 0) := Lib.hid (by rw [ss.undoE]; exact he)
  obtain ⟨nd, hnd⟩ : ∃ nd, ds.length = nd := ⟨_, rfl⟩
  rw [hnd] at hlen
  have HND := Lib.hid hnd
  have hdd : decide (ds = ds) = true := by simp
  obtain ⟨n, hn⟩ : ∃ n, a.undoA 0 = n := ⟨_, rfl⟩
  have HNA : Hid (a.undoA LogI.zA = n) := Lib.hid hn
  have hok : ok6 n := by rw [← hn]; exact rg.undoA he
  have hn1 : -63 ≤ n := hok.1
  have hn2 : n ≤ 63 := hok.2
  obtain ⟨x1, x2, x3, x4, hx⟩ : ∃ x1 x2 x3 x4, bes n = (x1, x2, x3, x4) := ⟨_, _, _, _, rfl⟩
  have HXB : Hid (b.undoA LogB.zA = (x1, x2, x3, x4)) := Lib.hid (by
    rcases sb.undoA 0 LogB.zA with ⟨_, h2⟩ | ⟨h1, _⟩
    · rw [h2, hn, hx]
    · rw [he] at h1
      exact absurd h1 (by decide))
  have HWC : Hid (c.undoA LogS.zA = wrd n) := Lib.hid (by
    rcases ss.undoA 0 LogS.zA with ⟨_, h2⟩ | ⟨h1, _⟩
    · rw [h2, hn]
    · rw [he] at h1
      exact absurd h1 (by decide))
  obtain ⟨ww, hww⟩ : ∃ ww, wrd n = ww := ⟨_, rfl⟩
  obtain ⟨n8, hn8⟩ : ∃ n8, Int.tmod n 8 = n8 := ⟨_, rfl⟩
  have hn81 : -8 < n8 := by rw [← hn8]; exact Int.lt_tmod_of_pos n (by omega)
  have hn82 : n8 < 8 := by rw [← hn8]; exact Int.tmod_lt_of_pos n (by omega)
  have hwl : Int.tmod (n8 + 8) 8 = (ww.size : Int) := by
    rw [← hww, wrd_size]
    unfold wlen
    rw [hn8, Int.toNat_of_nonneg (Int.tmod_nonneg _ (by omega))]
  have hwr : IntKind.i64.wrap (n8 + 8) = n8 + 8 := by rw [IntKind.wrap_i64]; omega
  rw [hww] at HWC
  have HOK := Lib.hid hok
  have HX := Lib.hid hx
  have heq := eql_bes_x n hok x1 x2 x3 x4 hx
  clear hn hok hx hww
  have HM := Lib.hid h
  clear h sb ss rg he hds hnd
  go_enter Tryd.func49, Tryd.ntmps49
  go_wp2_with (first
    | (go_at_call 25; go_fit (LogI.undo_b HM.out.l ds HDA.out n HNA.out 0 HEA.out _ rfl); rintro e w3 ⟨v3, rfl, hb⟩; obtain ⟨s3, hm3, ho3, hf3⟩ := HM.out.listL hb; obtain ⟨A3, c3, hv3, -⟩ := ho3.len; rw [HND.out] at hv3; subst hv3; have HM3 := Lib.hid hm3; have HO3 := Lib.hid ho3; have HF3 := Lib.hid hf3; clear hb hm3 ho3 hf3)
    | (go_at_call 71; go_fit (undo_x HM3.out.m ds HDB.out x1 x2 x3 x4 HXB.out 0 HEB.out); rintro e w4 ⟨v4, rfl, hb⟩; obtain ⟨t4, hm4, ho4, ho3, hf4⟩ := HM3.out.listM hb HO3.out HF3.out; obtain ⟨A4, c4, hv4, -⟩ := ho4.len; rw [HND.out] at hv4; subst hv4; have hbl := below_one w4 (.cells #[.string x1, .int .i64 x2, .int .i64 x3, .float .f64 x4] 66); have hng : ¬ LogS.foot r u w4.heap.size := fun hx => Nat.lt_irrefl _ (hm4.k.at_.lt _ hx); have HNG := Lib.hid hng; have HM4 := Lib.hid (hm4.later hbl); have HO4 := Lib.hid (OwnD.below3 ho4 hbl); have HO3b := Lib.hid (OwnD.below3 ho3 hbl); have HF4 := Lib.hid hf4; have HF3b := Lib.hid (fun k hk => (HF3.out k hk).2); have HBB := Lib.hid (Blk.new w4 66 #[.string x1, .int .i64 x2, .int .i64 x3, .float .f64 x4]); clear hb hm4 ho4 ho3 hf4 hbl hng)
    | (go_at_call 72; go_fit (LogS.undo_b HM4.out.k ds HDC.out ww HWC.out 0 HEC.out _ rfl); rintro e w5 ⟨v5, rfl, hb⟩; obtain ⟨u5, hm5, ho5, ho3, ho4, hu5⟩ := HM4.out.listK hb HO3b.out HF3b.out HO4.out HF4.out; obtain ⟨A5, c5, hv5, -⟩ := ho5.len; rw [HND.out] at hv5; subst hv5; have hbb := HBB.out.upd hu5 HNG.out; have y0 := hbb.cell 0; have y1 := hbb.cell 1; have y2 := hbb.cell 2; have y3 := hbb.cell 3; simp only [List.getElem?_toArray, List.getElem?_cons_succ, List.getElem?_cons_zero] at y0 y1 y2 y3; have HBB5 := Lib.hid hbb; have HM5 := Lib.hid hm5; have HO3c := Lib.hid ho3; have HO4c := Lib.hid ho4; have HO5c := Lib.hid ho5; clear hb hm5 ho5 ho3 ho4 hu5 hbb))
  obtain ⟨ι, hι, Wf, hW1, hW2⟩ := world_class w5
  have HW1 := Lib.hid hW1
  have HW2 := Lib.hid hW2
  have g0 := fun i => (hW1 i).cell (p := ⟨w4.heap.size, 0, none⟩) HBB5.out.lt |>.trans y0
  have g1 := fun i => (hW1 i).cell (p := ⟨w4.heap.size, 1, none⟩) HBB5.out.lt |>.trans y1
  have g2 := fun i => (hW1 i).cell (p := ⟨w4.heap.size, 2, none⟩) HBB5.out.lt |>.trans y2
  have g3 := fun i => (hW1 i).cell (p := ⟨w4.heap.size, 3, none⟩) HBB5.out.lt |>.trans y3
  have Q1 : Hid (∀ i, Calls Tryd.prog 27 #[.slice A3 nd c3, .slice A4 nd c4] (Wf i) fun e w'' => e = .returned (.bool true) ∧ ∃ j, w'' = Wf j) := Lib.hid (fun i => (same _ A3 A4 nd nd c3 c4 ds ds (OwnD.reads (OwnD.below3 HO3c.out (hW1 i)) HND.out.symm) (OwnD.reads (OwnD.below3 HO4c.out (hW1 i)) HND.out.symm) (by omega)).mono (fun e w1 h1 => ⟨h1.1.trans (by simp), hW2 _ ((hW1 i).trans (h1.2.mono (hW1 i).size))⟩))
  have Q2 : Hid (∀ i, Calls Tryd.prog 27 #[.slice A3 nd c3, .slice A5 nd c5] (Wf i) fun e w'' => e = .returned (.bool true) ∧ ∃ j, w'' = Wf j) := Lib.hid (fun i => (same _ A3 A5 nd nd c3 c5 ds ds (OwnD.reads (OwnD.below3 HO3c.out (hW1 i)) HND.out.symm) (OwnD.reads (OwnD.below3 HO5c.out (hW1 i)) HND.out.symm) (by omega)).mono (fun e w1 h1 => ⟨h1.1.trans (by simp), hW2 _ ((hW1 i).trans (h1.2.mono (hW1 i).size))⟩))
  have Q3 : Hid (∀ i, Calls Tryd.prog 35 #[.int .i64 n] (Wf i) fun e w'' => e = .returned (.agg #[.string x1, .int .i64 x2, .int .i64 x3, .float .f64 x4]) ∧ ∃ j, w'' = Wf j) := Lib.hid (fun i => (beside_x _ n HOK.out x1 x2 x3 x4 HX.out).mono (fun e w1 h1 => ⟨h1.1, hW2 _ ((hW1 i).trans (h1.2.mono (hW1 i).size))⟩))
  clear hW1 hW2 y0 y1 y2 y3
  refine region_class Wf (by kernel_rfl) (by kernel_rfl) (HW2.out _ ⟨rfl, rfl, rfl, Nat.le_refl _, fun _ _ => rfl⟩) ?_
  repeat (go_big_quiet_step (first
    | (go_at_call 27; with_reducible exact Q1.out _)
    | (go_at_call 27; with_reducible exact Q2.out _)
    | (go_at_call 35; with_reducible exact Q3.out _)))
  refine wpQuiet_nil ?_
  intro w9 hw9
  obtain ⟨i9, rfl⟩ := hw9
  go_wp2
  go_ret
  exact ⟨rfl, _, _, _, HM5.out.later (HW1.out i9)⟩
theorem sides_un (h : M3 w0 w p s q t r u a b c N N N) (sb : Sim bes a b) (ss : Sim wrd a c) (rg : Rng a) (he : a.undoE = 3) :
    Calls Tryd.prog 49 #[.pointer (some ⟨p, 0, none⟩), .pointer (some ⟨q, 0, none⟩), .pointer (some ⟨r, 0, none⟩), .bool true] w fun e w' => e = .returned (.bool true) ∧ ∃ s' t' u', M3 w0 w' p s' q t' r u' a.undo_ b.undo_ c.undo_ N N N := by
  have hlen : a.undoL.length ≤ 1000000000000 := by have h1 := undoL_len3 h.l.inv; have h2 := h.l.small; omega
  obtain ⟨ds, hds⟩ : ∃ ds, a.undoL = ds := ⟨_, rfl⟩
  rw [hds] at hlen
  have HDA := Lib.hid hds
  have HDB : Hid (b.undoL = ds) := Lib.hid (by rw [sb.undoL]; exact hds)
  have HDC : Hid (c.undoL = ds) := Lib.hid (by rw [ss.undoL]; exact hds)
  have HEA := Lib.hid he
  have HEB : Hid (b.undoE = 3) := Lib.hid (by rw [sb.undoE]; exact he)
  have HEC : Hid (c.undoE = 3) := Lib.hid (by rw [ss.undoE]; exact he)
  obtain ⟨nd, hnd⟩ : ∃ nd, ds.length = nd := ⟨_, rfl⟩
  rw [hnd] at hlen
  have HND := Lib.hid hnd
  have hdd : decide (ds = ds) = true := by simp
  have HNA : Hid (a.undoA LogI.zA = 0) := Lib.hid (by
    rcases sb.undoA 0 LogB.zA with ⟨h1, _⟩ | ⟨_, h2, _⟩
    · rw [he] at h1
      exact absurd h1 (by decide)
    · exact h2)
  have HXB : Hid (b.undoA LogB.zA = (⟨#[]⟩, 0, 0, 0)) := Lib.hid (by
    rcases sb.undoA 0 LogB.zA with ⟨h1, _⟩ | ⟨_, _, h2⟩
    · rw [he] at h1
      exact absurd h1 (by decide)
    · exact h2)
  have HWC : Hid (c.undoA LogS.zA = ⟨#[]⟩) := Lib.hid (by
    rcases ss.undoA 0 LogS.zA with ⟨h1, _⟩ | ⟨_, _, h2⟩
    · rw [he] at h1
      exact absurd h1 (by decide)
    · exact h2)
  have heq := eql_zero
  have HM := Lib.hid h
  clear h sb ss rg he hds hnd
  go_enter Tryd.func49, Tryd.ntmps49
  go_wp2_with (first
    | (go_at_call 25; go_fit (LogI.undo_b HM.out.l ds HDA.out 0 HNA.out 3 HEA.out _ rfl); rintro e w3 ⟨v3, rfl, hb⟩; obtain ⟨s3, hm3, ho3, hf3⟩ := HM.out.listL hb; obtain ⟨A3, c3, hv3, -⟩ := ho3.len; rw [HND.out] at hv3; subst hv3; have HM3 := Lib.hid hm3; have HO3 := Lib.hid ho3; have HF3 := Lib.hid hf3; clear hb hm3 ho3 hf3)
    | (go_at_call 71; go_fit (undo_x HM3.out.m ds HDB.out ⟨#[]⟩ 0 0 0 HXB.out 3 HEB.out); rintro e w4 ⟨v4, rfl, hb⟩; obtain ⟨t4, hm4, ho4, ho3, hf4⟩ := HM3.out.listM hb HO3.out HF3.out; obtain ⟨A4, c4, hv4, -⟩ := ho4.len; rw [HND.out] at hv4; subst hv4; have hbl := below_one w4 (.cells #[.string ⟨#[]⟩, .int .i64 0, .int .i64 0, .float .f64 0] 66); have hng : ¬ LogS.foot r u w4.heap.size := fun hx => Nat.lt_irrefl _ (hm4.k.at_.lt _ hx); have HNG := Lib.hid hng; have HM4 := Lib.hid (hm4.later hbl); have HO4 := Lib.hid (OwnD.below3 ho4 hbl); have HO3b := Lib.hid (OwnD.below3 ho3 hbl); have HF4 := Lib.hid hf4; have HF3b := Lib.hid (fun k hk => (HF3.out k hk).2); have HBB := Lib.hid (Blk.new w4 66 #[.string ⟨#[]⟩, .int .i64 0, .int .i64 0, .float .f64 0]); clear hb hm4 ho4 ho3 hf4 hbl hng)
    | (go_at_call 72; go_fit (LogS.undo_b HM4.out.k ds HDC.out ⟨#[]⟩ HWC.out 3 HEC.out _ rfl); rintro e w5 ⟨v5, rfl, hb⟩; obtain ⟨u5, hm5, ho5, ho3, ho4, hu5⟩ := HM4.out.listK hb HO3b.out HF3b.out HO4.out HF4.out; obtain ⟨A5, c5, hv5, -⟩ := ho5.len; rw [HND.out] at hv5; subst hv5; have hbb := HBB.out.upd hu5 HNG.out; have y0 := hbb.cell 0; have y1 := hbb.cell 1; have y2 := hbb.cell 2; have y3 := hbb.cell 3; simp only [List.getElem?_toArray, List.getElem?_cons_succ, List.getElem?_cons_zero] at y0 y1 y2 y3; have HBB5 := Lib.hid hbb; have HM5 := Lib.hid hm5; have HO3c := Lib.hid ho3; have HO4c := Lib.hid ho4; have HO5c := Lib.hid ho5; clear hb hm5 ho5 ho3 ho4 hu5 hbb))
  obtain ⟨ι, hι, Wf, hW1, hW2⟩ := world_class w5
  have HW1 := Lib.hid hW1
  have HW2 := Lib.hid hW2
  have g0 := fun i => (hW1 i).cell (p := ⟨w4.heap.size, 0, none⟩) HBB5.out.lt |>.trans y0
  have g1 := fun i => (hW1 i).cell (p := ⟨w4.heap.size, 1, none⟩) HBB5.out.lt |>.trans y1
  have g2 := fun i => (hW1 i).cell (p := ⟨w4.heap.size, 2, none⟩) HBB5.out.lt |>.trans y2
  have g3 := fun i => (hW1 i).cell (p := ⟨w4.heap.size, 3, none⟩) HBB5.out.lt |>.trans y3
  have Q1 : Hid (∀ i, Calls Tryd.prog 27 #[.slice A3 nd c3, .slice A4 nd c4] (Wf i) fun e w'' => e = .returned (.bool true) ∧ ∃ j, w'' = Wf j) := Lib.hid (fun i => (same _ A3 A4 nd nd c3 c4 ds ds (OwnD.reads (OwnD.below3 HO3c.out (hW1 i)) HND.out.symm) (OwnD.reads (OwnD.below3 HO4c.out (hW1 i)) HND.out.symm) (by omega)).mono (fun e w1 h1 => ⟨h1.1.trans (by simp), hW2 _ ((hW1 i).trans (h1.2.mono (hW1 i).size))⟩))
  have Q2 : Hid (∀ i, Calls Tryd.prog 27 #[.slice A3 nd c3, .slice A5 nd c5] (Wf i) fun e w'' => e = .returned (.bool true) ∧ ∃ j, w'' = Wf j) := Lib.hid (fun i => (same _ A3 A5 nd nd c3 c5 ds ds (OwnD.reads (OwnD.below3 HO3c.out (hW1 i)) HND.out.symm) (OwnD.reads (OwnD.below3 HO5c.out (hW1 i)) HND.out.symm) (by omega)).mono (fun e w1 h1 => ⟨h1.1.trans (by simp), hW2 _ ((hW1 i).trans (h1.2.mono (hW1 i).size))⟩))
  clear hW1 hW2 y0 y1 y2 y3
  refine region_class Wf (by kernel_rfl) (by kernel_rfl) (HW2.out _ ⟨rfl, rfl, rfl, Nat.le_refl _, fun _ _ => rfl⟩) ?_
  repeat (go_big_quiet_step (first
    | (go_at_call 27; with_reducible exact Q1.out _)
    | (go_at_call 27; with_reducible exact Q2.out _)))
  refine wpQuiet_nil ?_
  intro w9 hw9
  obtain ⟨i9, rfl⟩ := hw9
  go_wp2
  go_ret
  exact ⟨rfl, _, _, _, HM5.out.later (HW1.out i9)⟩
theorem sides_ro (h : M3 w0 w p s q t r u a b c N N N) (sb : Sim bes a b) (ss : Sim wrd a c) (rg : Rng a) (he : a.redoE = 0) :
    Calls Tryd.prog 49 #[.pointer (some ⟨p, 0, none⟩), .pointer (some ⟨q, 0, none⟩), .pointer (some ⟨r, 0, none⟩), .bool false] w fun e w' => e = .returned (.bool true) ∧ ∃ s' t' u', M3 w0 w' p s' q t' r u' a.redo_ b.redo_ c.redo_ N N N := by
  have hlen : a.redoL.length ≤ 1000000000000 := by have h1 := redoL_len3 h.l.inv; have h2 := h.l.small; omega
  obtain ⟨ds, hds⟩ : ∃ ds, a.redoL = ds := ⟨_, rfl⟩
  rw [hds] at hlen
  have HDA := Lib.hid hds
  have HDB : Hid (b.redoL = ds) := Lib.hid (by rw [sb.redoL]; exact hds)
  have HDC : Hid (c.redoL = ds) := Lib.hid (by rw [ss.redoL]; exact hds)
  have HEA := Lib.hid he
  have HEB : Hid (b.redoE = 0) := Lib.hid (by rw [sb.redoE]; exact he)
  have HEC : Hid (c.redoE = 0) := Lib.hid (by rw [ss.redoE]; exact he)
  obtain ⟨nd, hnd⟩ : ∃ nd, ds.length = nd := ⟨_, rfl⟩
  rw [hnd] at hlen
  have HND := Lib.hid hnd
  have hdd : decide (ds = ds) = true := by simp
  obtain ⟨n, hn⟩ : ∃ n, a.redoA 0 = n := ⟨_, rfl⟩
  have HNA : Hid (a.redoA LogI.zA = n) := Lib.hid hn
  have hok : ok6 n := by rw [← hn]; exact rg.redoA he
  have hn1 : -63 ≤ n := hok.1
  have hn2 : n ≤ 63 := hok.2
  obtain ⟨x1, x2, x3, x4, hx⟩ : ∃ x1 x2 x3 x4, bes n = (x1, x2, x3, x4) := ⟨_, _, _, _, rfl⟩
  have HXB : Hid (b.redoA LogB.zA = (x1, x2, x3, x4)) := Lib.hid (by
    rcases sb.redoA 0 LogB.zA with ⟨_, h2⟩ | ⟨h1, _⟩
    · rw [h2, hn, hx]
    · rw [he] at h1
      exact absurd h1 (by decide))
  have HWC : Hid (c.redoA LogS.zA = wrd n) := Lib.hid (by
    rcases ss.redoA 0 LogS.zA with ⟨_, h2⟩ | ⟨h1, _⟩
    · rw [h2, hn]
    · rw [he] at h1
      exact absurd h1 (by decide))
  obtain ⟨ww, hww⟩ : ∃ ww, wrd n = ww := ⟨_, rfl⟩
  obtain ⟨n8, hn8⟩ : ∃ n8, Int.tmod n 8 = n8 := ⟨_, rfl⟩
  have hn81 : -8 < n8 := by rw [← hn8]; exact Int.lt_tmod_of_pos n (by omega)
  have hn82 : n8 < 8 := by rw [← hn8]; exact Int.tmod_lt_of_pos n (by omega)
  have hwl : Int.tmod (n8 + 8) 8 = (ww.size : Int) := by
    rw [← hww, wrd_size]
    unfold wlen
    rw [hn8, Int.toNat_of_nonneg (Int.tmod_nonneg _ (by omega))]
  have hwr : IntKind.i64.wrap (n8 + 8) = n8 + 8 := by rw [IntKind.wrap_i64]; omega
  rw [hww] at HWC
  have HOK := Lib.hid hok
  have HX := Lib.hid hx
  have heq := eql_bes_x n hok x1 x2 x3 x4 hx
  clear hn hok hx hww
  have HM := Lib.hid h
  clear h sb ss rg he hds hnd
  go_enter Tryd.func49, Tryd.ntmps49
  go_wp2_with (first
    | (go_at_call 26; go_fit (LogI.redo_b HM.out.l ds HDA.out n HNA.out 0 HEA.out _ rfl); rintro e w3 ⟨v3, rfl, hb⟩; obtain ⟨s3, hm3, ho3, hf3⟩ := HM.out.listL hb; obtain ⟨A3, c3, hv3, -⟩ := ho3.len; rw [HND.out] at hv3; subst hv3; have HM3 := Lib.hid hm3; have HO3 := Lib.hid ho3; have HF3 := Lib.hid hf3; clear hb hm3 ho3 hf3)
    | (go_at_call 73; go_fit (redo_x HM3.out.m ds HDB.out x1 x2 x3 x4 HXB.out 0 HEB.out); rintro e w4 ⟨v4, rfl, hb⟩; obtain ⟨t4, hm4, ho4, ho3, hf4⟩ := HM3.out.listM hb HO3.out HF3.out; obtain ⟨A4, c4, hv4, -⟩ := ho4.len; rw [HND.out] at hv4; subst hv4; have hbl := below_one w4 (.cells #[.string x1, .int .i64 x2, .int .i64 x3, .float .f64 x4] 66); have hng : ¬ LogS.foot r u w4.heap.size := fun hx => Nat.lt_irrefl _ (hm4.k.at_.lt _ hx); have HNG := Lib.hid hng; have HM4 := Lib.hid (hm4.later hbl); have HO4 := Lib.hid (OwnD.below3 ho4 hbl); have HO3b := Lib.hid (OwnD.below3 ho3 hbl); have HF4 := Lib.hid hf4; have HF3b := Lib.hid (fun k hk => (HF3.out k hk).2); have HBB := Lib.hid (Blk.new w4 66 #[.string x1, .int .i64 x2, .int .i64 x3, .float .f64 x4]); clear hb hm4 ho4 ho3 hf4 hbl hng)
    | (go_at_call 74; go_fit (LogS.redo_b HM4.out.k ds HDC.out ww HWC.out 0 HEC.out _ rfl); rintro e w5 ⟨v5, rfl, hb⟩; obtain ⟨u5, hm5, ho5, ho3, ho4, hu5⟩ := HM4.out.listK hb HO3b.out HF3b.out HO4.out HF4.out; obtain ⟨A5, c5, hv5, -⟩ := ho5.len; rw [HND.out] at hv5; subst hv5; have hbb := HBB.out.upd hu5 HNG.out; have y0 := hbb.cell 0; have y1 := hbb.cell 1; have y2 := hbb.cell 2; have y3 := hbb.cell 3; simp only [List.getElem?_toArray, List.getElem?_cons_succ, List.getElem?_cons_zero] at y0 y1 y2 y3; have HBB5 := Lib.hid hbb; have HM5 := Lib.hid hm5; have HO3c := Lib.hid ho3; have HO4c := Lib.hid ho4; have HO5c := Lib.hid ho5; clear hb hm5 ho5 ho3 ho4 hu5 hbb))
  obtain ⟨ι, hι, Wf, hW1, hW2⟩ := world_class w5
  have HW1 := Lib.hid hW1
  have HW2 := Lib.hid hW2
  have g0 := fun i => (hW1 i).cell (p := ⟨w4.heap.size, 0, none⟩) HBB5.out.lt |>.trans y0
  have g1 := fun i => (hW1 i).cell (p := ⟨w4.heap.size, 1, none⟩) HBB5.out.lt |>.trans y1
  have g2 := fun i => (hW1 i).cell (p := ⟨w4.heap.size, 2, none⟩) HBB5.out.lt |>.trans y2
  have g3 := fun i => (hW1 i).cell (p := ⟨w4.heap.size, 3, none⟩) HBB5.out.lt |>.trans y3
  have Q1 : Hid (∀ i, Calls Tryd.prog 27 #[.slice A3 nd c3, .slice A4 nd c4] (Wf i) fun e w'' => e = .returned (.bool true) ∧ ∃ j, w'' = Wf j) := Lib.hid (fun i => (same _ A3 A4 nd nd c3 c4 ds ds (OwnD.reads (OwnD.below3 HO3c.out (hW1 i)) HND.out.symm) (OwnD.reads (OwnD.below3 HO4c.out (hW1 i)) HND.out.symm) (by omega)).mono (fun e w1 h1 => ⟨h1.1.trans (by simp), hW2 _ ((hW1 i).trans (h1.2.mono (hW1 i).size))⟩))
  have Q2 : Hid (∀ i, Calls Tryd.prog 27 #[.slice A3 nd c3, .slice A5 nd c5] (Wf i) fun e w'' => e = .returned (.bool true) ∧ ∃ j, w'' = Wf j) := Lib.hid (fun i => (same _ A3 A5 nd nd c3 c5 ds ds (OwnD.reads (OwnD.below3 HO3c.out (hW1 i)) HND.out.symm) (OwnD.reads (OwnD.below3 HO5c.out (hW1 i)) HND.out.symm) (by omega)).mono (fun e w1 h1 => ⟨h1.1.trans (by simp), hW2 _ ((hW1 i).trans (h1.2.mono (hW1 i).size))⟩))
  have Q3 : Hid (∀ i, Calls Tryd.prog 35 #[.int .i64 n] (Wf i) fun e w'' => e = .returned (.agg #[.string x1, .int .i64 x2, .int .i64 x3, .float .f64 x4]) ∧ ∃ j, w'' = Wf j) := Lib.hid (fun i => (beside_x _ n HOK.out x1 x2 x3 x4 HX.out).mono (fun e w1 h1 => ⟨h1.1, hW2 _ ((hW1 i).trans (h1.2.mono (hW1 i).size))⟩))
  clear hW1 hW2 y0 y1 y2 y3
  refine region_class Wf (by kernel_rfl) (by kernel_rfl) (HW2.out _ ⟨rfl, rfl, rfl, Nat.le_refl _, fun _ _ => rfl⟩) ?_
  repeat (go_big_quiet_step (first
    | (go_at_call 27; with_reducible exact Q1.out _)
    | (go_at_call 27; with_reducible exact Q2.out _)
    | (go_at_call 35; with_reducible exact Q3.out _)))
  refine wpQuiet_nil ?_
  intro w9 hw9
  obtain ⟨i9, rfl⟩ := hw9
  go_wp2
  go_ret
  exact ⟨rfl, _, _, _, HM5.out.later (HW1.out i9)⟩
theorem sides_rn (h : M3 w0 w p s q t r u a b c N N N) (sb : Sim bes a b) (ss : Sim wrd a c) (rg : Rng a) (he : a.redoE = 4) :
    Calls Tryd.prog 49 #[.pointer (some ⟨p, 0, none⟩), .pointer (some ⟨q, 0, none⟩), .pointer (some ⟨r, 0, none⟩), .bool false] w fun e w' => e = .returned (.bool true) ∧ ∃ s' t' u', M3 w0 w' p s' q t' r u' a.redo_ b.redo_ c.redo_ N N N := by
  have hlen : a.redoL.length ≤ 1000000000000 := by have h1 := redoL_len3 h.l.inv; have h2 := h.l.small; omega
  obtain ⟨ds, hds⟩ : ∃ ds, a.redoL = ds := ⟨_, rfl⟩
  rw [hds] at hlen
  have HDA := Lib.hid hds
  have HDB : Hid (b.redoL = ds) := Lib.hid (by rw [sb.redoL]; exact hds)
  have HDC : Hid (c.redoL = ds) := Lib.hid (by rw [ss.redoL]; exact hds)
  have HEA := Lib.hid he
  have HEB : Hid (b.redoE = 4) := Lib.hid (by rw [sb.redoE]; exact he)
  have HEC : Hid (c.redoE = 4) := Lib.hid (by rw [ss.redoE]; exact he)
  obtain ⟨nd, hnd⟩ : ∃ nd, ds.length = nd := ⟨_, rfl⟩
  rw [hnd] at hlen
  have HND := Lib.hid hnd
  have hdd : decide (ds = ds) = true := by simp
  have HNA : Hid (a.redoA LogI.zA = 0) := Lib.hid (by
    rcases sb.redoA 0 LogB.zA with ⟨h1, _⟩ | ⟨_, h2, _⟩
    · rw [he] at h1
      exact absurd h1 (by decide)
    · exact h2)
  have HXB : Hid (b.redoA LogB.zA = (⟨#[]⟩, 0, 0, 0)) := Lib.hid (by
    rcases sb.redoA 0 LogB.zA with ⟨h1, _⟩ | ⟨_, _, h2⟩
    · rw [he] at h1
      exact absurd h1 (by decide)
    · exact h2)
  have HWC : Hid (c.redoA LogS.zA = ⟨#[]⟩) := Lib.hid (by
    rcases ss.redoA 0 LogS.zA with ⟨h1, _⟩ | ⟨_, _, h2⟩
    · rw [he] at h1
      exact absurd h1 (by decide)
    · exact h2)
  have heq := eql_zero
  have HM := Lib.hid h
  clear h sb ss rg he hds hnd
  go_enter Tryd.func49, Tryd.ntmps49
  go_wp2_with (first
    | (go_at_call 26; go_fit (LogI.redo_b HM.out.l ds HDA.out 0 HNA.out 4 HEA.out _ rfl); rintro e w3 ⟨v3, rfl, hb⟩; obtain ⟨s3, hm3, ho3, hf3⟩ := HM.out.listL hb; obtain ⟨A3, c3, hv3, -⟩ := ho3.len; rw [HND.out] at hv3; subst hv3; have HM3 := Lib.hid hm3; have HO3 := Lib.hid ho3; have HF3 := Lib.hid hf3; clear hb hm3 ho3 hf3)
    | (go_at_call 73; go_fit (redo_x HM3.out.m ds HDB.out ⟨#[]⟩ 0 0 0 HXB.out 4 HEB.out); rintro e w4 ⟨v4, rfl, hb⟩; obtain ⟨t4, hm4, ho4, ho3, hf4⟩ := HM3.out.listM hb HO3.out HF3.out; obtain ⟨A4, c4, hv4, -⟩ := ho4.len; rw [HND.out] at hv4; subst hv4; have hbl := below_one w4 (.cells #[.string ⟨#[]⟩, .int .i64 0, .int .i64 0, .float .f64 0] 66); have hng : ¬ LogS.foot r u w4.heap.size := fun hx => Nat.lt_irrefl _ (hm4.k.at_.lt _ hx); have HNG := Lib.hid hng; have HM4 := Lib.hid (hm4.later hbl); have HO4 := Lib.hid (OwnD.below3 ho4 hbl); have HO3b := Lib.hid (OwnD.below3 ho3 hbl); have HF4 := Lib.hid hf4; have HF3b := Lib.hid (fun k hk => (HF3.out k hk).2); have HBB := Lib.hid (Blk.new w4 66 #[.string ⟨#[]⟩, .int .i64 0, .int .i64 0, .float .f64 0]); clear hb hm4 ho4 ho3 hf4 hbl hng)
    | (go_at_call 74; go_fit (LogS.redo_b HM4.out.k ds HDC.out ⟨#[]⟩ HWC.out 4 HEC.out _ rfl); rintro e w5 ⟨v5, rfl, hb⟩; obtain ⟨u5, hm5, ho5, ho3, ho4, hu5⟩ := HM4.out.listK hb HO3b.out HF3b.out HO4.out HF4.out; obtain ⟨A5, c5, hv5, -⟩ := ho5.len; rw [HND.out] at hv5; subst hv5; have hbb := HBB.out.upd hu5 HNG.out; have y0 := hbb.cell 0; have y1 := hbb.cell 1; have y2 := hbb.cell 2; have y3 := hbb.cell 3; simp only [List.getElem?_toArray, List.getElem?_cons_succ, List.getElem?_cons_zero] at y0 y1 y2 y3; have HBB5 := Lib.hid hbb; have HM5 := Lib.hid hm5; have HO3c := Lib.hid ho3; have HO4c := Lib.hid ho4; have HO5c := Lib.hid ho5; clear hb hm5 ho5 ho3 ho4 hu5 hbb))
  obtain ⟨ι, hι, Wf, hW1, hW2⟩ := world_class w5
  have HW1 := Lib.hid hW1
  have HW2 := Lib.hid hW2
  have g0 := fun i => (hW1 i).cell (p := ⟨w4.heap.size, 0, none⟩) HBB5.out.lt |>.trans y0
  have g1 := fun i => (hW1 i).cell (p := ⟨w4.heap.size, 1, none⟩) HBB5.out.lt |>.trans y1
  have g2 := fun i => (hW1 i).cell (p := ⟨w4.heap.size, 2, none⟩) HBB5.out.lt |>.trans y2
  have g3 := fun i => (hW1 i).cell (p := ⟨w4.heap.size, 3, none⟩) HBB5.out.lt |>.trans y3
  have Q1 : Hid (∀ i, Calls Tryd.prog 27 #[.slice A3 nd c3, .slice A4 nd c4] (Wf i) fun e w'' => e = .returned (.bool true) ∧ ∃ j, w'' = Wf j) := Lib.hid (fun i => (same _ A3 A4 nd nd c3 c4 ds ds (OwnD.reads (OwnD.below3 HO3c.out (hW1 i)) HND.out.symm) (OwnD.reads (OwnD.below3 HO4c.out (hW1 i)) HND.out.symm) (by omega)).mono (fun e w1 h1 => ⟨h1.1.trans (by simp), hW2 _ ((hW1 i).trans (h1.2.mono (hW1 i).size))⟩))
  have Q2 : Hid (∀ i, Calls Tryd.prog 27 #[.slice A3 nd c3, .slice A5 nd c5] (Wf i) fun e w'' => e = .returned (.bool true) ∧ ∃ j, w'' = Wf j) := Lib.hid (fun i => (same _ A3 A5 nd nd c3 c5 ds ds (OwnD.reads (OwnD.below3 HO3c.out (hW1 i)) HND.out.symm) (OwnD.reads (OwnD.below3 HO5c.out (hW1 i)) HND.out.symm) (by omega)).mono (fun e w1 h1 => ⟨h1.1.trans (by simp), hW2 _ ((hW1 i).trans (h1.2.mono (hW1 i).size))⟩))
  clear hW1 hW2 y0 y1 y2 y3
  refine region_class Wf (by kernel_rfl) (by kernel_rfl) (HW2.out _ ⟨rfl, rfl, rfl, Nat.le_refl _, fun _ _ => rfl⟩) ?_
  repeat (go_big_quiet_step (first
    | (go_at_call 27; with_reducible exact Q1.out _)
    | (go_at_call 27; with_reducible exact Q2.out _)))
  refine wpQuiet_nil ?_
  intro w9 hw9
  obtain ⟨i9, rfl⟩ := hw9
  go_wp2
  go_ret
  exact ⟨rfl, _, _, _, HM5.out.later (HW1.out i9)⟩
end
end Log
end Go.Proofs.YtkpcnfchhnfpoaaDoor
/- LogWide, walked. Printed by a program of this claim. -/
set_option linter.unusedVariables false
namespace Go.Proofs.YtkpcnfchhnfpoaaDoor
open Go.RowKit Go.Proofs.YtkpcnfchhnfpoaaDoorW.PrintWords Go.Proofs.YtkpcnfchhnfpoaaDoor.Sep Log
namespace Log
theorem wd_info5 : (Tryd.prog.info? 5).map (fun i => (i.zero, i.size, i.bytes)) = some (some (.int .u8 0), 1, 1) := by kernel_rfl
theorem wd_make5 (E : Nat) (hE : E ≤ 100000000000000) (w : World) : (Instr.makeSlice 69 (.int .i64 (E : Int)) (.int .i64 (E : Int))).run Tryd.prog w = .ok (.slice (some ⟨w.heap.size, 0, none⟩) E E) (w.alloc (.cells (madeCells #[.int .u8 0] E) 5)) := by
  obtain ⟨i, hi, h0, h1, h2⟩ := info_parts wd_info5
  have h := run_make (P := Tryd.prog) w 69 5 i _ Tryd.underlying69 hi h0 .i64 .i64 (E : Int) (E : Int) (by omega) (by omega) (by rw [h2]; omega) (by omega)
  rw [h1, Int.toNat_natCast, Nat.mul_one] at h
  exact h
theorem wd_bytes (w : World) (n : Int) (ww : ByteArray) (hw : wrd n = ww) : Lib.Bytes (w.alloc (.cells (madeCells #[.int .u8 0] ww.size) 5)) w.heap.size 0 ww := by
  subst hw
  intro j hj
  rw [Nat.zero_add, (Blk.new w 5 (madeCells #[.int .u8 0] (wrd n).size)).cell j]
  have e : ((wrd n)[j]'hj).toNat = 0 := by
    show ((Array.replicate (wlen n) (0 : UInt8))[j]'(by rw [wrd_size] at hj; simpa using hj)).toNat = 0
    rw [Array.getElem_replicate]
    rfl
  rw [e]
  unfold madeCells
  simp [hj, Nat.mod_one]
theorem wd_conv (w : World) (n : Int) (ww : ByteArray) (hw : wrd n = ww) : (convert 69 9 (.slice (some ⟨w.heap.size, 0, none⟩) ww.size ww.size)).run Tryd.prog (w.alloc (.cells (madeCells #[.int .u8 0] ww.size) 5)) = .ok (.string ww) (w.alloc (.cells (madeCells #[.int .u8 0] ww.size) 5)) :=
  Lib.run_convert_whole _ 69 5 9 Tryd.underlying69 Tryd.underlying5 Tryd.underlying9 _ 0 ww (wd_bytes w n ww hw) ww.size
theorem begin_x {w0 w : World} {q : Nat} {t : LogB.LS} {a : AS LogB.A} {N : Nat} (h : LogB.LB w0 w q t a N) (x1 : ByteArray) (x2 x3 : Int) (x4 : Nat) (b : Bool) (hb : (!a.isOpen) = b) : Calls Tryd.prog 34 #[.pointer (some ⟨q, 0, none⟩), .agg #[.string x1, .int .i64 x2, .int .i64 x3, .float .f64 x4]] w fun e w' => e = .returned (.bool b) ∧ LogB.Box w0 w w' q t (a.begin_ LogB.zA (x1, x2, x3, x4)) N := LogB.begin_b h (x1, x2, x3, x4) b hb _ rfl
theorem commit_x {w0 w : World} {q : Nat} {t : LogB.LS} {a : AS LogB.A} {N : Nat} (h : LogB.LB w0 w q t a N) (x1 : ByteArray) (x2 x3 : Int) (x4 : Nat) (b : Bool) (hb : a.commitB = b) : Calls Tryd.prog 44 #[.pointer (some ⟨q, 0, none⟩), .agg #[.string x1, .int .i64 x2, .int .i64 x3, .float .f64 x4]] w fun e w' => e = .returned (.bool b) ∧ LogB.Box w0 w w' q t (a.commit (x1, x2, x3, x4)) N := LogB.commit_b h (x1, x2, x3, x4) b hb _ rfl
section
variable {w0 w : World} {p q r : Nat} {s : LogI.LS} {t : LogB.LS} {u : LogS.LS} {a : AS Int} {b : AS LogB.A} {c : AS LogS.A} {N : Nat}
theorem sides_u (h : M3 w0 w p s q t r u a b c N N N) (sb : Sim bes a b) (ss : Sim wrd a c) (rg : Rng a) :
    Calls Tryd.prog 49 #[.pointer (some ⟨p, 0, none⟩), .pointer (some ⟨q, 0, none⟩), .pointer (some ⟨r, 0, none⟩), .bool true] w fun e w' => e = .returned (.bool true) ∧ ∃ s' t' u', M3 w0 w' p s' q t' r u' a.undo_ b.undo_ c.undo_ N N N := by
  rcases sb.undoA 0 LogB.zA with ⟨h1, _⟩ | ⟨h1, _⟩
  · exact sides_uo h sb ss rg h1
  · exact sides_un h sb ss rg h1
theorem sides_r (h : M3 w0 w p s q t r u a b c N N N) (sb : Sim bes a b) (ss : Sim wrd a c) (rg : Rng a) :
    Calls Tryd.prog 49 #[.pointer (some ⟨p, 0, none⟩), .pointer (some ⟨q, 0, none⟩), .pointer (some ⟨r, 0, none⟩), .bool false] w fun e w' => e = .returned (.bool true) ∧ ∃ s' t' u', M3 w0 w' p s' q t' r u' a.redo_ b.redo_ c.redo_ N N N := by
  rcases sb.redoA 0 LogB.zA with ⟨h1, _⟩ | ⟨h1, _⟩
  · exact sides_ro h sb ss rg h1
  · exact sides_rn h sb ss rg h1
end
set_option maxHeartbeats 40000000
set_option maxRecDepth 100000
theorem wide_w (W : World) (n0 : Int) (A : Option Addr) (l c : Nat) (os : List OpV) (hr : ReadsO W W.heap.size A l os) (hz : osum os + l ≤ 2000000) :
    Calls Tryd.prog 8 #[.int .i64 n0, .slice A l c] W fun e w' => e = .returned (.bool true) ∧ Below W.heap.size W w' := by
  have hl := hr.len
  have HZ := Lib.hid hz
  have hll : l ≤ 2000000 := by omega
  have HR := Lib.hid hr
  obtain ⟨nb, hnb⟩ : ∃ nb, (min (max n0 0) 1000).toNat = nb := ⟨_, rfl⟩
  have HNB := Lib.hid hnb
  clear hr hz hnb
  go_enter Tryd.func8, Tryd.ntmps8
  go_wp2_with (first
    | (go_at_call 10; go_fit (fixed _); rintro e w1 ⟨rfl, hb⟩; have HB1 := Lib.hid hb; clear hb)
    | (go_at_call 20; go_fit (LogI.new_b (w0 := W) n0 HB1.out (AS.new nb) (by rw [HNB.out]) 0 (by omega)); rintro e w2 ⟨p, s, rfl, h1, h2, h3⟩; have HL := Lib.hid h1; clear h1 h2 h3)
    | (go_at_call 31; go_fit (LogB.new_b (w0 := W) n0 HL.out.below (AS.new nb) (by rw [HNB.out]) 0 (by omega)); rintro e w3 ⟨q, t, rfl, h1, h2, h3⟩; have HL3 := Lib.hid (HL.out.later h3); have HM3 := Lib.hid h1; have hpq : ∀ k, LogI.foot p s k → ¬ LogB.foot q t k := fun k hk hx => (by have h4 := HL.out.at_.lt k hk; have h5 := h2 k hx; omega); have HPQ := Lib.hid hpq; clear h1 h2 h3 hpq)
    | (go_at_call 32; go_fit (LogS.new_b (w0 := W) n0 HM3.out.below (AS.new nb) (by rw [HNB.out]) 0 (by omega)); rintro e w4 ⟨r, u, rfl, h1, h2, h3⟩; have hT : M3 W w4 p s q t r u (AS.new nb) (AS.new nb) (AS.new nb) 0 0 0 := ⟨HL3.out.later h3, HM3.out.later h3, h1, HPQ.out, fun k hk hx => (by have h4 := HL3.out.at_.lt k hk; have h5 := h2 k hx; omega), fun k hk hx => (by have h4 := HM3.out.at_.lt k hk; have h5 := h2 k hx; omega)⟩; have HT := Lib.hid hT; clear h1 h2 h3 hT))
  clear HL HL3 HM3 HPQ HB1
  go_loopg [8] l (fun k v8 w' => ∃ i : Nat, v8 = .int .i64 i ∧ i + k = l ∧ ∃ s t u a b c N, Hid (M3 W w' p s q t r u a b c N N N) ∧ Hid (Sim bes a b) ∧ Hid (Sim wrd a c) ∧ Hid (Rng a) ∧ Hid (N ≤ osum (os.take i)))
  case atStart => exact ⟨0, rfl, by omega, s, t, u, _, _, _, 0, HT, Lib.hid (Sim.new _), Lib.hid (Sim.new _), Lib.hid (Rng.new _), Lib.hid (Nat.zero_le _)⟩
  case round =>
    obtain ⟨i, rfl, hik, s, t, u, a, b, c, N, HT, SB, SS, RG, HN⟩ := hrel
    cases gk with
    | zero =>
      have e1 : decide (i < l) = false := by simp; omega
      go_wp2
      go_ret
      exact ⟨rfl, HT.out.l.below⟩
    | succ k1 =>
      have hi : i < l := by omega
      have e1 : decide (i < l) = true := by simp [hi]
      obtain ⟨kb, off, rfl, c0, c1, c2, hk, hrd⟩ := op_at HR.out hi
      have HOS := Lib.hid (osum_take os i (by omega))
      have HOM := Lib.hid (osum_mono os (i + 1))
      have c0 := (HT.out.l.below.cell (p := ⟨kb, off + i * 3, none⟩) hk).trans c0
      have c1 := (HT.out.l.below.cell (p := ⟨kb, off + i * 3 + 1, none⟩) hk).trans c1
      have c2 := (HT.out.l.below.cell (p := ⟨kb, off + i * 3 + 2, none⟩) hk).trans c2
      have hkw := World.block_lt_of_cell? _ _ c0
      obtain ⟨op, hop⟩ : ∃ op, op = os.getD i O0 := ⟨_, rfl⟩
      rw [← hop] at c0 c1 c2 hrd HOS
      clear hop
      have HRD := Lib.hid hrd
      have hln := hrd.1
      obtain ⟨ok, on, oA, ol, oc, ods'⟩ := op
      dsimp only at c0 c1 c2
      clear hrd
      have hol : ol ≤ 2000000 := by
        have h1 := HOS.out
        have h2 := HOM.out
        have h3 := HZ.out
        have h4 : (ods (ok, on, oA, ol, oc, ods')).length = ol := hln
        omega
      have hNN : N ≤ 2000000 := by
        have h1 := HN.out
        have h2 := osum_mono os i
        have h3 := HZ.out
        omega
      have HN1 : Hid (N + ol ≤ osum (os.take (i + 1))) := Lib.hid (by
        have h1 := HOS.out
        have h2 := HN.out
        have h4 : (ods (ok, on, oA, ol, oc, ods')).length = ol := hln
        omega)
      have HN0 : Hid (N ≤ osum (os.take (i + 1))) := Lib.hid (by have := HN1.out; omega)
      clear hln
      obtain ⟨n, hn⟩ : ∃ n, Int.tmod on 64 = n := ⟨_, rfl⟩
      have hn1 : -64 < n := by rw [← hn]; exact Int.lt_tmod_of_pos on (by omega)
      have hn2 : n < 64 := by rw [← hn]; exact Int.tmod_lt_of_pos on (by omega)
      have hok : ok6 n := ⟨by omega, by omega⟩
      obtain ⟨x1, x2, x3, x4, hx⟩ : ∃ x1 x2 x3 x4, bes n = (x1, x2, x3, x4) := ⟨_, _, _, _, rfl⟩
      obtain ⟨ww, hww⟩ : ∃ ww, wrd n = ww := ⟨_, rfl⟩
      obtain ⟨n8, hn8⟩ : ∃ n8, Int.tmod n 8 = n8 := ⟨_, rfl⟩
      have hn81 : -8 < n8 := by rw [← hn8]; exact Int.lt_tmod_of_pos n (by omega)
      have hn82 : n8 < 8 := by rw [← hn8]; exact Int.tmod_lt_of_pos n (by omega)
      have hwl : Int.tmod (n8 + 8) 8 = (ww.size : Int) := by
        rw [← hww, wrd_size]
        unfold wlen
        rw [hn8, Int.toNat_of_nonneg (Int.tmod_nonneg _ (by omega))]
      have hws : ww.size < 8 := by
        have h1 : Int.tmod (n8 + 8) 8 < 8 := Int.tmod_lt_of_pos _ (by omega)
        rw [hwl] at h1
        omega
      have hwr : IntKind.i64.wrap (n8 + 8) = n8 + 8 := by rw [IntKind.wrap_i64]; omega
      have m5 := wd_make5 ww.size (by omega)
      have hcv := wd_conv (wr.alloc (.cells #[.int .i64 ok, .int .i64 on, .slice oA ol oc] 59)) n ww hww
      rw [World.size_alloc] at hcv
      have HOK := Lib.hid hok
      have HX := Lib.hid hx
      have HWW := Lib.hid hww
      clear hok hx hww
      have hb0 := (below_one wr (.cells #[.int .i64 ok, .int .i64 on, .slice oA ol oc] 59))
      have hb1 := hb0.alloc hb0.size (.cells (madeCells #[.int .u8 0] ww.size) 5)
      have HTA := Lib.hid (HT.out.later hb1)
      have hbo := (Blk.new wr 59 #[.int .i64 ok, .int .i64 on, .slice oA ol oc]).alloc (.cells (madeCells #[.int .u8 0] ww.size) 5)
      have HBO := Lib.hid hbo
      have HNF : Hid (¬ F3 p s q t r u wr.heap.size) := Lib.hid (fun hx => Nat.lt_irrefl _ (HT.out.lt _ hx))
      clear hb0 hb1 hbo
      by_cases h1 : ok = 1
      · subst h1
        as_aux_lemma =>
          have SB1 : Hid (Sim bes (a.begin_ LogI.zA n) (b.begin_ LogB.zA (x1, x2, x3, x4))) := Lib.hid (by have h := SB.out.begin_ LogI.zA LogB.zA n; rw [HX.out] at h; exact h)
          have SS1 : Hid (Sim wrd (a.begin_ LogI.zA n) (c.begin_ LogS.zA ww)) := Lib.hid (by have h := SS.out.begin_ LogI.zA LogS.zA n; rw [HWW.out] at h; exact h)
          have RG1 : Hid (Rng (a.begin_ LogI.zA n)) := Lib.hid (RG.out.begin_ _ _ HOK.out)
          obtain ⟨nu, hnu⟩ : ∃ nu, (a.begin_ LogI.zA n).undo.length = nu := ⟨_, rfl⟩
          obtain ⟨nr, hnr⟩ : ∃ nr, (a.begin_ LogI.zA n).redo.length = nr := ⟨_, rfl⟩
          obtain ⟨ob, hob⟩ : ∃ ob, (a.begin_ LogI.zA n).isOpen = ob := ⟨_, rfl⟩
          obtain ⟨bd, hbd⟩ : ∃ bd, (a.begin_ LogI.zA n).bound = bd := ⟨_, rfl⟩
          have HUA := Lib.hid hnu
          have HUB := Lib.hid (SB1.out.undos.trans hnu)
          have HRA := Lib.hid hnr
          have HRC := Lib.hid (SS1.out.redos.trans hnr)
          have HOA := Lib.hid hob
          have HOB := Lib.hid (SB1.out.open_.trans hob)
          have HDA := Lib.hid hbd
          have HDC := Lib.hid (SS1.out.bd.trans hbd)
          have o1 : ((nu : Int) != (nu : Int)) = false := by simp
          have o2 : ((nr : Int) != (nr : Int)) = false := by simp
          have o3 : (ob != ob) = false := by simp
          have o4 : ((bd : Int) != (bd : Int)) = false := by simp
          clear hnu hnr hob hbd
          obtain ⟨rb, hrb⟩ : ∃ rb, (!a.isOpen) = rb := ⟨_, rfl⟩
          have HB1 := Lib.hid hrb
          have HB2 := Lib.hid (show (!b.isOpen) = rb by rw [SB.out.open_]; exact hrb)
          have HB3 := Lib.hid (show (!c.isOpen) = rb by rw [SS.out.open_]; exact hrb)
          have rb1 : (rb == rb) = true := by simp
          clear hrb
          go_wp2_with (first
            | (go_at_call 33; go_fit (LogI.begin_b HTA.out.l n rb HB1.out _ rfl); rintro e w5 ⟨rfl, hb⟩; obtain ⟨s1, hm, hu, hf⟩ := HTA.out.stepL hb; have HM1 := Lib.hid hm; clear hb hm hu hf)
            | (go_at_call 35; go_fit (beside_x _ n HOK.out x1 x2 x3 x4 HX.out); rintro e w6 ⟨rfl, hb⟩; have HM2 := Lib.hid (HM1.out.later hb); clear hb)
            | (go_at_call 34; go_fit (begin_x HM2.out.m x1 x2 x3 x4 rb HB2.out); rintro e w7 ⟨rfl, hb⟩; obtain ⟨t1, hm, hu, hf⟩ := HM2.out.stepM hb; have HM3 := Lib.hid hm; clear hb hm hu hf)
            | (go_at_call 36; go_fit (LogS.begin_b HM3.out.k ww rb HB3.out _ rfl); rintro e w8 ⟨rfl, hb⟩; obtain ⟨u1, hm, hu, hf⟩ := HM3.out.stepK hb; have HM4 := Lib.hid hm; clear hb hm hu hf)
            | (go_at_call 23; go_fit (LogI.undos_b HM4.out.l nu HUA.out); rintro e wx ⟨rfl, rfl⟩)
            | (go_at_call 53; go_fit (LogB.undos_b HM4.out.m nu HUB.out); rintro e wx ⟨rfl, rfl⟩)
            | (go_at_call 24; go_fit (LogI.redos_b HM4.out.l nr HRA.out); rintro e wx ⟨rfl, rfl⟩)
            | (go_at_call 54; go_fit (LogS.redos_b HM4.out.k nr HRC.out); rintro e wx ⟨rfl, rfl⟩)
            | (go_at_call 55; go_fit (LogI.open_b HM4.out.l ob HOA.out); rintro e wx ⟨rfl, rfl⟩)
            | (go_at_call 56; go_fit (LogB.open_b HM4.out.m ob HOB.out); rintro e wx ⟨rfl, rfl⟩)
            | (go_at_call 22; go_fit (LogI.bound_b HM4.out.l bd HDA.out); rintro e wx ⟨rfl, rfl⟩)
            | (go_at_call 57; go_fit (LogS.bound_b HM4.out.k bd HDC.out); rintro e wx ⟨rfl, rfl⟩))
          go_roundg k1
          case measure => omega
          case rel => exact ⟨i + 1, by simp, by omega, _, _, _, _, _, _, _, HM4, SB1, SS1, RG1, HN0⟩
      by_cases h2 : ok = 2
      · subst h2
        as_aux_lemma =>
          clear h1
          have SB1 : Hid (Sim bes (a.resume) (b.resume)) := Lib.hid (SB.out.resume)
          have SS1 : Hid (Sim wrd (a.resume) (c.resume)) := Lib.hid (SS.out.resume)
          have RG1 : Hid (Rng (a.resume)) := Lib.hid (RG.out.resume)
          obtain ⟨nu, hnu⟩ : ∃ nu, (a.resume).undo.length = nu := ⟨_, rfl⟩
          obtain ⟨nr, hnr⟩ : ∃ nr, (a.resume).redo.length = nr := ⟨_, rfl⟩
          obtain ⟨ob, hob⟩ : ∃ ob, (a.resume).isOpen = ob := ⟨_, rfl⟩
          obtain ⟨bd, hbd⟩ : ∃ bd, (a.resume).bound = bd := ⟨_, rfl⟩
          have HUA := Lib.hid hnu
          have HUB := Lib.hid (SB1.out.undos.trans hnu)
          have HRA := Lib.hid hnr
          have HRC := Lib.hid (SS1.out.redos.trans hnr)
          have HOA := Lib.hid hob
          have HOB := Lib.hid (SB1.out.open_.trans hob)
          have HDA := Lib.hid hbd
          have HDC := Lib.hid (SS1.out.bd.trans hbd)
          have o1 : ((nu : Int) != (nu : Int)) = false := by simp
          have o2 : ((nr : Int) != (nr : Int)) = false := by simp
          have o3 : (ob != ob) = false := by simp
          have o4 : ((bd : Int) != (bd : Int)) = false := by simp
          clear hnu hnr hob hbd
          obtain ⟨rb, hrb⟩ : ∃ rb, a.resumeG.isSome = rb := ⟨_, rfl⟩
          have HB1 := Lib.hid hrb
          have HB2 := Lib.hid (SB.out.resumeB.trans hrb)
          have HB3 := Lib.hid (SS.out.resumeB.trans hrb)
          have rb1 : (rb == rb) = true := by simp
          clear hrb
          go_wp2_with (first
            | (go_at_call 37; go_fit (LogI.resume_b HTA.out.l rb HB1.out _ rfl); rintro e w5 ⟨rfl, hb⟩; obtain ⟨s1, hm, hu, hf⟩ := HTA.out.stepL hb; have HM1 := Lib.hid hm; clear hb hm hu hf)
            | (go_at_call 38; go_fit (LogB.resume_b HM1.out.m rb HB2.out _ rfl); rintro e w7 ⟨rfl, hb⟩; obtain ⟨t1, hm, hu, hf⟩ := HM1.out.stepM hb; have HM3 := Lib.hid hm; clear hb hm hu hf)
            | (go_at_call 39; go_fit (LogS.resume_b HM3.out.k rb HB3.out _ rfl); rintro e w8 ⟨rfl, hb⟩; obtain ⟨u1, hm, hu, hf⟩ := HM3.out.stepK hb; have HM4 := Lib.hid hm; clear hb hm hu hf)
            | (go_at_call 23; go_fit (LogI.undos_b HM4.out.l nu HUA.out); rintro e wx ⟨rfl, rfl⟩)
            | (go_at_call 53; go_fit (LogB.undos_b HM4.out.m nu HUB.out); rintro e wx ⟨rfl, rfl⟩)
            | (go_at_call 24; go_fit (LogI.redos_b HM4.out.l nr HRA.out); rintro e wx ⟨rfl, rfl⟩)
            | (go_at_call 54; go_fit (LogS.redos_b HM4.out.k nr HRC.out); rintro e wx ⟨rfl, rfl⟩)
            | (go_at_call 55; go_fit (LogI.open_b HM4.out.l ob HOA.out); rintro e wx ⟨rfl, rfl⟩)
            | (go_at_call 56; go_fit (LogB.open_b HM4.out.m ob HOB.out); rintro e wx ⟨rfl, rfl⟩)
            | (go_at_call 22; go_fit (LogI.bound_b HM4.out.l bd HDA.out); rintro e wx ⟨rfl, rfl⟩)
            | (go_at_call 57; go_fit (LogS.bound_b HM4.out.k bd HDC.out); rintro e wx ⟨rfl, rfl⟩))
          go_roundg k1
          case measure => omega
          case rel => exact ⟨i + 1, by simp, by omega, _, _, _, _, _, _, _, HM4, SB1, SS1, RG1, HN0⟩
      by_cases h3 : ok = 3
      · subst h3
        as_aux_lemma =>
          clear h1 h2
          have SB1 : Hid (Sim bes (a.add ods') (b.add ods')) := Lib.hid (SB.out.add _)
          have SS1 : Hid (Sim wrd (a.add ods') (c.add ods')) := Lib.hid (SS.out.add _)
          have RG1 : Hid (Rng (a.add ods')) := Lib.hid (RG.out.add _)
          obtain ⟨nu, hnu⟩ : ∃ nu, (a.add ods').undo.length = nu := ⟨_, rfl⟩
          obtain ⟨nr, hnr⟩ : ∃ nr, (a.add ods').redo.length = nr := ⟨_, rfl⟩
          obtain ⟨ob, hob⟩ : ∃ ob, (a.add ods').isOpen = ob := ⟨_, rfl⟩
          obtain ⟨bd, hbd⟩ : ∃ bd, (a.add ods').bound = bd := ⟨_, rfl⟩
          have HUA := Lib.hid hnu
          have HUB := Lib.hid (SB1.out.undos.trans hnu)
          have HRA := Lib.hid hnr
          have HRC := Lib.hid (SS1.out.redos.trans hnr)
          have HOA := Lib.hid hob
          have HOB := Lib.hid (SB1.out.open_.trans hob)
          have HDA := Lib.hid hbd
          have HDC := Lib.hid (SS1.out.bd.trans hbd)
          have o1 : ((nu : Int) != (nu : Int)) = false := by simp
          have o2 : ((nr : Int) != (nr : Int)) = false := by simp
          have o3 : (ob != ob) = false := by simp
          have o4 : ((bd : Int) != (bd : Int)) = false := by simp
          clear hnu hnr hob hbd
          obtain ⟨rb, hrb⟩ : ∃ rb, a.isOpen = rb := ⟨_, rfl⟩
          have HB1 := Lib.hid hrb
          have HB2 := Lib.hid (SB.out.open_.trans hrb)
          have HB3 := Lib.hid (SS.out.open_.trans hrb)
          have rb1 : (rb == rb) = true := by simp
          clear hrb
          have HRO : Hid (∀ w', Below W.heap.size W w' → ReadsD w' w'.heap.size oA ol ods') := Lib.hid (fun w' hb => ⟨HRD.out.1, (HRD.out.2.below hb).more hb.size⟩)
          have HAP : Hid (∀ k, W.heap.size ≤ k → 0 < ol → ∀ ad, oA = some ad → ad.block ≠ k) := Lib.hid (fun k hk h0 ad hb e => by
            obtain ⟨ad', e', hlt, -⟩ := HRD.out.2.2 h0
            rw [hb] at e'
            injection e' with e'
            subst e'
            omega)
          have hwz : wr.heap.size < wr.heap.size + 1 + 1 := by omega
          have HBLHNF : Hid (wr.heap.size < ((wr.alloc (.cells #[.int .i64 3, .int .i64 on, .slice oA ol oc] 59)).alloc (.cells (madeCells #[.int .u8 0] ww.size) 5)).heap.size) := Lib.hid (by simp; omega)
          go_wp2_with (first
            | (go_at_call 40; go_fit (LogI.add_b HTA.out.l oA ol oc ods' (HRO.out _ HTA.out.l.below) (by omega) (fun h0 ad hb hx => HAP.out ad.block (HTA.out.l.new _ hx) h0 ad hb rfl) rb HB1.out _ rfl); rintro e w5 ⟨rfl, hb⟩; obtain ⟨s1, hm, hu, hf⟩ := HTA.out.stepL hb; have hbo := HBO.out.upd hu HNF.out; obtain ⟨_, _, d2⟩ := Blk.three hbo; have HBOHNF2 := Lib.hid hbo; have HNF2 : Hid (¬ F3 p _ q _ r _ wr.heap.size) := Lib.hid (fun hx => (hf _ hx).elim HNF.out (fun e => by have h9 := HBLHNF.out; omega)); have HBLHNF2 := Lib.hid (Nat.lt_of_lt_of_le HBLHNF.out hu.size); clear hbo; have HM1 := Lib.hid hm; clear hb hm hu hf)
            | (go_at_call 41; go_fit (LogB.add_b HM1.out.m oA ol oc ods' (HRO.out _ HM1.out.l.below) (by omega) (fun h0 ad hb hx => HAP.out ad.block (HM1.out.m.new _ hx) h0 ad hb rfl) rb HB2.out _ rfl); rintro e w6 ⟨rfl, hb⟩; obtain ⟨t1, hm, hu, hf⟩ := HM1.out.stepM hb; have hbo := HBOHNF2.out.upd hu HNF2.out; obtain ⟨_, _, d2⟩ := Blk.three hbo; have HBOHNF3 := Lib.hid hbo; have HNF3 : Hid (¬ F3 p _ q _ r _ wr.heap.size) := Lib.hid (fun hx => (hf _ hx).elim HNF2.out (fun e => by have h9 := HBLHNF2.out; omega)); have HBLHNF3 := Lib.hid (Nat.lt_of_lt_of_le HBLHNF2.out hu.size); clear hbo; have HM3 := Lib.hid hm; clear hb hm hu hf)
            | (go_at_call 42; go_fit (LogS.add_b HM3.out.k oA ol oc ods' (HRO.out _ HM3.out.l.below) (by omega) (fun h0 ad hb hx => HAP.out ad.block (HM3.out.k.new _ hx) h0 ad hb rfl) rb HB3.out _ rfl); rintro e w7 ⟨rfl, hb⟩; obtain ⟨u1, hm, hu, hf⟩ := HM3.out.stepK hb; have HM4 := Lib.hid hm; clear hb hm hu hf)
            | (go_at_call 23; go_fit (LogI.undos_b HM4.out.l nu HUA.out); rintro e wx ⟨rfl, rfl⟩)
            | (go_at_call 53; go_fit (LogB.undos_b HM4.out.m nu HUB.out); rintro e wx ⟨rfl, rfl⟩)
            | (go_at_call 24; go_fit (LogI.redos_b HM4.out.l nr HRA.out); rintro e wx ⟨rfl, rfl⟩)
            | (go_at_call 54; go_fit (LogS.redos_b HM4.out.k nr HRC.out); rintro e wx ⟨rfl, rfl⟩)
            | (go_at_call 55; go_fit (LogI.open_b HM4.out.l ob HOA.out); rintro e wx ⟨rfl, rfl⟩)
            | (go_at_call 56; go_fit (LogB.open_b HM4.out.m ob HOB.out); rintro e wx ⟨rfl, rfl⟩)
            | (go_at_call 22; go_fit (LogI.bound_b HM4.out.l bd HDA.out); rintro e wx ⟨rfl, rfl⟩)
            | (go_at_call 57; go_fit (LogS.bound_b HM4.out.k bd HDC.out); rintro e wx ⟨rfl, rfl⟩))
          go_roundg k1
          case measure => omega
          case rel => exact ⟨i + 1, by simp, by omega, _, _, _, _, _, _, _, HM4, SB1, SS1, RG1, HN1⟩
      by_cases h4 : ok = 4
      · subst h4
        as_aux_lemma =>
          clear h1 h2 h3
          have SB1 : Hid (Sim bes (a.commit n) (b.commit (x1, x2, x3, x4))) := Lib.hid (by have h := SB.out.commit n; rw [HX.out] at h; exact h)
          have SS1 : Hid (Sim wrd (a.commit n) (c.commit ww)) := Lib.hid (by have h := SS.out.commit n; rw [HWW.out] at h; exact h)
          have RG1 : Hid (Rng (a.commit n)) := Lib.hid (RG.out.commit _ HOK.out)
          obtain ⟨nu, hnu⟩ : ∃ nu, (a.commit n).undo.length = nu := ⟨_, rfl⟩
          obtain ⟨nr, hnr⟩ : ∃ nr, (a.commit n).redo.length = nr := ⟨_, rfl⟩
          obtain ⟨ob, hob⟩ : ∃ ob, (a.commit n).isOpen = ob := ⟨_, rfl⟩
          obtain ⟨bd, hbd⟩ : ∃ bd, (a.commit n).bound = bd := ⟨_, rfl⟩
          have HUA := Lib.hid hnu
          have HUB := Lib.hid (SB1.out.undos.trans hnu)
          have HRA := Lib.hid hnr
          have HRC := Lib.hid (SS1.out.redos.trans hnr)
          have HOA := Lib.hid hob
          have HOB := Lib.hid (SB1.out.open_.trans hob)
          have HDA := Lib.hid hbd
          have HDC := Lib.hid (SS1.out.bd.trans hbd)
          have o1 : ((nu : Int) != (nu : Int)) = false := by simp
          have o2 : ((nr : Int) != (nr : Int)) = false := by simp
          have o3 : (ob != ob) = false := by simp
          have o4 : ((bd : Int) != (bd : Int)) = false := by simp
          clear hnu hnr hob hbd
          obtain ⟨rb, hrb⟩ : ∃ rb, a.commitB = rb := ⟨_, rfl⟩
          have HB1 := Lib.hid hrb
          have HB2 := Lib.hid (SB.out.commitB.trans hrb)
          have HB3 := Lib.hid (SS.out.commitB.trans hrb)
          have rb1 : (rb == rb) = true := by simp
          clear hrb
          go_wp2_with (first
            | (go_at_call 43; go_fit (LogI.commit_b HTA.out.l n rb HB1.out _ rfl); rintro e w5 ⟨rfl, hb⟩; obtain ⟨s1, hm, hu, hf⟩ := HTA.out.stepL hb; have HM1 := Lib.hid hm; clear hb hm hu hf)
            | (go_at_call 35; go_fit (beside_x _ n HOK.out x1 x2 x3 x4 HX.out); rintro e w6 ⟨rfl, hb⟩; have HM2 := Lib.hid (HM1.out.later hb); clear hb)
            | (go_at_call 44; go_fit (commit_x HM2.out.m x1 x2 x3 x4 rb HB2.out); rintro e w7 ⟨rfl, hb⟩; obtain ⟨t1, hm, hu, hf⟩ := HM2.out.stepM hb; have HM3 := Lib.hid hm; clear hb hm hu hf)
            | (go_at_call 45; go_fit (LogS.commit_b HM3.out.k ww rb HB3.out _ rfl); rintro e w8 ⟨rfl, hb⟩; obtain ⟨u1, hm, hu, hf⟩ := HM3.out.stepK hb; have HM4 := Lib.hid hm; clear hb hm hu hf)
            | (go_at_call 23; go_fit (LogI.undos_b HM4.out.l nu HUA.out); rintro e wx ⟨rfl, rfl⟩)
            | (go_at_call 53; go_fit (LogB.undos_b HM4.out.m nu HUB.out); rintro e wx ⟨rfl, rfl⟩)
            | (go_at_call 24; go_fit (LogI.redos_b HM4.out.l nr HRA.out); rintro e wx ⟨rfl, rfl⟩)
            | (go_at_call 54; go_fit (LogS.redos_b HM4.out.k nr HRC.out); rintro e wx ⟨rfl, rfl⟩)
            | (go_at_call 55; go_fit (LogI.open_b HM4.out.l ob HOA.out); rintro e wx ⟨rfl, rfl⟩)
            | (go_at_call 56; go_fit (LogB.open_b HM4.out.m ob HOB.out); rintro e wx ⟨rfl, rfl⟩)
            | (go_at_call 22; go_fit (LogI.bound_b HM4.out.l bd HDA.out); rintro e wx ⟨rfl, rfl⟩)
            | (go_at_call 57; go_fit (LogS.bound_b HM4.out.k bd HDC.out); rintro e wx ⟨rfl, rfl⟩))
          go_roundg k1
          case measure => omega
          case rel => exact ⟨i + 1, by simp, by omega, _, _, _, _, _, _, _, HM4, SB1, SS1, RG1, HN0⟩
      by_cases h5 : ok = 5
      · subst h5
        as_aux_lemma =>
          clear h1 h2 h3 h4
          have SB1 : Hid (Sim bes (a.cancel) (b.cancel)) := Lib.hid (SB.out.cancel)
          have SS1 : Hid (Sim wrd (a.cancel) (c.cancel)) := Lib.hid (SS.out.cancel)
          have RG1 : Hid (Rng (a.cancel)) := Lib.hid (RG.out.cancel)
          obtain ⟨nu, hnu⟩ : ∃ nu, (a.cancel).undo.length = nu := ⟨_, rfl⟩
          obtain ⟨nr, hnr⟩ : ∃ nr, (a.cancel).redo.length = nr := ⟨_, rfl⟩
          obtain ⟨ob, hob⟩ : ∃ ob, (a.cancel).isOpen = ob := ⟨_, rfl⟩
          obtain ⟨bd, hbd⟩ : ∃ bd, (a.cancel).bound = bd := ⟨_, rfl⟩
          have HUA := Lib.hid hnu
          have HUB := Lib.hid (SB1.out.undos.trans hnu)
          have HRA := Lib.hid hnr
          have HRC := Lib.hid (SS1.out.redos.trans hnr)
          have HOA := Lib.hid hob
          have HOB := Lib.hid (SB1.out.open_.trans hob)
          have HDA := Lib.hid hbd
          have HDC := Lib.hid (SS1.out.bd.trans hbd)
          have o1 : ((nu : Int) != (nu : Int)) = false := by simp
          have o2 : ((nr : Int) != (nr : Int)) = false := by simp
          have o3 : (ob != ob) = false := by simp
          have o4 : ((bd : Int) != (bd : Int)) = false := by simp
          clear hnu hnr hob hbd
          obtain ⟨rb, hrb⟩ : ∃ rb, a.isOpen = rb := ⟨_, rfl⟩
          have HB1 := Lib.hid hrb
          have HB2 := Lib.hid (SB.out.open_.trans hrb)
          have HB3 := Lib.hid (SS.out.open_.trans hrb)
          have rb1 : (rb == rb) = true := by simp
          clear hrb
          obtain ⟨ds, hds⟩ : ∃ ds, a.cancelL = ds := ⟨_, rfl⟩
          have HDS1 := Lib.hid hds
          have HDS2 := Lib.hid (SB.out.cancelL.trans hds)
          have HDS3 := Lib.hid (SS.out.cancelL.trans hds)
          obtain ⟨nd, hnd⟩ : ∃ nd, ds.length = nd := ⟨_, rfl⟩
          have hnl : nd ≤ 2000000 := by have h1 := LogI.cancelL_len HT.out.l.inv; rw [hds, hnd] at h1; omega
          have HND := Lib.hid hnd
          have hdd : decide (ds = ds) = true := by simp
          clear hds hnd
          go_wp2_with (first
            | (go_at_call 46; go_fit (LogI.cancel_b HTA.out.l rb HB1.out ds HDS1.out _ rfl); rintro e w5 ⟨v5, rfl, hb⟩; obtain ⟨s1, hm, ho, hf⟩ := HTA.out.listL hb; obtain ⟨A5, c5, hv5, -⟩ := ho.len; rw [HND.out] at hv5; subst hv5; have HM1 := Lib.hid hm; have HO1 := Lib.hid ho; have HF1 := Lib.hid hf; clear hb hm ho hf)
            | (go_at_call 47; go_fit (LogB.cancel_b HM1.out.m rb HB2.out ds HDS2.out _ rfl); rintro e w6 ⟨v6, rfl, hb⟩; obtain ⟨t1, hm, ho6, ho5, hf⟩ := HM1.out.listM hb HO1.out HF1.out; obtain ⟨A6, c6, hv6, -⟩ := ho6.len; rw [HND.out] at hv6; subst hv6; have HM2 := Lib.hid hm; have HO2 := Lib.hid ho6; have HO1b := Lib.hid ho5; have HF2 := Lib.hid hf; clear hb hm ho6 ho5 hf)
            | (go_at_call 48; go_fit (LogS.cancel_b HM2.out.k rb HB3.out ds HDS3.out _ rfl); rintro e w7 ⟨v7, rfl, hb⟩; obtain ⟨u1, hm, ho7, ho5, ho6, -⟩ := HM2.out.listK hb HO1b.out (fun k hk => (HF1.out k hk).2) HO2.out HF2.out; obtain ⟨A7, c7, hv7, -⟩ := ho7.len; rw [HND.out] at hv7; subst hv7; have HM3 := Lib.hid hm; have HO5 := Lib.hid ho5; have HO6 := Lib.hid ho6; have HO7 := Lib.hid ho7; clear hb hm ho5 ho6 ho7)
            | (go_at_call 27; go_fit (same _ A5 A7 nd nd c5 c7 ds ds (OwnD.reads HO5b.out HND.out.symm) (OwnD.reads HO7b.out HND.out.symm) (by omega)); rintro e w9 ⟨rfl, hb⟩; have HM5 := Lib.hid (HM4.out.later hb); clear hb)
            | (go_at_call 27; go_fit (same _ A5 A6 nd nd c5 c6 ds ds (OwnD.reads HO5.out HND.out.symm) (OwnD.reads HO6.out HND.out.symm) (by omega)); rintro e w8 ⟨rfl, hb⟩; have HM4 := Lib.hid (HM3.out.later hb); have HO5b := Lib.hid (OwnD.below3 HO5.out hb); have HO7b := Lib.hid (OwnD.below3 HO7.out hb); clear hb)
            | (go_at_call 23; go_fit (LogI.undos_b HM5.out.l nu HUA.out); rintro e wx ⟨rfl, rfl⟩)
            | (go_at_call 53; go_fit (LogB.undos_b HM5.out.m nu HUB.out); rintro e wx ⟨rfl, rfl⟩)
            | (go_at_call 24; go_fit (LogI.redos_b HM5.out.l nr HRA.out); rintro e wx ⟨rfl, rfl⟩)
            | (go_at_call 54; go_fit (LogS.redos_b HM5.out.k nr HRC.out); rintro e wx ⟨rfl, rfl⟩)
            | (go_at_call 55; go_fit (LogI.open_b HM5.out.l ob HOA.out); rintro e wx ⟨rfl, rfl⟩)
            | (go_at_call 56; go_fit (LogB.open_b HM5.out.m ob HOB.out); rintro e wx ⟨rfl, rfl⟩)
            | (go_at_call 22; go_fit (LogI.bound_b HM5.out.l bd HDA.out); rintro e wx ⟨rfl, rfl⟩)
            | (go_at_call 57; go_fit (LogS.bound_b HM5.out.k bd HDC.out); rintro e wx ⟨rfl, rfl⟩))
          go_roundg k1
          case measure => omega
          case rel => exact ⟨i + 1, by simp, by omega, _, _, _, _, _, _, _, HM5, SB1, SS1, RG1, HN0⟩
      by_cases h6 : ok = 6
      · subst h6
        as_aux_lemma =>
          clear h1 h2 h3 h4 h5
          have SB1 : Hid (Sim bes (a.undo_) (b.undo_)) := Lib.hid (SB.out.undo_)
          have SS1 : Hid (Sim wrd (a.undo_) (c.undo_)) := Lib.hid (SS.out.undo_)
          have RG1 : Hid (Rng (a.undo_)) := Lib.hid (RG.out.undo_)
          obtain ⟨nu, hnu⟩ : ∃ nu, (a.undo_).undo.length = nu := ⟨_, rfl⟩
          obtain ⟨nr, hnr⟩ : ∃ nr, (a.undo_).redo.length = nr := ⟨_, rfl⟩
          obtain ⟨ob, hob⟩ : ∃ ob, (a.undo_).isOpen = ob := ⟨_, rfl⟩
          obtain ⟨bd, hbd⟩ : ∃ bd, (a.undo_).bound = bd := ⟨_, rfl⟩
          have HUA := Lib.hid hnu
          have HUB := Lib.hid (SB1.out.undos.trans hnu)
          have HRA := Lib.hid hnr
          have HRC := Lib.hid (SS1.out.redos.trans hnr)
          have HOA := Lib.hid hob
          have HOB := Lib.hid (SB1.out.open_.trans hob)
          have HDA := Lib.hid hbd
          have HDC := Lib.hid (SS1.out.bd.trans hbd)
          have o1 : ((nu : Int) != (nu : Int)) = false := by simp
          have o2 : ((nr : Int) != (nr : Int)) = false := by simp
          have o3 : (ob != ob) = false := by simp
          have o4 : ((bd : Int) != (bd : Int)) = false := by simp
          clear hnu hnr hob hbd
          go_wp2_with (first
            | (go_at_call 49; go_fit (sides_u HTA.out SB.out SS.out RG.out); rintro e w5 ⟨rfl, s1, t1, u1, hm⟩; have HM4 := Lib.hid hm; clear hm)
            | (go_at_call 23; go_fit (LogI.undos_b HM4.out.l nu HUA.out); rintro e wx ⟨rfl, rfl⟩)
            | (go_at_call 53; go_fit (LogB.undos_b HM4.out.m nu HUB.out); rintro e wx ⟨rfl, rfl⟩)
            | (go_at_call 24; go_fit (LogI.redos_b HM4.out.l nr HRA.out); rintro e wx ⟨rfl, rfl⟩)
            | (go_at_call 54; go_fit (LogS.redos_b HM4.out.k nr HRC.out); rintro e wx ⟨rfl, rfl⟩)
            | (go_at_call 55; go_fit (LogI.open_b HM4.out.l ob HOA.out); rintro e wx ⟨rfl, rfl⟩)
            | (go_at_call 56; go_fit (LogB.open_b HM4.out.m ob HOB.out); rintro e wx ⟨rfl, rfl⟩)
            | (go_at_call 22; go_fit (LogI.bound_b HM4.out.l bd HDA.out); rintro e wx ⟨rfl, rfl⟩)
            | (go_at_call 57; go_fit (LogS.bound_b HM4.out.k bd HDC.out); rintro e wx ⟨rfl, rfl⟩))
          go_roundg k1
          case measure => omega
          case rel => exact ⟨i + 1, by simp, by omega, _, _, _, _, _, _, _, HM4, SB1, SS1, RG1, HN0⟩
      by_cases h7 : ok = 7
      · subst h7
        as_aux_lemma =>
          clear h1 h2 h3 h4 h5 h6
          have SB1 : Hid (Sim bes (a.redo_) (b.redo_)) := Lib.hid (SB.out.redo_)
          have SS1 : Hid (Sim wrd (a.redo_) (c.redo_)) := Lib.hid (SS.out.redo_)
          have RG1 : Hid (Rng (a.redo_)) := Lib.hid (RG.out.redo_)
          obtain ⟨nu, hnu⟩ : ∃ nu, (a.redo_).undo.length = nu := ⟨_, rfl⟩
          obtain ⟨nr, hnr⟩ : ∃ nr, (a.redo_).redo.length = nr := ⟨_, rfl⟩
          obtain ⟨ob, hob⟩ : ∃ ob, (a.redo_).isOpen = ob := ⟨_, rfl⟩
          obtain ⟨bd, hbd⟩ : ∃ bd, (a.redo_).bound = bd := ⟨_, rfl⟩
          have HUA := Lib.hid hnu
          have HUB := Lib.hid (SB1.out.undos.trans hnu)
          have HRA := Lib.hid hnr
          have HRC := Lib.hid (SS1.out.redos.trans hnr)
          have HOA := Lib.hid hob
          have HOB := Lib.hid (SB1.out.open_.trans hob)
          have HDA := Lib.hid hbd
          have HDC := Lib.hid (SS1.out.bd.trans hbd)
          have o1 : ((nu : Int) != (nu : Int)) = false := by simp
          have o2 : ((nr : Int) != (nr : Int)) = false := by simp
          have o3 : (ob != ob) = false := by simp
          have o4 : ((bd : Int) != (bd : Int)) = false := by simp
          clear hnu hnr hob hbd
          go_wp2_with (first
            | (go_at_call 49; go_fit (sides_r HTA.out SB.out SS.out RG.out); rintro e w5 ⟨rfl, s1, t1, u1, hm⟩; have HM4 := Lib.hid hm; clear hm)
            | (go_at_call 23; go_fit (LogI.undos_b HM4.out.l nu HUA.out); rintro e wx ⟨rfl, rfl⟩)
            | (go_at_call 53; go_fit (LogB.undos_b HM4.out.m nu HUB.out); rintro e wx ⟨rfl, rfl⟩)
            | (go_at_call 24; go_fit (LogI.redos_b HM4.out.l nr HRA.out); rintro e wx ⟨rfl, rfl⟩)
            | (go_at_call 54; go_fit (LogS.redos_b HM4.out.k nr HRC.out); rintro e wx ⟨rfl, rfl⟩)
            | (go_at_call 55; go_fit (LogI.open_b HM4.out.l ob HOA.out); rintro e wx ⟨rfl, rfl⟩)
            | (go_at_call 56; go_fit (LogB.open_b HM4.out.m ob HOB.out); rintro e wx ⟨rfl, rfl⟩)
            | (go_at_call 22; go_fit (LogI.bound_b HM4.out.l bd HDA.out); rintro e wx ⟨rfl, rfl⟩)
            | (go_at_call 57; go_fit (LogS.bound_b HM4.out.k bd HDC.out); rintro e wx ⟨rfl, rfl⟩))
          go_roundg k1
          case measure => omega
          case rel => exact ⟨i + 1, by simp, by omega, _, _, _, _, _, _, _, HM4, SB1, SS1, RG1, HN0⟩
      by_cases h8 : ok = 8
      · subst h8
        as_aux_lemma =>
          clear h1 h2 h3 h4 h5 h6 h7
          have SB1 : Hid (Sim bes (a.clear) (b.clear)) := Lib.hid (SB.out.clear)
          have SS1 : Hid (Sim wrd (a.clear) (c.clear)) := Lib.hid (SS.out.clear)
          have RG1 : Hid (Rng (a.clear)) := Lib.hid (Rng.clear)
          obtain ⟨nu, hnu⟩ : ∃ nu, (a.clear).undo.length = nu := ⟨_, rfl⟩
          obtain ⟨nr, hnr⟩ : ∃ nr, (a.clear).redo.length = nr := ⟨_, rfl⟩
          obtain ⟨ob, hob⟩ : ∃ ob, (a.clear).isOpen = ob := ⟨_, rfl⟩
          obtain ⟨bd, hbd⟩ : ∃ bd, (a.clear).bound = bd := ⟨_, rfl⟩
          have HUA := Lib.hid hnu
          have HUB := Lib.hid (SB1.out.undos.trans hnu)
          have HRA := Lib.hid hnr
          have HRC := Lib.hid (SS1.out.redos.trans hnr)
          have HOA := Lib.hid hob
          have HOB := Lib.hid (SB1.out.open_.trans hob)
          have HDA := Lib.hid hbd
          have HDC := Lib.hid (SS1.out.bd.trans hbd)
          have o1 : ((nu : Int) != (nu : Int)) = false := by simp
          have o2 : ((nr : Int) != (nr : Int)) = false := by simp
          have o3 : (ob != ob) = false := by simp
          have o4 : ((bd : Int) != (bd : Int)) = false := by simp
          clear hnu hnr hob hbd
          go_wp2_with (first
            | (go_at_call 50; go_fit (LogI.clear_b HTA.out.l _ rfl); rintro e w5 ⟨rfl, hb⟩; obtain ⟨s1, hm, hu, hf⟩ := HTA.out.stepL hb; have HM1 := Lib.hid hm; clear hb hm hu hf)
            | (go_at_call 51; go_fit (LogB.clear_b HM1.out.m _ rfl); rintro e w7 ⟨rfl, hb⟩; obtain ⟨t1, hm, hu, hf⟩ := HM1.out.stepM hb; have HM3 := Lib.hid hm; clear hb hm hu hf)
            | (go_at_call 52; go_fit (LogS.clear_b HM3.out.k _ rfl); rintro e w8 ⟨rfl, hb⟩; obtain ⟨u1, hm, hu, hf⟩ := HM3.out.stepK hb; have HM4 := Lib.hid hm; clear hb hm hu hf)
            | (go_at_call 23; go_fit (LogI.undos_b HM4.out.l nu HUA.out); rintro e wx ⟨rfl, rfl⟩)
            | (go_at_call 53; go_fit (LogB.undos_b HM4.out.m nu HUB.out); rintro e wx ⟨rfl, rfl⟩)
            | (go_at_call 24; go_fit (LogI.redos_b HM4.out.l nr HRA.out); rintro e wx ⟨rfl, rfl⟩)
            | (go_at_call 54; go_fit (LogS.redos_b HM4.out.k nr HRC.out); rintro e wx ⟨rfl, rfl⟩)
            | (go_at_call 55; go_fit (LogI.open_b HM4.out.l ob HOA.out); rintro e wx ⟨rfl, rfl⟩)
            | (go_at_call 56; go_fit (LogB.open_b HM4.out.m ob HOB.out); rintro e wx ⟨rfl, rfl⟩)
            | (go_at_call 22; go_fit (LogI.bound_b HM4.out.l bd HDA.out); rintro e wx ⟨rfl, rfl⟩)
            | (go_at_call 57; go_fit (LogS.bound_b HM4.out.k bd HDC.out); rintro e wx ⟨rfl, rfl⟩))
          go_roundg k1
          case measure => omega
          case rel => exact ⟨i + 1, by simp, by omega, _, _, _, _, _, _, _, HM4, SB1, SS1, RG1, HN0⟩
      as_aux_lemma =>
        have b1 : (ok == 1) = false := by rw [beq_eq_false_iff_ne]; exact h1
        have b2 : (ok == 2) = false := by rw [beq_eq_false_iff_ne]; exact h2
        have b3 : (ok == 3) = false := by rw [beq_eq_false_iff_ne]; exact h3
        have b4 : (ok == 4) = false := by rw [beq_eq_false_iff_ne]; exact h4
        have b5 : (ok == 5) = false := by rw [beq_eq_false_iff_ne]; exact h5
        have b6 : (ok == 6) = false := by rw [beq_eq_false_iff_ne]; exact h6
        have b7 : (ok == 7) = false := by rw [beq_eq_false_iff_ne]; exact h7
        have b8 : (ok == 8) = false := by rw [beq_eq_false_iff_ne]; exact h8
        clear h1 h2 h3 h4 h5 h6 h7 h8
        have SB1 : Hid (Sim bes (a) (b)) := Lib.hid (SB.out)
        have SS1 : Hid (Sim wrd (a) (c)) := Lib.hid (SS.out)
        have RG1 : Hid (Rng (a)) := Lib.hid (RG.out)
        obtain ⟨nu, hnu⟩ : ∃ nu, (a).undo.length = nu := ⟨_, rfl⟩
        obtain ⟨nr, hnr⟩ : ∃ nr, (a).redo.length = nr := ⟨_, rfl⟩
        obtain ⟨ob, hob⟩ : ∃ ob, (a).isOpen = ob := ⟨_, rfl⟩
        obtain ⟨bd, hbd⟩ : ∃ bd, (a).bound = bd := ⟨_, rfl⟩
        have HUA := Lib.hid hnu
        have HUB := Lib.hid (SB1.out.undos.trans hnu)
        have HRA := Lib.hid hnr
        have HRC := Lib.hid (SS1.out.redos.trans hnr)
        have HOA := Lib.hid hob
        have HOB := Lib.hid (SB1.out.open_.trans hob)
        have HDA := Lib.hid hbd
        have HDC := Lib.hid (SS1.out.bd.trans hbd)
        have o1 : ((nu : Int) != (nu : Int)) = false := by simp
        have o2 : ((nr : Int) != (nr : Int)) = false := by simp
        have o3 : (ob != ob) = false := by simp
        have o4 : ((bd : Int) != (bd : Int)) = false := by simp
        clear hnu hnr hob hbd
        go_wp2_with (first
          | (go_at_call 23; go_fit (LogI.undos_b HTA.out.l nu HUA.out); rintro e wx ⟨rfl, rfl⟩)
          | (go_at_call 53; go_fit (LogB.undos_b HTA.out.m nu HUB.out); rintro e wx ⟨rfl, rfl⟩)
          | (go_at_call 24; go_fit (LogI.redos_b HTA.out.l nr HRA.out); rintro e wx ⟨rfl, rfl⟩)
          | (go_at_call 54; go_fit (LogS.redos_b HTA.out.k nr HRC.out); rintro e wx ⟨rfl, rfl⟩)
          | (go_at_call 55; go_fit (LogI.open_b HTA.out.l ob HOA.out); rintro e wx ⟨rfl, rfl⟩)
          | (go_at_call 56; go_fit (LogB.open_b HTA.out.m ob HOB.out); rintro e wx ⟨rfl, rfl⟩)
          | (go_at_call 22; go_fit (LogI.bound_b HTA.out.l bd HDA.out); rintro e wx ⟨rfl, rfl⟩)
          | (go_at_call 57; go_fit (LogS.bound_b HTA.out.k bd HDC.out); rintro e wx ⟨rfl, rfl⟩))
        go_roundg k1
        case measure => omega
        case rel => exact ⟨i + 1, by simp, by omega, _, _, _, _, _, _, _, HTA, SB1, SS1, RG1, HN0⟩
end Log
end Go.Proofs.YtkpcnfchhnfpoaaDoor
/- LogWide, as its row wants it. -/
set_option linter.unusedVariables false
namespace Go.Proofs.YtkpcnfchhnfpoaaDoor
open Go.RowKit Go.Proofs.YtkpcnfchhnfpoaaDoor.Sep Log
namespace Log
theorem wide_row (W : World) (n : Int) {X : Prop} (hn : X) {H : Type}
    (A : Option Addr) (l c : Nat) (us : List (OpV × DataW H)) (hr : ReadsO W W.heap.size A l (us.map (·.1))) (hc : l ≤ c) (ho : ∀ u ∈ us, oOk W u) (y : l * 40 ≤ reachBytes) (hl : us.length = l) {d : DataW H} (hd : (l = 0 ∧ d = .nil) ∨ ∃ sp, d = .slice (us.map (·.2)) sp) (hb : Rows.uptoBulk d ≤ 1048576) :
    Calls Tryd.prog 8 #[.int .i64 n, .slice A l c] W fun e W' => e = .returned (.bool true) ∧ Below W.heap.size W W' := by
  refine wide_w W n A l c _ hr ?_
  have h := bulk_ops hl ho hd hb
  omega
end Log
end Go.Proofs.YtkpcnfchhnfpoaaDoor
