/- What a log is, told without memory: groups, and what each call makes of them. -/
import Derived.Test.YtkpcnfchhnfpoaaDoorLists
set_option linter.unusedVariables false
namespace Go.Proofs.YtkpcnfchhnfpoaaDoor
open Go.RowKit Go.Proofs.YtkpcnfchhnfpoaaDoor.Sep
namespace Log
structure AG (α : Type) where
  ds : List Delta
  ah : α
  be : α
structure AS (α : Type) where
  bound : Nat
  undo : List (AG α)
  redo : List (AG α)
  cur : Option (AG α × Bool × Nat)
def live (d : Delta) : Bool := !d.2.1.toList.isEmpty || !d.2.2.toList.isEmpty
def back (ds : List Delta) : List Delta := ds.reverse.map inv
def trim {β : Type} (b : Nat) (l : List β) : List β := if b < l.length then l.drop 1 else l
namespace AS
variable {α : Type}
def new (b : Nat) : AS α := ⟨b, [], [], none⟩
def isOpen (a : AS α) : Bool := a.cur.isSome
def begin_ (z : α) (a : AS α) (x : α) : AS α := match a.cur with
  | none => { a with cur := some (⟨[], x, z⟩, false, 0) }
  | some _ => a
def resumeG (a : AS α) : Option (AG α) := match a.cur with
  | none => if a.redo.isEmpty = true then a.undo.getLast? else none
  | some _ => none
def resume (a : AS α) : AS α := match a.resumeG with
  | some g => { a with undo := a.undo.dropLast, cur := some (g, true, g.ds.length) }
  | none => a
def add (a : AS α) (ds : List Delta) : AS α := match a.cur with
  | some (g, r, f) => { a with cur := some ({ g with ds := g.ds ++ ds.filter live }, r, f) }
  | none => a
def commitB (a : AS α) : Bool := match a.cur with
  | some (g, _, _) => !g.ds.isEmpty && decide (0 < a.bound)
  | none => false
def commit (a : AS α) (x : α) : AS α := match a.cur with
  | some (g, _, _) => if g.ds.isEmpty = true then { a with cur := none } else ⟨a.bound, trim a.bound (a.undo ++ [{ g with be := x }]), [], none⟩
  | none => a
def cancelL (a : AS α) : List Delta := match a.cur with
  | some (g, _, f) => back (g.ds.drop f)
  | none => []
def cancel (a : AS α) : AS α := match a.cur with
  | some (g, r, f) => { a with cur := none, undo := if r = true then a.undo ++ [{ g with ds := g.ds.take f }] else a.undo }
  | none => a
def undoG (a : AS α) : Option (AG α) := match a.cur with
  | none => a.undo.getLast?
  | some _ => none
def redoG (a : AS α) : Option (AG α) := match a.cur with
  | none => a.redo.getLast?
  | some _ => none
def undoL (a : AS α) : List Delta := match a.undoG with
  | some g => back g.ds
  | none => []
def undoA (z : α) (a : AS α) : α := match a.undoG with
  | some g => g.ah
  | none => z
def undoE (a : AS α) : Int := match a.undoG with
  | some _ => 0
  | none => 3
def undo_ (a : AS α) : AS α := match a.undoG with
  | some g => { a with undo := a.undo.dropLast, redo := a.redo ++ [g] }
  | none => a
def redoL (a : AS α) : List Delta := match a.redoG with
  | some g => g.ds
  | none => []
def redoA (z : α) (a : AS α) : α := match a.redoG with
  | some g => g.be
  | none => z
def redoE (a : AS α) : Int := match a.redoG with
  | some _ => 0
  | none => 4
def redo_ (a : AS α) : AS α := match a.redoG with
  | some g => { a with redo := a.redo.dropLast, undo := a.undo ++ [g] }
  | none => a
def clear (a : AS α) : AS α := ⟨a.bound, [], [], none⟩
/-- It is small: so many groups, so many deltas in each. -/
structure Inv (N : Nat) (a : AS α) : Prop where
  b : a.bound ≤ 1000
  n : a.undo.length + a.redo.length + (match a.cur with | some (_, true, _) => 1 | _ => 0) ≤ a.bound
  d : ∀ g ∈ a.undo ++ a.redo, g.ds.length ≤ N
  c : ∀ g r f, a.cur = some (g, r, f) → g.ds.length ≤ N ∧ f ≤ g.ds.length
end AS
end Log
end Go.Proofs.YtkpcnfchhnfpoaaDoor
