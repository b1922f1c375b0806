/- A slice that came in, opened: whatever its elements are (texts, truth values, structs of one-cell fields). Plain lemmas, no program. -/
import Derived.Test.YtceomobdolkfgaaDoorEA
import Derived.Deep.Slices
import Derived.Deep.Fields
import Derived.SizedLaws
import Derived.ChangeArms
set_option linter.unusedVariables false
namespace Go.Proofs.YtceomobdolkfgaaDoor.Opens
open Go.ChangeShapes Go.WideShapes Go.Deep Go.RowKit Go.Proofs.YtceomobdolkfgaaDoor.Sep
theorem flat_get {α β : Type} (f : α → List β) (sz : Nat) (hf : ∀ u, (f u).length = sz) : ∀ (us : List α) (j : Nat) (v : β), (us.flatMap f)[j]? = some v → ∃ i u r, us[i]? = some u ∧ (f u)[r]? = some v ∧ j = i * sz + r
  | [], j, v, h => by simp at h
  | u :: us, j, v, h => by
    rw [List.flatMap_cons] at h
    by_cases hj : j < sz
    · rw [List.getElem?_append_left (by rw [hf]; exact hj)] at h
      exact ⟨0, u, j, rfl, h, by simp⟩
    · rw [List.getElem?_append_right (by rw [hf]; omega), hf] at h
      obtain ⟨i, u', r, h1, h2, h3⟩ := flat_get f sz hf us _ v h
      exact ⟨i + 1, u', r, by simpa using h1, h2, by rw [Nat.succ_mul]; omega⟩
theorem flat_len {α β : Type} (f : α → List β) (sz : Nat) (hf : ∀ u, (f u).length = sz) : ∀ us : List α, (us.flatMap f).length = us.length * sz
  | [] => by simp
  | u :: us => by rw [List.flatMap_cons, List.length_append, hf, flat_len f sz hf us, List.length_cons, Nat.succ_mul]; omega
section
variable {H : Type} {enc : TypeId × Value → H} {P : Program} {w : World} {base : Nat} {spare : Nat → Bool} {held : Bool}
theorem open_reads {α : Type} [Inhabited α] (cells : α → List Value) (dat : α → DataW H) (ok : α → Prop) (sz : Nat) (hsz : ∀ u, (cells u).length = sz) (hpos : 0 < sz) {t e : TypeId} {fuel : Nat} {a : Option Addr} {len cap : Nat} {x : DataW H × List MemPlace}
    (ht : P.underlying t = some (.slice e)) (hC : P.cellsOf e = sz) (dec : ∀ n cs y, DataW.trod enc P w base spare held n e cs = some y → ∃ u, cs = cells u ∧ y.1 = dat u ∧ ok u)
    (h : DataW.trod enc P w base spare held fuel t [.slice a len cap] = some x) :
    ∃ us : List α, us.length = len ∧ Reads w w.heap.size sz a len (us.flatMap cells) ∧ len ≤ cap ∧ (∀ u ∈ us, ok u) ∧ ((len = 0 ∧ x.1 = .nil) ∨ ∃ sp, x.1 = .slice (us.map dat) sp) := by
  rcases open_slice ht h with ⟨h0, hx⟩ | ⟨ad, len', cap', m, n, D, Pl, hcs, hb, hl, hm, hmm, hx, hi⟩
  · simp at h0
    obtain ⟨rfl, rfl, rfl⟩ := h0
    exact ⟨[], rfl, by simpa using Reads.none_, Nat.le_refl _, by simp, .inl ⟨rfl, by rw [hx]⟩⟩
  · simp at hcs
    obtain ⟨rfl, rfl, rfl⟩ := hcs
    have hmle : len ≤ m := by rw [hmm]; split <;> omega
    have each : ∀ i, ∃ u, i < m → (∃ cs', w.cells? base (ad.add (i * sz)) sz = some cs' ∧ cs' = cells u) ∧ D i = dat u ∧ ok u := by
      intro i
      by_cases him : i < m
      · obtain ⟨cs', h1, h2⟩ := hi i him
        obtain ⟨u, h3, h4, h5⟩ := dec n cs' _ h2
        rw [hC] at h1
        exact ⟨u, fun _ => ⟨⟨cs', h1, h3⟩, h4, h5⟩⟩
      · exact ⟨default, fun h => absurd h him⟩
    obtain ⟨f, hfm⟩ := Classical.axiomOfChoice each
    have hcell : ∀ i r v, i < m → (cells (f i))[r]? = some v → w.cell? (ad.add (i * sz + r)) = some v := by
      intro i r v him hr
      obtain ⟨⟨cs', h1, h2⟩, _, _⟩ := hfm i him
      obtain ⟨_, hcl, hat⟩ := World.cells?_some h1
      subst h2
      have hrl : r < (cells (f i)).length := (List.getElem?_eq_some_iff.1 hr).1
      have := hat r (by omega)
      rw [← add_of_add, this]
      exact hr
    refine ⟨(List.range len).map f, by simp, ⟨?_, fun hlen => ⟨ad, rfl, ?_, fun j u hu => ?_⟩⟩, hl, ?_, .inr ⟨_, by rw [hx]; simp; refine ⟨?_, rfl⟩; exact fun i hi => (hfm i (by omega)).2.1⟩⟩
    · rw [flat_len _ sz hsz]
      simp
    · have hne : ∃ v, (cells (f 0))[0]? = some v := ⟨_, List.getElem?_eq_getElem (by rw [hsz]; exact hpos)⟩
      obtain ⟨v, hv⟩ := hne
      have := World.block_lt_of_cell? w _ (hcell 0 0 v (by omega) hv)
      simpa [block_of_add] using this
    · obtain ⟨i, u', r, h1, h2, h3⟩ := flat_get cells sz hsz _ j u hu
      subst h3
      have hil : i < len := by simpa using (List.getElem?_eq_some_iff.1 h1).1
      simp [hil] at h1
      subst h1
      exact hcell i r u (by omega) h2
    · intro u hu
      simp at hu
      obtain ⟨i, hil, rfl⟩ := hu
      exact (hfm i (by omega)).2.2

def strLit (s : ByteArray) : DataW H := .lit (.string s.data.toList)
theorem flat_one {α β : Type} (g : α → β) (us : List α) : us.flatMap (fun u => [g u]) = us.map g := by
  induction us with
  | nil => rfl
  | cons u us ih => simp [List.flatMap_cons, ih]
/-- Texts. -/
theorem open_texts {t e : TypeId} {a : Option Addr} {len cap : Nat} {d : DataW H} {p : List MemPlace} (ht : P.underlying t = some (.slice e)) (he : P.underlying e = some .string) (hC : P.cellsOf e = 1)
    (h : DataW.Trod enc P w base spare held t (.slice a len cap) d p) :
    ∃ us : List ByteArray, us.length = len ∧ Reads w w.heap.size 1 a len (us.map Value.string) ∧ len ≤ cap ∧ (∀ u ∈ us, u.size ≤ maxLen) ∧ ((len = 0 ∧ d = .nil) ∨ ∃ sp, d = .slice (us.map strLit) sp) := by
  obtain ⟨fuel, hf⟩ := h
  haveI : Inhabited ByteArray := ⟨ByteArray.empty⟩
  obtain ⟨us, h1, h2, h3, h4, h5⟩ := open_reads (fun u : ByteArray => [Value.string u]) strLit (fun u => u.size ≤ maxLen) 1 (fun _ => rfl) (by omega) ht hC (fun n cs y hy => by
    obtain ⟨s, rfl, rfl, hs⟩ := DataW.trod_string he hy
    exact ⟨s, rfl, rfl, hs⟩) hf
  rw [flat_one] at h2
  exact ⟨us, h1, h2, h3, h4, h5⟩
/-- Truth values. -/
theorem open_bools {t e : TypeId} {a : Option Addr} {len cap : Nat} {d : DataW H} {p : List MemPlace} (ht : P.underlying t = some (.slice e)) (he : P.underlying e = some .bool) (hC : P.cellsOf e = 1)
    (h : DataW.Trod enc P w base spare held t (.slice a len cap) d p) :
    ∃ us : List Bool, us.length = len ∧ Reads w w.heap.size 1 a len (us.map Value.bool) ∧ len ≤ cap := by
  obtain ⟨fuel, hf⟩ := h
  obtain ⟨us, h1, h2, h3, _, _⟩ := open_reads (fun u : Bool => [Value.bool u]) (fun b => .lit (.bool b)) (fun _ => True) 1 (fun _ => rfl) (by omega) ht hC (fun n cs y hy => by
    obtain ⟨s, rfl, rfl⟩ := DataW.trod_bool he hy
    exact ⟨s, rfl, rfl, trivial⟩) hf
  rw [flat_one] at h2
  exact ⟨us, h1, h2, h3⟩
/-- How many elements there are: their bytes fit into what a reading reaches. -/
theorem sized_len {ts : List TypeId} {ds : List (DataW H)} {j : Nat} {t e : TypeId} {len : Nat} {d : DataW H} {us : List (DataW H)} {B : Nat} (hsz : (DataW.weightsEach P ts ds).all (· ≤ reachBytes) = true) (ht : ts[j]? = some t) (hd : ds[j]? = some d) (hu : P.underlying t = some (.slice e)) (hB : P.bytesOf e = B)
    (hl : us.length = len) (h : (len = 0 ∧ d = .nil) ∨ ∃ sp, d = .slice us sp) : len * B ≤ reachBytes := by
  rcases h with ⟨rfl, _⟩ | ⟨sp, rfl⟩
  · simp
  · have := sized_slice hsz ht hd hu
    rw [hB] at this
    refine Nat.le_trans (Nat.mul_le_mul_right _ ?_) this
    omega
theorem weights_all_mem {e : TypeId} : ∀ {l : List (DataW H)} {d : DataW H}, d ∈ l → ∀ n ∈ d.weights P e, n ∈ DataW.weightsAll P e l
  | x :: l, d, h, n, hn => by
    simp only [DataW.weightsAll, List.mem_append]
    rcases List.mem_cons.1 h with rfl | h
    · exact .inl hn
    · exact .inr (weights_all_mem h n hn)
/-- Each text among the arguments fits into what a reading reaches. -/
theorem sized_texts {ts : List TypeId} {ds : List (DataW H)} {j : Nat} {t e : TypeId} {len : Nat} {d : DataW H} {us : List ByteArray} (hsz : (DataW.weightsEach P ts ds).all (· ≤ reachBytes) = true) (ht : ts[j]? = some t) (hd : ds[j]? = some d) (hu : P.underlying t = some (.slice e))
    (hl : us.length = len) (h : (len = 0 ∧ d = .nil) ∨ ∃ sp, d = .slice (us.map strLit) sp) : ∀ u ∈ us, u.size ≤ reachBytes := by
  intro u hmem
  rcases h with ⟨rfl, _⟩ | ⟨sp, rfl⟩
  · rw [List.eq_nil_of_length_eq_zero hl] at hmem
    cases hmem
  · have h1 : u.size ∈ (DataW.slice (us.map strLit) sp : DataW H).weights P t := by
      simp only [DataW.weights, hu, List.mem_cons, List.mem_append]
      refine .inr (.inl (weights_all_mem (List.mem_map.2 ⟨u, hmem, rfl⟩) _ ?_))
      show u.size ∈ (DataW.lit (.string u.data.toList) : DataW H).weights P e
      simp only [DataW.weights, List.mem_singleton, Array.length_toList]
      rfl
    have := List.all_eq_true.1 hsz _ (DataW.weights_mem_each ht hd _ h1)
    simpa using this
end
end Go.Proofs.YtceomobdolkfgaaDoor.Opens
