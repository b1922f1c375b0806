/- Lists of deltas: inverted, copied, compared. -/
import Derived.Test.YtkpcnfchhnfpoaaDoorDelta
import Derived.Test.YtkpcnfchhnfpoaaDoorWEqStruct
import Derived.Handy
import Derived.WalkSpells
import Derived.WalkLawsBesides
import Derived.Deep.RegionHeld3
import Derived.LoopTactic
import Derived.BigQuiet
import Derived.IntWalk
import Derived.StillTailTactics
set_option linter.unusedVariables false
namespace Go.Proofs.YtkpcnfchhnfpoaaDoor
open Go.RowKit Go.Proofs.YtkpcnfchhnfpoaaDoorW.PrintWords Go.Proofs.YtkpcnfchhnfpoaaDoor.Sep
namespace Log
theorem toList_inj (a b : ByteArray) : a.toList = b.toList ↔ a = b := by
  rw [ByteArray.toList_eq, ByteArray.toList_eq]
  constructor
  · intro h
    cases a; cases b
    simpa [Array.toList_inj] using h
  · rintro rfl; rfl
def deq (a b : Delta) : Bool := (a.1 == b.1) && ((a.2.1.toList == b.2.1.toList) && (a.2.2.toList == b.2.2.toList))
theorem deq_eq (a b : Delta) : deq a b = decide (a = b) := by
  obtain ⟨a1, a2, a3⟩ := a
  obtain ⟨b1, b2, b3⟩ := b
  unfold deq
  rw [Bool.eq_iff_iff]
  simp [toList_inj]
theorem flds24 : ∃ f0 f1 f2 : Field, (Tryd.prog.fieldsOf 24).toList = [f0, f1, f2] ∧ ((f0.name == "_") = false ∧ f0.type = 3 ∧ f0.offset = 0) ∧ ((f1.name == "_") = false ∧ f1.type = 9 ∧ f1.offset = 1) ∧ ((f2.name == "_") = false ∧ f2.type = 9 ∧ f2.offset = 2) := by
  have h : ((Tryd.prog.fieldsOf 24).toList.map fun f => (f.name == "_", f.type, f.offset)) = [(false, 3, 0), (false, 9, 1), (false, 9, 2)] := by kernel_rfl
  generalize (Tryd.prog.fieldsOf 24).toList = l at h
  rcases l with _ | ⟨f0, _ | ⟨f1, _ | ⟨f2, _ | ⟨f3, l⟩⟩⟩⟩ <;> simp at h
  exact ⟨f0, f1, f2, rfl, by simp [h], by simp [h], by simp [h]⟩
theorem und24 : Tryd.prog.underlying 24 = some (.struct (Tryd.prog.fieldsOf 24)) := by kernel_rfl
theorem equal24 (w : World) (a b : Delta) : (Op.equalIn 10000 24 (dagg a) (dagg b)).run Tryd.prog w = .ok (deq a b) w := by
  refine eqA_of und24 (by kernel_rfl) ?_
  obtain ⟨f0, f1, f2, h, ⟨n0, t0, o0⟩, ⟨n1, t1, o1⟩, ⟨n2, t2, o2⟩⟩ := flds24
  rw [h]
  refine eqf_cons n0 (a := .int .i64 a.1) (b := .int .i64 b.1) (by rw [t0, o0]; kernel_rfl) (by rw [t0, o0]; kernel_rfl) (by rw [t0]; exact run_equalIn_int _ _ _ _ _ _ _ Tryd.underlying3) ?_
  refine eqf_cons n1 (a := .string a.2.1) (b := .string b.2.1) (by rw [t1, o1]; kernel_rfl) (by rw [t1, o1]; kernel_rfl) (by rw [t1]; exact run_equalIn_string _ _ _ _ _ Tryd.underlying9) ?_
  exact eqf_last n2 (a := .string a.2.2) (b := .string b.2.2) (by rw [t2, o2]; kernel_rfl) (by rw [t2, o2]; kernel_rfl) (by rw [t2]; exact run_equalIn_string _ _ _ _ _ Tryd.underlying9)
theorem neq24 (w : World) (a b : Delta) : (binOp .neq 24 (dagg a) (dagg b)).run Tryd.prog w = .ok (.bool (!deq a b)) w := by
  unfold dagg
  rw [run_neq_struct]
  have := equal24 w a b
  unfold dagg at this
  rw [this]
  rfl
theorem eql24 (w : World) (a b : Delta) : (binOp .eql 24 (dagg a) (dagg b)).run Tryd.prog w = .ok (.bool (deq a b)) w := by
  unfold dagg
  rw [run_eql_struct]
  have := equal24 w a b
  unfold dagg at this
  rw [this]
  rfl
/-- A list of deltas of one's own. -/
def OwnD (w : World) (v : Value) (ds : List Delta) : Prop := OwnS w 24 3 v ds.length (ds.flatMap dcells)
theorem flat_dlen (ds : List Delta) : (ds.flatMap dcells).length = ds.length * 3 := by
  induction ds with
  | nil => rfl
  | cons d ds ih => rw [List.flatMap_cons, List.length_append, ih, List.length_cons, Nat.succ_mul]; simp [dcells]; omega
theorem OwnD.reads {w : World} {A : Option Addr} {n c : Nat} {ds : List Delta} (h : OwnD w (.slice A n c) ds) (hn : n = ds.length) : ReadsD w w.heap.size A n ds := by
  subst hn
  exact ⟨rfl, OwnS.reads h⟩
theorem one_cells (ds : List Delta) : ∀ u ∈ ds.flatMap dcells, u.oneCell' = true := by
  intro u hu
  obtain ⟨d, _, hd⟩ := List.mem_flatMap.1 hu
  simp [dcells] at hd
  rcases hd with rfl | rfl | rfl <;> rfl
theorem ReadsD.upd {w w' : World} {A : Option Addr} {n : Nat} {ds : List Delta} (h : ReadsD w w.heap.size A n ds) (hb : Below w.heap.size w w') : ReadsD w' w'.heap.size A n ds := ⟨h.1, (h.2.below hb).more hb.size⟩
theorem OwnD.len {w : World} {v : Value} {ds : List Delta} (h : OwnD w v ds) : ∃ A c, v = .slice A ds.length c ∧ ds.length ≤ c := OwnS.form h
theorem reads_one (w : World) (d : Delta) : Reads (w.alloc (.cells #[.int .i64 d.1, .string d.2.1, .string d.2.2] 24)) (w.heap.size + 1) 3 (some ⟨w.heap.size, 0, none⟩) 1 (dcells d) := by
  have := (OwnS.new w 24 3 1 (dcells d) rfl (by unfold maxLen; omega)).reads
  simpa [dcells] using this
theorem invert_p_c (w : World) (a : Int) (o i : ByteArray) : Calls Tryd.prog 16 #[.agg #[.int .i64 a, .string o, .string i]] w fun e w' => e = .returned (.agg #[.int .i64 a, .string i, .string o]) ∧ Below w.heap.size w w' := invert_p w (a, o, i)
theorem invert_d_c (w : World) (a : Int) (o i : ByteArray) : Calls Tryd.prog 17 #[.agg #[.int .i64 a, .string o, .string i]] w fun e w' => e = .returned (.agg #[.int .i64 a, .string i, .string o]) ∧ Below w.heap.size w w' := invert_d w (a, o, i)
theorem drop_rev (ds : List Delta) (k : Nat) (hk : k < ds.length) : ((ds.drop k).reverse.map inv) = ((ds.drop (k + 1)).reverse.map inv) ++ [inv (ds.getD k D0)] := by
  rw [List.drop_eq_getElem_cons hk, List.reverse_cons, List.map_append]
  simp [List.getD, hk]
set_option maxRecDepth 100000 in
set_option maxHeartbeats 1600000 in
theorem inverted_p (w : World) (A : Option Addr) (n c : Nat) (ds : List Delta) (hr : ReadsD w w.heap.size A n ds) (hn : n ≤ 1000000000000) :
    Calls Tryd.prog 59 #[.slice A n c] w fun e w' => ∃ v, e = .returned v ∧ OwnD w' v (ds.reverse.map inv) ∧ (∀ k, v.ownBlock = some k → w.heap.size ≤ k) ∧ Below w.heap.size w w' := by
  have HR := Lib.hid hr
  have hl := hr.1
  clear hr
  obtain ⟨i0, hi0, hz0, hz1, hz2⟩ := info_parts info24
  have z1 : IntKind.i64.wrap ((n : Int) - 1) = (n : Int) - 1 := IntWalk.i64_in _ (by omega)
  go_enter Tryd.func59, Tryd.ntmps59
  go_wp2
  clear z1
  go_loopg [4, 3] n (fun k v4 v3 w' => v4 = .int .i64 ((k : Int) - 1) ∧ k ≤ n ∧ Hid (OwnD w' v3 ((ds.drop k).reverse.map inv)) ∧ Hid (∀ b, v3.ownBlock = some b → w.heap.size ≤ b) ∧ Hid (Below w.heap.size w w'))
  case atStart => exact ⟨rfl, Nat.le_refl _, Lib.hid (by rw [List.drop_eq_nil_of_le (by omega)]; exact OwnS.nil _ _ _), Lib.hid (fun b h => by cases h), Lib.hid (Below.refl _ _)⟩
  case round =>
    obtain ⟨rfl, hk, HO, HF, HW⟩ := hrel
    cases gk with
    | zero =>
      have e1 : decide ((0 : Int) ≤ ((0 : Nat) : Int) - 1) = false := by simp
      go_wp2
      go_ret
      exact ⟨_, rfl, HO.out, HF.out, HW.out⟩
    | succ k1 =>
      have hl3 : ((ds.drop (k1 + 1)).reverse.map inv).length = n - (k1 + 1) := by simp [hl]
      have e0 : (((k1 + 1 : Nat) : Int) - 1) = (k1 : Int) := by omega
      obtain ⟨g, off, rfl, d0, d1, d2, _⟩ := delta_at HR.out hk
      have hgl : g < w.heap.size := World.block_lt_of_cell? _ _ d0
      have c0 := (HW.out.cell (p := ⟨g, off + k1 * 3, none⟩) hgl).trans d0
      have c1 := (HW.out.cell (p := ⟨g, off + k1 * 3 + 1, none⟩) hgl).trans d1
      have c2 := (HW.out.cell (p := ⟨g, off + k1 * 3 + 2, none⟩) hgl).trans d2
      have hgw : g < wr.heap.size := Nat.lt_of_lt_of_le hgl HW.out.size
      clear d0 d1 d2
      have HDR := Lib.hid (drop_rev ds k1 (by omega))
      obtain ⟨x, hx⟩ : ∃ x, x = ds.getD k1 D0 := ⟨_, rfl⟩
      rw [← hx] at c0 c1 c2 HDR
      clear hx
      obtain ⟨x0, x1, x2⟩ := x
      have HL3 := Lib.hid hl3
      clear hl3
      rw [e0]
      go_wp2_with (first
        | (go_at_call 16; refine (invert_p_c _ _ _ _).mono ?_; rintro e w1 ⟨rfl, hb⟩; have HW1 := Lib.hid hb; clear hb)
        | (at_builtin; refine wpList_append_s (v := u3) rfl (.tmp 12) (.tmp 18) _ rfl Tryd.underlying22 hi0 hz0 hz1 hz2 rfl (by omega) rfl (OwnS.upd HO.out ((Upd.below HW1.out No).alloc (.cells #[.int .i64 x0, .string x2, .string x1] 24)) (fun _ _ h => h)) rfl (reads_one w1 (x0, x2, x1)) (one_cells [(x0, x2, x1)]) (by rw [HL3.out]; unfold maxLen; omega) (by rw [HL3.out]; omega) ?_; intro v5 w5 ho5 hg5 hb5; have HO5 := Lib.hid ho5; have HG5 := Lib.hid hg5; have HB5 := Lib.hid hb5; clear ho5 hg5 hb5))
      go_roundg k1
      case measure => omega
      case rel =>
        refine ⟨by simp, by omega, Lib.hid ?_, Lib.hid ?_, Lib.hid ?_⟩
        · rw [HDR.out]
          unfold OwnD
          simpa [inv] using HO5.out
        · intro b hb
          rcases HB5.out with e | e
          · exact HF.out b (by rw [← e]; exact hb)
          · have h1 := e b hb
            have h2 := HW1.out.size
            have h3 := HW.out.size
            simp at h1
            omega
        · have hu : Upd (fun k => u3.ownBlock = some k) wr w5 := ((Upd.below HW1.out _).alloc _).then_ (Upd.grown (S := fun k => u3.ownBlock = some k) HG5.out (fun k e => e)) (fun k hk => .inl hk)
          exact HW.out.trans (hu.toBelow HW.out.size (fun k hk => HF.out k hk))
set_option maxRecDepth 100000 in
set_option maxHeartbeats 1600000 in
theorem inverted_d (w : World) (A : Option Addr) (n c : Nat) (ds : List Delta) (hr : ReadsD w w.heap.size A n ds) (hn : n ≤ 1000000000000) :
    Calls Tryd.prog 77 #[.slice A n c] w fun e w' => ∃ v, e = .returned v ∧ OwnD w' v (ds.reverse.map inv) ∧ (∀ k, v.ownBlock = some k → w.heap.size ≤ k) ∧ Below w.heap.size w w' := by
  have HR := Lib.hid hr
  have hl := hr.1
  clear hr
  obtain ⟨i0, hi0, hz0, hz1, hz2⟩ := info_parts info24
  have z1 : IntKind.i64.wrap ((n : Int) - 1) = (n : Int) - 1 := IntWalk.i64_in _ (by omega)
  go_enter Tryd.func77, Tryd.ntmps77
  go_wp2
  clear z1
  go_loopg [4, 3] n (fun k v4 v3 w' => v4 = .int .i64 ((k : Int) - 1) ∧ k ≤ n ∧ Hid (OwnD w' v3 ((ds.drop k).reverse.map inv)) ∧ Hid (∀ b, v3.ownBlock = some b → w.heap.size ≤ b) ∧ Hid (Below w.heap.size w w'))
  case atStart => exact ⟨rfl, Nat.le_refl _, Lib.hid (by rw [List.drop_eq_nil_of_le (by omega)]; exact OwnS.nil _ _ _), Lib.hid (fun b h => by cases h), Lib.hid (Below.refl _ _)⟩
  case round =>
    obtain ⟨rfl, hk, HO, HF, HW⟩ := hrel
    cases gk with
    | zero =>
      have e1 : decide ((0 : Int) ≤ ((0 : Nat) : Int) - 1) = false := by simp
      go_wp2
      go_ret
      exact ⟨_, rfl, HO.out, HF.out, HW.out⟩
    | succ k1 =>
      have hl3 : ((ds.drop (k1 + 1)).reverse.map inv).length = n - (k1 + 1) := by simp [hl]
      have e0 : (((k1 + 1 : Nat) : Int) - 1) = (k1 : Int) := by omega
      obtain ⟨g, off, rfl, d0, d1, d2, _⟩ := delta_at HR.out hk
      have hgl : g < w.heap.size := World.block_lt_of_cell? _ _ d0
      have c0 := (HW.out.cell (p := ⟨g, off + k1 * 3, none⟩) hgl).trans d0
      have c1 := (HW.out.cell (p := ⟨g, off + k1 * 3 + 1, none⟩) hgl).trans d1
      have c2 := (HW.out.cell (p := ⟨g, off + k1 * 3 + 2, none⟩) hgl).trans d2
      have hgw : g < wr.heap.size := Nat.lt_of_lt_of_le hgl HW.out.size
      clear d0 d1 d2
      have HDR := Lib.hid (drop_rev ds k1 (by omega))
      obtain ⟨x, hx⟩ : ∃ x, x = ds.getD k1 D0 := ⟨_, rfl⟩
      rw [← hx] at c0 c1 c2 HDR
      clear hx
      obtain ⟨x0, x1, x2⟩ := x
      have HL3 := Lib.hid hl3
      clear hl3
      rw [e0]
      go_wp2_with (first
        | (go_at_call 17; refine (invert_d_c _ _ _ _).mono ?_; rintro e w1 ⟨rfl, hb⟩; have HW1 := Lib.hid hb; clear hb)
        | (at_builtin; refine wpList_append_s (v := u3) rfl (.tmp 12) (.tmp 18) _ rfl Tryd.underlying22 hi0 hz0 hz1 hz2 rfl (by omega) rfl (OwnS.upd HO.out ((Upd.below HW1.out No).alloc (.cells #[.int .i64 x0, .string x2, .string x1] 24)) (fun _ _ h => h)) rfl (reads_one w1 (x0, x2, x1)) (one_cells [(x0, x2, x1)]) (by rw [HL3.out]; unfold maxLen; omega) (by rw [HL3.out]; omega) ?_; intro v5 w5 ho5 hg5 hb5; have HO5 := Lib.hid ho5; have HG5 := Lib.hid hg5; have HB5 := Lib.hid hb5; clear ho5 hg5 hb5))
      go_roundg k1
      case measure => omega
      case rel =>
        refine ⟨by simp, by omega, Lib.hid ?_, Lib.hid ?_, Lib.hid ?_⟩
        · rw [HDR.out]
          unfold OwnD
          simpa [inv] using HO5.out
        · intro b hb
          rcases HB5.out with e | e
          · exact HF.out b (by rw [← e]; exact hb)
          · have h1 := e b hb
            have h2 := HW1.out.size
            have h3 := HW.out.size
            simp at h1
            omega
        · have hu : Upd (fun k => u3.ownBlock = some k) wr w5 := ((Upd.below HW1.out _).alloc _).then_ (Upd.grown (S := fun k => u3.ownBlock = some k) HG5.out (fun k e => e)) (fun k hk => .inl hk)
          exact HW.out.trans (hu.toBelow HW.out.size (fun k hk => HF.out k hk))
set_option maxRecDepth 100000 in
set_option maxHeartbeats 1600000 in
theorem copied (w : World) (A : Option Addr) (n c : Nat) (ds : List Delta) (hr : ReadsD w w.heap.size A n ds) (hn : n ≤ 1000000000000) :
    Calls Tryd.prog 12 #[.slice A n c] w fun e w' => ∃ v, e = .returned v ∧ OwnD w' v ds ∧ (∀ k, v.ownBlock = some k → w.heap.size ≤ k) ∧ Below w.heap.size w w' := by
  have HR := Lib.hid hr
  have hl := hr.1
  clear hr
  obtain ⟨i0, hi0, hz0, hz1, hz2⟩ := info_parts info24
  have HE : Hid (OwnS (w.alloc (.cells #[] 24)) 24 3 (.slice (some ⟨w.heap.size, 0, none⟩) 0 0) 0 []) := Lib.hid (OwnS.new w 24 3 0 [] rfl (by unfold maxLen; omega))
  have HR2 : Hid (Reads (w.alloc (.cells #[] 24)) w.heap.size 3 A n (ds.flatMap dcells)) := Lib.hid (HR.out.2.alloc (Nat.le_refl _) _)
  go_enter Tryd.func12, Tryd.ntmps12
  go_wp2_with (at_builtin; refine wpList_append_s (v := .slice (some ⟨w.heap.size, 0, none⟩) 0 0) rfl (.tmp 3) (.tmp 4) _ rfl Tryd.underlying22 hi0 hz0 hz1 hz2 rfl (by omega) rfl HE.out rfl HR2.out (one_cells ds) (by unfold maxLen; omega) (by omega) ?_; intro v5 w5 ho5 hg5 hb5; have HO5 := Lib.hid ho5; have HG5 := Lib.hid hg5; have HB5 := Lib.hid hb5; clear ho5 hg5 hb5)
  go_ret
  refine ⟨_, rfl, ?_, ?_, ?_⟩
  · unfold OwnD
    have := HO5.out
    rw [Nat.zero_add, List.nil_append] at this
    rw [hl]
    exact this
  · intro b hb
    have hb : v5.ownBlock = some b := hb
    rcases HB5.out with e | e
    · rw [e] at hb
      have : w.heap.size = b := by simpa [Value.ownBlock] using hb
      omega
    · have h1 := e b hb
      simp at h1
      omega
  · have hu : Upd (fun k => k = w.heap.size) w w5 := ((Upd.refl _ w).alloc _).then_ (Upd.grown (S := fun k => k = w.heap.size) HG5.out (fun k e => (show w.heap.size = k by simpa [Value.ownBlock] using e).symm)) (fun k hk => .inl hk)
    exact hu.toBelow (Nat.le_refl _) (fun k hk => by omega)
theorem ext_getD {ds es : List Delta} (hl : ds.length = es.length) (h : ∀ j, j < ds.length → ds.getD j D0 = es.getD j D0) : ds = es := by
  apply List.ext_getElem hl
  intro j h1 h2
  have := h j h1
  simpa [List.getD, h1, h2] using this
theorem Below.drewN' {B : Nat} {w w' : World} (h : Below B w w') (m : Nat) : Below B w (w'.drewN m) := ⟨h.os, h.tape, h.output, h.size, h.block⟩
set_option maxRecDepth 100000 in
set_option maxHeartbeats 1600000 in
theorem same (w : World) (A A' : Option Addr) (n n' c c' : Nat) (ds es : List Delta) (hr : ReadsD w w.heap.size A n ds) (hr' : ReadsD w w.heap.size A' n' es) (hn : n ≤ 1000000000000) :
    Calls Tryd.prog 27 #[.slice A n c, .slice A' n' c'] w fun e w' => e = .returned (.bool (decide (ds = es))) ∧ Below w.heap.size w w' := by
  have HR := Lib.hid hr
  have HR' := Lib.hid hr'
  have hl := hr.1
  have hl' := hr'.1
  clear hr hr'
  by_cases hnn : n = n'
  · subst hnn
    have e1 : ((n : Int) != (n : Int)) = false := by simp
    go_enter Tryd.func27, Tryd.ntmps27
    go_wp2
    clear e1
    go_loopg [5] n (fun k v5 w' => ∃ i : Nat, v5 = .int .i64 i ∧ i + k = n ∧ Hid (∀ j, j < i → ds.getD j D0 = es.getD j D0) ∧ Hid (Below w.heap.size w w'))
    case atStart => exact ⟨0, rfl, by omega, Lib.hid (fun j hj => by omega), Lib.hid (Below.refl _ _)⟩
    case round =>
      obtain ⟨i, rfl, hik, HI, HW⟩ := hrel
      cases gk with
      | zero =>
        have e1 : decide (i < n) = false := by simp; omega
        have HE : Hid (decide (ds = es) = true) := Lib.hid (decide_eq_true (ext_getD (by omega) (fun j hj => HI.out j (by omega))))
        go_wp2
        go_ret
        exact ⟨by rw [HE.out]; rfl, HW.out⟩
      | succ k1 =>
        have hi : i < n := by omega
        obtain ⟨g, off, rfl, d0, d1, d2, _⟩ := delta_at HR.out hi
        obtain ⟨g', off', rfl, f0, f1, f2, _⟩ := delta_at HR'.out hi
        have hgl : g < w.heap.size := World.block_lt_of_cell? _ _ d0
        have hgl' : g' < w.heap.size := World.block_lt_of_cell? _ _ f0
        have c0 := (HW.out.cell (p := ⟨g, off + i * 3, none⟩) hgl).trans d0
        have c1 := (HW.out.cell (p := ⟨g, off + i * 3 + 1, none⟩) hgl).trans d1
        have c2 := (HW.out.cell (p := ⟨g, off + i * 3 + 2, none⟩) hgl).trans d2
        have b0 := (HW.out.cell (p := ⟨g', off' + i * 3, none⟩) hgl').trans f0
        have b1 := (HW.out.cell (p := ⟨g', off' + i * 3 + 1, none⟩) hgl').trans f1
        have b2 := (HW.out.cell (p := ⟨g', off' + i * 3 + 2, none⟩) hgl').trans f2
        clear d0 d1 d2 f0 f1 f2
        obtain ⟨x, hx⟩ : ∃ x, x = ds.getD i D0 := ⟨_, rfl⟩
        obtain ⟨y, hy⟩ : ∃ y, y = es.getD i D0 := ⟨_, rfl⟩
        rw [← hx] at c0 c1 c2
        rw [← hy] at b0 b1 b2
        have HX := Lib.hid hx
        have HY := Lib.hid hy
        clear hx hy
        have hq := fun w0 => neq24 w0 x y
        have HD := Lib.hid (deq_eq x y)
        unfold dagg at hq
        cases hd : deq x y with
        | false =>
          rw [hd] at hq HD
          have HF : Hid (decide (ds = es) = false) := Lib.hid (by
            have := HD.out
            have h2 : ¬ x = y := by simpa using this.symm
            refine decide_eq_false (fun e => h2 ?_)
            rw [HX.out, HY.out, e])
          obtain ⟨x0, x1, x2⟩ := x
          obtain ⟨y0, y1, y2⟩ := y
          dsimp only at c0 c1 c2 b0 b1 b2 hq
          go_wp2
          go_quiet (fail)
          go_wp2
          go_ret
          exact ⟨by rw [HF.out]; rfl, Below.drewN' HW.out _⟩
        | true =>
          rw [hd] at hq HD
          have HF : Hid (x = y) := Lib.hid (by have := HD.out; simpa using this.symm)
          obtain ⟨x0, x1, x2⟩ := x
          obtain ⟨y0, y1, y2⟩ := y
          dsimp only at c0 c1 c2 b0 b1 b2 hq
          go_wp2
          go_quiet (fail)
          go_wp2
          go_roundg k1
          case measure => omega
          case rel =>
            refine ⟨i + 1, by simp, by omega, Lib.hid (fun j hj => ?_), Lib.hid (Below.drewN' HW.out _)⟩
            by_cases hji : j = i
            · subst hji
              rw [← HX.out, ← HY.out, HF.out]
            · exact HI.out j (by omega)
  · have e1 : ((n : Int) != (n' : Int)) = true := by simp; omega
    have HF : Hid (decide (ds = es) = false) := Lib.hid (decide_eq_false (fun e => hnn (by rw [← hl, ← hl', e])))
    go_enter Tryd.func27, Tryd.ntmps27
    go_wp2
    go_ret
    exact ⟨by rw [HF.out]; rfl, Below.refl _ _⟩
end Log
end Go.Proofs.YtkpcnfchhnfpoaaDoor
