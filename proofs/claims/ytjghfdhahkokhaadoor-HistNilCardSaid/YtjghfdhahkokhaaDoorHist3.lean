/- The program's history: Add, and the methods of a nil history. -/
import Derived.Test.YtjghfdhahkokhaaDoorHist2
import Derived.BigQuiet
import Derived.IntWalk
set_option linter.unusedVariables false
namespace Go.Proofs.YtjghfdhahkokhaaDoor
open Go.RowKit Go.Proofs.YtjghfdhahkokhaaDoorW.PrintWords Go.Proofs.YtjghfdhahkokhaaDoor.Sep Go.Proofs.YtjghfdhahkokhaaDoor.Libs
namespace Hist
theorem info9 : (Tryd.prog.info? 9).map (fun i => (i.zero, i.size, i.bytes)) = some (some (.string ⟨#[]⟩), 1, 16) := by kernel_rfl
/-- Is the line taken? -/
def takes (s : HS) (t : ByteArray) : Bool := !t.toList.isEmpty && decide (s.bound ≠ 0) && !(decide (0 < s.ents.length) && ((s.ents.getD (s.ents.length - 1) E).toList == t.toList))
def trim (n : Int) (l : List ByteArray) : List ByteArray := if n < (l.length : Int) then l.drop 1 else l
def withEnts (s : HS) (l : List ByteArray) : HS := { s with ents := l, place := l.length, notes := [] }
def add (s : HS) (t : ByteArray) : HS := if takes s t = true then withEnts s (trim s.bound (s.ents ++ [t])) else homed s
section
variable {w w' : World} {b : Nat} {r : Pr} {s : HS}
theorem Inv.add (h : Inv s) (t : ByteArray) : Inv (add s t) := by
  unfold Hist.add
  split
  · next ht =>
    have h0 := h.b0
    have h1 := h.len
    have hb : s.bound ≠ 0 := by
      unfold takes at ht
      simp at ht
      exact ht.1.2
    refine ⟨h.b0, h.b1, ?_, by simp [withEnts], by simp [withEnts], by simp [withEnts], by simp [withEnts]⟩
    show (trim s.bound (s.ents ++ [t])).length ≤ s.bound.toNat
    unfold trim
    split
    · simp
      omega
    · next h2 => simp at h2 ⊢; omega
  · exact h.home
theorem At.setEnts {v' : Value} {xs : List ByteArray} (hb : Blk w b 53 #[.int .i64 s.bound, r.v, .int .i64 s.place, .map none]) (ho : Own w v' xs) (hn : s.notes = []) : At (w.setCell ⟨b, 1, none⟩ v') b ⟨v', none, []⟩ { s with ents := xs } :=
  ⟨hb.set_ 1 _, ho.keep fun k hk => Below.heap_setCell w ⟨b, 1, none⟩ v' k (fun e => own_blk_ne ho hb (by decide) (by rw [hk, e])), .inl ⟨rfl, hn⟩, fun g hg => by cases hg⟩
theorem nil_len (w : World) : Calls Tryd.prog 18 #[.pointer none] w fun e w' => e = .returned (.int .i64 0) ∧ w = w' := by
  go_enter Tryd.func18, Tryd.ntmps18
  go_wp2
  go_ret
  exact ⟨rfl, rfl⟩
theorem nil_bound (w : World) : Calls Tryd.prog 28 #[.pointer none] w fun e w' => e = .returned (.int .i64 0) ∧ w = w' := by
  go_enter Tryd.func28, Tryd.ntmps28
  go_wp2
  go_ret
  exact ⟨rfl, rfl⟩
theorem nil_place (w : World) : Calls Tryd.prog 14 #[.pointer none] w fun e w' => e = .returned (.int .i64 0) ∧ w = w' := by
  go_enter Tryd.func14, Tryd.ntmps14
  go_wp2
  go_ret
  exact ⟨rfl, rfl⟩
theorem nil_drafts (w : World) : Calls Tryd.prog 20 #[.pointer none] w fun e w' => e = .returned (.int .i64 0) ∧ w = w' := by
  go_enter Tryd.func20, Tryd.ntmps20
  go_wp2
  go_ret
  exact ⟨rfl, rfl⟩
theorem nil_entries (w : World) : Calls Tryd.prog 12 #[.pointer none] w fun e w' => e = .returned (.slice none 0 0) ∧ w = w' := by
  go_enter Tryd.func12, Tryd.ntmps12
  go_wp2
  go_ret
  exact ⟨rfl, rfl⟩
theorem nil_home (w : World) : Calls Tryd.prog 17 #[.pointer none] w fun e w' => e = .returned (.tuple #[]) ∧ w = w' := by
  go_enter Tryd.func17, Tryd.ntmps17
  go_wp2
  go_returns
  exact ⟨rfl, rfl⟩
theorem nil_add (w : World) (t : ByteArray) : Calls Tryd.prog 24 #[.pointer none, .string t] w fun e w' => e = .returned (.bool false) ∧ w = w' := by
  go_enter Tryd.func24, Tryd.ntmps24
  go_wp2
  go_ret
  exact ⟨rfl, rfl⟩
theorem nil_entry (w : World) (i : Int) : Calls Tryd.prog 21 #[.pointer none, .int .i64 i] w fun e w' => e = .returned (.tuple #[.string ⟨#[]⟩, .int .i64 1]) ∧ w = w' := by
  by_cases p0 : i < 0
  · go_enter Tryd.func21, Tryd.ntmps21
    go_wp2
    go_ret2
    exact ⟨rfl, rfl⟩
  · have p1 : 0 ≤ i := by omega
    go_enter Tryd.func21, Tryd.ntmps21
    go_wp2_with (go_at_call 18; refine (nil_len _).mono ?_; rintro e w' ⟨rfl, rfl⟩)
    go_ret2
    exact ⟨rfl, rfl⟩
theorem nil_back (w : World) (t : ByteArray) : Calls Tryd.prog 13 #[.pointer none, .string t] w fun e w' => e = .returned (.tuple #[.string ⟨#[]⟩, .int .i64 9]) ∧ w = w' := by
  go_enter Tryd.func13, Tryd.ntmps13
  go_wp2_with (go_at_call 14; refine (nil_place _).mono ?_; rintro e w' ⟨rfl, rfl⟩)
  go_ret2
  exact ⟨rfl, rfl⟩
theorem nil_forth (w : World) (t : ByteArray) : Calls Tryd.prog 15 #[.pointer none, .string t] w fun e w' => e = .returned (.tuple #[.string ⟨#[]⟩, .int .i64 9]) ∧ w = w' := by
  go_enter Tryd.func15, Tryd.ntmps15
  go_wp2_with (first
    | (go_at_call 14; refine (nil_place _).mono ?_; rintro e w' ⟨rfl, rfl⟩)
    | (go_at_call 18; refine (nil_len _).mono ?_; rintro e w' ⟨rfl, rfl⟩))
  go_ret2
  exact ⟨rfl, rfl⟩
theorem nil_go (w : World) (i : Int) (t : ByteArray) : Calls Tryd.prog 19 #[.pointer none, .int .i64 i, .string t] w fun e w' => e = .returned (.tuple #[.string ⟨#[]⟩, .int .i64 (if i = 0 then 0 else 1)]) ∧ Below w.heap.size w w' := by
  by_cases p0 : i < 0
  · have h1 : ¬ i = 0 := by omega
    rw [if_neg h1]
    go_enter Tryd.func19, Tryd.ntmps19
    go_wp2
    go_ret2
    exact ⟨rfl, (Below.refl _ _).alloc (Nat.le_refl _) _⟩
  · by_cases p1 : 0 < i
    · have h1 : ¬ i = 0 := by omega
      rw [if_neg h1]
      clear h1
      go_enter Tryd.func19, Tryd.ntmps19
      go_wp2_with (go_at_call 18; refine (nil_len _).mono ?_; rintro e w' ⟨rfl, rfl⟩)
      go_ret2
      exact ⟨rfl, (Below.refl _ _).alloc (Nat.le_refl _) _⟩
    · obtain rfl : i = 0 := by omega
      go_enter Tryd.func19, Tryd.ntmps19
      go_wp2_with (go_at_call 18; refine (nil_len _).mono ?_; rintro e w' ⟨rfl, rfl⟩)
      go_ret2
      exact ⟨rfl, (Below.refl _ _).alloc (Nat.le_refl _) _⟩
theorem takes_no_e {s : HS} {t : ByteArray} (h : t.toList.isEmpty = true) : takes s t = false := by simp [takes, h]
set_option maxHeartbeats 1600000 in
theorem add_empty (h : At w b r s) (t : ByteArray) (ht : t.toList.isEmpty = true) :
    Calls Tryd.prog 24 #[.pointer (some ⟨b, 0, none⟩), .string t] w fun e w' => e = .returned (.bool false) ∧ ∃ r', At w' b r' (homed s) ∧ Upd (foot b r) w w' ∧ Fr w b r r' := by
  have HH := Lib.hid (home_u h)
  clear h
  go_enter Tryd.func24, Tryd.ntmps24
  go_wp2_with (go_at_call 17; refine HH.out.mono ?_; rintro e w1 ⟨rfl, ha, hu, hf⟩; obtain ⟨c0, c1, c2, c3, cf⟩ := ha.cells; obtain ⟨A, c, hv, hl⟩ := ha.2.1.form; have HA := Lib.hid ha; have HU := Lib.hid hu; have HF := Lib.hid hf; clear ha hu hf; dsimp only at hv; rw [hv] at c1)
  go_ret
  exact ⟨rfl, _, HA.out, HU.out, HF.out⟩
set_option maxHeartbeats 1600000 in
theorem add_zero (h : At w b r s) (t : ByteArray) (ht : t.toList.isEmpty = false) (hb : (s.bound == 0) = true) :
    Calls Tryd.prog 24 #[.pointer (some ⟨b, 0, none⟩), .string t] w fun e w' => e = .returned (.bool false) ∧ ∃ r', At w' b r' (homed s) ∧ Upd (foot b r) w w' ∧ Fr w b r r' := by
  have HH := Lib.hid (home_u h)
  obtain ⟨A, c, hv, hl⟩ := h.2.1.form
  clear h
  go_enter Tryd.func24, Tryd.ntmps24
  go_wp2_with (go_at_call 17; refine HH.out.mono ?_; rintro e w1 ⟨rfl, ha, hu, hf⟩; obtain ⟨c0, c1, c2, c3, cf⟩ := ha.cells; simp only [homed] at c0 c1 c2 c3; rw [hv] at c1; have HA := Lib.hid ha; have HU := Lib.hid hu; have HF := Lib.hid hf; clear ha hu hf)
  go_ret
  exact ⟨rfl, _, HA.out, HU.out, HF.out⟩
set_option maxHeartbeats 1600000 in
theorem add_same (h : At w b r s) (t : ByteArray) (ht : t.toList.isEmpty = false) (hb : (s.bound == 0) = false) (h0 : 0 < s.ents.length) (hn : s.ents.length ≤ 1000) (hs : ((s.ents.getD (s.ents.length - 1) E).toList == t.toList) = true) :
    Calls Tryd.prog 24 #[.pointer (some ⟨b, 0, none⟩), .string t] w fun e w' => e = .returned (.bool false) ∧ ∃ r', At w' b r' (homed s) ∧ Upd (foot b r) w w' ∧ Fr w b r r' := by
  have HH := Lib.hid (home_u h)
  obtain ⟨g, c, hv, hl, hcell, _⟩ := h.2.1.some_ h0
  have hx := hcell (s.ents.length - 1) (by omega)
  have HC : Hid (∀ w1, At w1 b ⟨r.v, none, []⟩ (homed s) → w1.cell? ⟨g, s.ents.length - 1, none⟩ = some (.string (s.ents.getD (s.ents.length - 1) E))) := Lib.hid (fun w1 ha => by
    obtain ⟨g', c', hv', _, hcell', _⟩ := ha.2.1.some_ h0
    have e : r.v = _ := hv'
    rw [hv] at e
    injection e with e1 e2 e3
    injection e1 with e1
    injection e1 with e1
    subst e1
    exact hcell' _ (by show _ < s.ents.length; omega))
  generalize s.ents.getD (s.ents.length - 1) E = x at *
  clear h hcell
  have z1 : IntKind.i64.wrap ((s.ents.length : Int) - 1) = (s.ents.length : Int) - 1 := IntWalk.i64_in _ (by omega)
  have z2 : ((s.ents.length : Int) - 1).toNat = s.ents.length - 1 := by omega
  have z3 : 0 ≤ (s.ents.length : Int) - 1 := by omega
  have z4 : (s.ents.length : Int) - 1 < (s.ents.length : Int) := by omega
  have z5 : decide (0 < (s.ents.length : Int)) = true := by simp; omega
  go_enter Tryd.func24, Tryd.ntmps24
  go_wp2_with (go_at_call 17; refine HH.out.mono ?_; rintro e w1 ⟨rfl, ha, hu, hf⟩; obtain ⟨c0, c1, c2, c3, cf⟩ := ha.cells; simp only [homed] at c0 c1 c2 c3; rw [hv] at c1; have hx1 : w1.cell? ⟨g, s.ents.length - 1, none⟩ = some (.string x) := (HC.out w1 ha);  have HA := Lib.hid ha; have HU := Lib.hid hu; have HF := Lib.hid hf; clear ha hu hf)
  go_ret
  exact ⟨rfl, _, HA.out, HU.out, HF.out⟩
theorem reads_new (w : World) (t : ByteArray) : Reads (w.alloc (.cells #[.string t] 9)) (w.alloc (.cells #[.string t] 9)).heap.size 1 (some ⟨w.heap.size, 0, none⟩) 1 [.string t] :=
  Reads.of_own (base := w.heap.size) (e := 9) (c := 1) ⟨rfl, .inr ⟨_, 1, #[.string t], rfl, Nat.le_refl _, heap_alloc_new w _, Nat.le_refl _, by unfold maxLen; omega, rfl, rfl⟩⟩
theorem Own.ofAppend {w : World} {v : Value} {xs : List ByteArray} {t : ByteArray} {n : Nat} (h : w.ownsRow 0 9 1 v (n + 1) (xs.map Value.string ++ [.string t])) (hn : n = xs.length) : Own w v (xs ++ [t]) := by
  subst hn
  unfold Own
  simpa using h
theorem At.own_alloc {A : Option Addr} {c : Nat} {w1 : World} (ha : At w1 b ⟨r.v, none, []⟩ (homed s)) (hv : r.v = .slice A s.ents.length c) (o : Obj) : Own (w1.alloc o) (.slice A s.ents.length c) s.ents := by
  have hh := ha.2.1.upd ((Upd.refl No w1).alloc o) (fun _ _ h => h)
  rw [← hv]
  exact hh
/-- What an append to the entries leaves. -/
theorem At.appended {A : Option Addr} {c : Nat} {w1 w5 : World} {v5 : Value} {t : ByteArray} (ha : At w1 b ⟨r.v, none, []⟩ (homed s)) (hv : r.v = .slice A s.ents.length c)
    (ho : w5.ownsRow 0 9 1 v5 (s.ents.length + 1) (s.ents.map Value.string ++ [.string t])) (hg : (w1.alloc (.cells #[.string t] 9)).grownBy w5 (Value.slice A s.ents.length c).ownBlock)
    (hat : v5.ownBlock = (Value.slice A s.ents.length c).ownBlock ∨ v5.ownBlock = some (w1.alloc (.cells #[.string t] 9)).heap.size) :
    Own w5 v5 (s.ents ++ [t]) ∧ Blk w5 b 53 #[.int .i64 s.bound, r.v, .int .i64 s.ents.length, .map none] ∧ Upd (fun k => r.v.ownBlock = some k) w1 w5 ∧ ∀ k, v5.ownBlock = some k → r.v.ownBlock = some k ∨ w1.heap.size ≤ k := by
  rw [← hv] at hg hat
  have hu : Upd (fun k => r.v.ownBlock = some k) w1 w5 := ((Upd.refl _ w1).alloc (.cells #[.string t] 9)).then_ (Upd.grown (S := fun k => r.v.ownBlock = some k) hg (fun k e => e)) (fun k hk => .inl hk)
  refine ⟨Own.ofAppend ho rfl, ha.1.upd hu (fun e => ha.ne e), hu, fun k hk => ?_⟩
  rcases hat with e | e
  · exact .inl (by rw [← e]; exact hk)
  · rw [e] at hk
    injection hk with hk
    simp at hk
    exact .inr (by omega)
theorem At.drewN (h : At w b r s) (n : Nat) : At (w.drewN n) b r s := h
theorem own_drop {g n c : Nat} {xs : List ByteArray} (h : Own w (.slice (some ⟨g, 0, none⟩) n c) xs) (j : Nat) (hj : j < (xs.drop 1).length) : w.cell? ⟨g, 1 + j, none⟩ = some (.string ((xs.drop 1).getD j E)) := by
  rw [List.length_drop] at hj
  obtain ⟨g', c', hv, _, hcell, _⟩ := h.some_ (by omega)
  injection hv with e1 e2 e3
  injection e1 with e1
  injection e1 with e1
  subst e1
  rw [hcell (1 + j) (by omega), Nat.add_comm 1 j]
  simp [List.getD]
set_option maxHeartbeats 1600000 in
theorem add_take (h : At w b r s) (t : ByteArray) (ht : t.toList.isEmpty = false) (hb : (s.bound == 0) = false) (hb0 : 0 ≤ s.bound) (hb1 : s.bound ≤ 1000) (hn : s.ents.length ≤ 1000)
    (hd : s.ents.length = 0 ∨ (0 < s.ents.length ∧ ((s.ents.getD (s.ents.length - 1) E).toList == t.toList) = false)) :
    Calls Tryd.prog 24 #[.pointer (some ⟨b, 0, none⟩), .string t] w fun e w' => e = .returned (.bool true) ∧ ∃ r', At w' b r' (withEnts s (trim s.bound (s.ents ++ [t]))) ∧ Upd (foot b r) w w' ∧ Fr w b r r' := by
  have HH := Lib.hid (home_u h)
  obtain ⟨A, c, hv, hl⟩ := h.2.1.form
  obtain ⟨i0, hi0, hz0, hz1, hz2⟩ := info_parts info9
  have HV := Lib.hid hv
  have HN2 : Hid ((s.ents ++ [t]).length = s.ents.length + 1) := Lib.hid (by simp)
  have hcase : ((¬ 0 < s.ents.length) ∧ True) ∨ (0 < s.ents.length ∧ ∃ g x, A = some ⟨g, 0, none⟩ ∧ (x.toList == t.toList) = false ∧ IntKind.i64.wrap ((s.ents.length : Int) - 1) = (s.ents.length : Int) - 1 ∧ ((s.ents.length : Int) - 1).toNat = s.ents.length - 1 ∧ 0 ≤ (s.ents.length : Int) - 1 ∧ (s.ents.length : Int) - 1 < (s.ents.length : Int) ∧
      Hid (∀ w1, At w1 b ⟨r.v, none, []⟩ (homed s) → w1.cell? ⟨g, s.ents.length - 1, none⟩ = some (.string x))) := by
    rcases hd with h0 | ⟨h0, hx⟩
    · exact .inl ⟨by omega, trivial⟩
    · obtain ⟨g, c', hv2, _⟩ := h.2.1.some_ h0
      refine .inr ⟨h0, g, _, ?_, hx, IntWalk.i64_in _ (by omega), by omega, by omega, by omega, Lib.hid (fun w1 ha => ?_)⟩
      · rw [hv2] at hv
        injection hv with e1 e2 e3
        exact e1.symm
      · obtain ⟨g', c', hv', _, hcell', _⟩ := ha.2.1.some_ h0
        have e : r.v = _ := hv'
        rw [hv2] at e
        injection e with e1 e2 e3
        injection e1 with e1
        injection e1 with e1
        subst e1
        exact hcell' _ (by show _ < s.ents.length; omega)
  have hbb : 1 ≤ s.bound := by rw [beq_eq_false_iff_ne] at hb; omega
  clear h hd
  rcases hcase with ⟨z5, _⟩ | ⟨z5, g, x, rfl, hx, z1, z2, z3, z4, HC⟩
  all_goals
    by_cases hbn : s.bound < (s.ents.length : Int) + 1
    · have HT : Hid (trim s.bound (s.ents ++ [t]) = (s.ents ++ [t]).drop 1) := Lib.hid (by unfold trim; rw [if_pos (by rw [HN2.out]; simpa using hbn)])
      have hbd : decide (s.bound < (s.ents.length : Int) + 1) = true := by simp [hbn]
      have hpos : 0 < s.ents.length := by omega
      first
        | (exfalso; omega)
        | (go_enter Tryd.func24, Tryd.ntmps24
           go_wp2_with (first
             | (go_at_call 17; refine HH.out.mono ?_; rintro e w1 ⟨rfl, ha, hu, hf⟩; obtain ⟨c0, c1, c2, c3, cf⟩ := ha.cells; simp only [homed] at c0 c1 c2 c3; rw [hv] at c1; have HOa := Lib.hid (At.own_alloc ha HV.out (.cells #[.string t] 9)); have HRa := Lib.hid (reads_new w1 t); have hx1 := HC.out w1 ha; have HA := Lib.hid ha; have HU := Lib.hid hu; have HF := Lib.hid hf; clear ha hu hf)
             | (at_builtin; refine wpList_append_any _ rfl (.tmp 44) (.tmp 46) _ rfl 0 9 i0 _ 1 16 Tryd.underlying22 hi0 hz0 hz1 hz2 rfl (by omega) _ s.ents.length (s.ents.map Value.string) rfl HOa.out _ (some ⟨w1.heap.size, 0, none⟩) 1 1 [.string t] rfl HRa.out (by simp [Value.oneCell']) (by simp only [maxLen]; omega) (by omega) (Nat.zero_le _) ?_; intro v5 w5 hown1 hg1 hat1; obtain ⟨ho5, hB5, hu5, hf5⟩ := At.appended HA.out HV.out hown1 hg1 hat1; obtain ⟨g5, d5, hv5, hd5, hcell5, hfr5⟩ := ho5.some_ (by simp); rw [HN2.out] at hv5 hd5; subst hv5; have e0 := hB5.cell 0; have e1 := hB5.cell 1; have e2 := hB5.cell 2; have e3 := hB5.cell 3; have ef := hB5.frozen; simp only [List.getElem?_toArray, List.getElem?_cons_succ, List.getElem?_cons_zero] at e0 e1 e2 e3; have HO5 := Lib.hid ho5; have HB5 := Lib.hid hB5; have HU5 := Lib.hid hu5; have HF5 := Lib.hid hf5; clear ho5 hB5 hu5 hf5 hown1 hg1 hat1 hcell5))
           go_quiet (fail)
           have HAq := fun n => Lib.hid (At.drewN (At.setEnts (r := r) (s := homed s) HB5.out HO5.out rfl) n)
           have HL6 : Hid (((s.ents ++ [t]).drop 1).length = s.ents.length) := Lib.hid (by simp)
           go_wp2_with (first
             | (go_at_call 33; refine (clone1 g5 s.ents.length (d5 - 1) t ((s.ents ++ [t]).drop 1) _ HL6.out hpos (by omega) (fun j hj => own_drop (HAq _).out.2.1 j (by rw [HL6.out]; exact hj))).mono ?_; rintro e w6 ⟨v6, rfl, ho6, hf6, hb6⟩; obtain ⟨g6, d6, hv6, hd6, _, _⟩ := ho6.some_ (by rw [HL6.out]; exact hpos); rw [HL6.out] at hv6 hd6; subst hv6; have hB6 := (HAq _).out.1.upd (Upd.below hb6 No) (fun h => h); have e0 := hB6.cell 0; have e1 := hB6.cell 1; have e2 := hB6.cell 2; have e3 := hB6.cell 3; have ef := hB6.frozen; simp only [List.getElem?_toArray, List.getElem?_cons_succ, List.getElem?_cons_zero, homed] at e0 e1 e2 e3; have HO6 := Lib.hid ho6; have HB6 := Lib.hid hB6; have HW6 := Lib.hid hb6; have HF6 := Lib.hid hf6; clear ho6 hB6 hf6 hb6))
           go_ret
           have hA2 := At.setEnts (r := ⟨.slice (some ⟨g5, 0, none⟩) (s.ents.length + 1) d5, none, []⟩) (s := homed s) HB6.out HO6.out rfl
           have hS : withEnts s ((s.ents ++ [t]).drop 1) = { ({ homed s with ents := (s.ents ++ [t]).drop 1 } : HS) with place := (s.ents.length : Int) } := by unfold withEnts; rw [HL6.out]; rfl
           refine ⟨rfl, ⟨.slice (some ⟨g6, 0, none⟩) s.ents.length d6, none, []⟩, ?_, ?_, ?_⟩
           · rw [HT.out, hS]
             exact hA2.setPlace _
           · exact (((((HU.out.then_ HU5.out (fun k hk => .inl (.inr (.inl hk)))).setCell (p := ⟨b, 1, none⟩) (.inl (.inl rfl)) _).drewN _).then_ (Upd.below HW6.out No) (fun k hk => hk.elim)).setCell (p := ⟨b, 1, none⟩) (.inl (.inl rfl)) _).setCell (p := ⟨b, 2, none⟩) (.inl (.inl rfl)) _
           · rintro k (hk | hk | hk | hk)
             · exact .inl (.inl hk)
             · have e1 := HF6.out k hk
               have e2 := HU5.out.size
               have e3 := HU.out.size
               simp [World.setCell] at e1
               exact .inr (by omega)
             · cases hk
             · cases hk)
    · have HT : Hid (trim s.bound (s.ents ++ [t]) = s.ents ++ [t]) := Lib.hid (by unfold trim; rw [if_neg (by rw [HN2.out]; simpa using hbn)])
      have hbd : decide (s.bound < (s.ents.length : Int) + 1) = false := by simp; omega
      go_enter Tryd.func24, Tryd.ntmps24
      go_wp2_with (first
        | (go_at_call 17; refine HH.out.mono ?_; rintro e w1 ⟨rfl, ha, hu, hf⟩; obtain ⟨c0, c1, c2, c3, cf⟩ := ha.cells; simp only [homed] at c0 c1 c2 c3; rw [hv] at c1; have HOa := Lib.hid (At.own_alloc ha HV.out (.cells #[.string t] 9)); have HRa := Lib.hid (reads_new w1 t); (first | have hx1 := HC.out w1 ha | skip); have HA := Lib.hid ha; have HU := Lib.hid hu; have HF := Lib.hid hf; clear ha hu hf)
        | (at_builtin; refine wpList_append_any _ rfl (.tmp 44) (.tmp 46) _ rfl 0 9 i0 _ 1 16 Tryd.underlying22 hi0 hz0 hz1 hz2 rfl (by omega) _ s.ents.length (s.ents.map Value.string) rfl HOa.out _ (some ⟨w1.heap.size, 0, none⟩) 1 1 [.string t] rfl HRa.out (by simp [Value.oneCell']) (by simp only [maxLen]; omega) (by omega) (Nat.zero_le _) ?_; intro v5 w5 hown1 hg1 hat1; obtain ⟨ho5, hB5, hu5, hf5⟩ := At.appended HA.out HV.out hown1 hg1 hat1; obtain ⟨g5, d5, hv5, hd5, hcell5, hfr5⟩ := ho5.some_ (by simp); rw [HN2.out] at hv5 hd5; subst hv5; have e0 := hB5.cell 0; have e1 := hB5.cell 1; have e2 := hB5.cell 2; have e3 := hB5.cell 3; have ef := hB5.frozen; simp only [List.getElem?_toArray, List.getElem?_cons_succ, List.getElem?_cons_zero] at e0 e1 e2 e3; have HO5 := Lib.hid ho5; have HB5 := Lib.hid hB5; have HU5 := Lib.hid hu5; have HF5 := Lib.hid hf5; clear ho5 hB5 hu5 hf5 hown1 hg1 hat1 hcell5))
      go_quiet (fail)
      go_wp2
      go_ret
      have hA1 := (At.setEnts (r := r) (s := homed s) HB5.out HO5.out rfl)
      have hS : withEnts s (s.ents ++ [t]) = { ({ homed s with ents := s.ents ++ [t] } : HS) with place := (s.ents.length : Int) + 1 } := by simp [withEnts, homed]
      refine ⟨rfl, ⟨.slice (some ⟨g5, 0, none⟩) (s.ents.length + 1) d5, none, []⟩, ?_, ?_, ?_⟩
      · rw [HT.out, hS]
        exact (At.drewN hA1 _).setPlace _
      · exact (((HU.out.then_ HU5.out (fun k hk => .inl (.inr (.inl hk)))).setCell (p := ⟨b, 1, none⟩) (.inl (.inl rfl)) _).drewN _).setCell (p := ⟨b, 2, none⟩) (.inl (.inl rfl)) _
      · rintro k (hk | hk | hk | hk)
        · exact .inl (.inl hk)
        · rcases HF5.out k hk with e | e
          · exact .inl (.inr (.inl e))
          · exact .inr (Nat.le_trans HU.out.size e)
        · cases hk
        · cases hk
theorem add_ (h : At w b r s) (hi : Inv s) (t : ByteArray) :
    Calls Tryd.prog 24 #[.pointer (some ⟨b, 0, none⟩), .string t] w fun e w' => e = .returned (.bool (takes s t)) ∧ ∃ r', At w' b r' (add s t) ∧ Upd (foot b r) w w' ∧ Fr w b r r' := by
  have hb0 := hi.b0
  have hb1 := hi.b1
  have hl1 := hi.l1
  unfold add
  rcases (show t.toList.isEmpty = true ∨ t.toList.isEmpty = false by cases t.toList.isEmpty <;> simp) with ht | ht
  · have e : takes s t = false := by simp [takes, ht]
    rw [e, if_neg (by simp)]
    exact add_empty h t ht
  · by_cases hb : s.bound = 0
    · have e : takes s t = false := by simp [takes, hb]
      rw [e, if_neg (by simp)]
      exact add_zero h t ht (by simp [hb])
    · by_cases h0 : s.ents.length = 0
      · have e : takes s t = true := by unfold takes; rw [ht, h0]; simp [hb]
        rw [e, if_pos rfl]
        exact add_take h t ht (by simp [hb]) hb0 hb1 hl1 (.inl h0)
      · have h1 : 0 < s.ents.length := by omega
        cases hx : (s.ents.getD (s.ents.length - 1) E).toList == t.toList with
        | true =>
          have e : takes s t = false := by unfold takes; rw [hx, ht]; simp [h1]
          rw [e, if_neg (by simp)]
          exact add_same h t ht (by simp [hb]) h1 hl1 hx
        | false =>
          have e : takes s t = true := by unfold takes; rw [hx, ht]; simp [hb]
          rw [e, if_pos rfl]
          exact add_take h t ht (by simp [hb]) hb0 hb1 hl1 (.inr ⟨h1, hx⟩)
end
end Hist
end Go.Proofs.YtjghfdhahkokhaaDoor
