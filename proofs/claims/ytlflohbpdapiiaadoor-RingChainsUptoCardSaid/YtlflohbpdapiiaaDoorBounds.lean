/- The walk of RingBounds: the last ones are kept, no more than the bound. -/
import Derived.Test.YtlflohbpdapiiaaDoorNone
import Derived.Test.YtlflohbpdapiiaaDoorRounds
import Derived.IntWalk
set_option linter.unusedVariables false
namespace Go.Proofs.YtlflohbpdapiiaaDoor
open Go.RowKit Go.Proofs.YtlflohbpdapiiaaDoorW.PrintWords Go.Proofs.YtlflohbpdapiiaaDoor.Sep Go.Proofs.YtlflohbpdapiiaaDoor.Libs
open Go.Proofs.YtlflohbpdapiiaaDoor.Ring (RS foot joined)
namespace Both
structure BInv (n : Int) (al : List ByteArray) (s : RS) : Prop where
  bound : s.bound = min (max n 0) 1000
  ents : s.ents = al.reverse.take s.bound.toNat
  ne : ∀ t ∈ al, t.toList.isEmpty = false
def nxt (al : List ByteArray) (t : ByteArray) : List ByteArray := if t.toList.isEmpty = true then al else al ++ [t]
theorem take_take_cons {α : Type} (t : α) (l : List α) (b : Nat) : (t :: l.take b).take b = (t :: l).take b := by
  cases b with
  | zero => rfl
  | succ b => rw [List.take_succ_cons, List.take_succ_cons, List.take_take]; congr 2; omega
theorem BInv.add {n : Int} {al : List ByteArray} {s : RS} (h : BInv n al s) (t : ByteArray) (ht : ¬ t.toList.isEmpty = true) (st : Int) : BInv n (al ++ [t]) { s with ents := (t :: s.ents).take s.bound.toNat, state := st } :=
  ⟨h.bound, by simp only [h.ents, List.reverse_append, List.reverse_cons, List.reverse_nil, List.nil_append, List.singleton_append]; exact take_take_cons _ _ _, fun u hu => by
    rcases List.mem_append.1 hu with hu | hu
    · exact h.ne u hu
    · simp at hu; subst hu; simpa using ht⟩
theorem BInv.copy {n : Int} {al : List ByteArray} {s : RS} (h : BInv n al s) (t : ByteArray) : BInv n (nxt al t) (copy s t) := by
  unfold nxt Both.copy
  split
  · exact h
  · next ht => exact h.add t ht 0
theorem BInv.kill {n : Int} {al : List ByteArray} {s : RS} (h : BInv n al s) (t : ByteArray) : BInv n (nxt al t) (kill (stop s) t true) := by
  unfold nxt Both.kill
  split
  · exact ⟨h.bound, h.ents, h.ne⟩
  · next ht =>
    rw [if_neg (by simp [stop])]
    exact h.add t ht 1
theorem BInv.len {n : Int} {al : List ByteArray} {s : RS} (h : BInv n al s) : (s.ents.length : Int) = min (al.length : Int) s.bound := by
  have := h.bound
  rw [h.ents]
  simp
  omega
theorem BInv.len_ne {n : Int} {al : List ByteArray} {s : RS} (h : BInv n al s) : ((s.ents.length : Int) != min (al.length : Int) s.bound) = false := by rw [← h.len]; simp
theorem BInv.le {n : Int} {al : List ByteArray} {s : RS} (h : BInv n al s) : s.ents.length ≤ 1000 ∧ s.ents.length ≤ al.length := by
  have := h.len
  have := h.bound
  omega
theorem BInv.get {n : Int} {al : List ByteArray} {s : RS} (h : BInv n al s) {k : Nat} (hk : k < s.ents.length) : k < al.length ∧ al.getD (al.length - 1 - k) E = s.ents.getD k E ∧ (s.ents.getD k E).toList.isEmpty = false := by
  have hl := h.len
  have hk2 : k < al.length := by omega
  have e : s.ents.getD k E = al.getD (al.length - 1 - k) E := by
    have hb : k < s.bound.toNat := by omega
    rw [h.ents]
    simp only [List.getD]
    rw [List.getElem?_take_of_lt hb, List.getElem?_reverse hk2]
  refine ⟨hk2, e.symm, ?_⟩
  rw [e]
  apply h.ne
  have : al.length - 1 - k < al.length := by omega
  simp [List.getD, this]
theorem Own.ofAppend {w : World} {v : Value} {xs : List ByteArray} {t : ByteArray} {n : Nat} (h : w.ownsRow 0 9 1 v (n + 1) (xs.map Value.string ++ [.string t])) (hn : n = xs.length) : Own w v (xs ++ [t]) := by
  subst hn
  unfold Own
  simpa using h
theorem Out.step {w0 w w' : World} {b : Nat} {v v' l : Value} {xs : List ByteArray} (h : Out w0 w b v l xs) (hu : Upd (foot b v) w w') (hf : Fr w v v') : Out w0 w' b v' l xs :=
  ⟨h.own.upd hu h.far, h.new, fun k hk hx => (foot_fr hf k hx).elim (h.far k hk) (fun e => by have := h.own.lt k hk; omega)⟩
theorem Out.later {w0 w w' : World} {b : Nat} {v l : Value} {xs : List ByteArray} (h : Out w0 w b v l xs) (hb : Below w.heap.size w w') : Out w0 w' b v l xs := ⟨h.own.upd (Upd.below hb No) (fun _ _ h => h), h.new, h.far⟩
theorem copy_u {w0 w : World} {b : Nat} {v : Value} {s : RS} (t : ByteArray) (h : PB w0 w b v s) :
    Calls Tryd.prog 11 #[.pointer (some ⟨b, 0, none⟩), .string t] w fun e w' => e = .returned (.bool (kept s t)) ∧ ∃ v', PB w0 w' b v' (copy s t) ∧ Upd (foot b v) w w' ∧ Fr w v v' := by
  refine (copy_p w b v s t h.at_ h.inv).mono ?_
  rintro e w' ⟨rfl, v', ha, hu, hf⟩
  exact ⟨rfl, v', h.step ha hu hf (h.inv.copy t), hu, hf⟩
theorem kill_u {w0 w : World} {b : Nat} {v : Value} {s : RS} (t : ByteArray) (ah : Bool) (h : PB w0 w b v s) (hz : Fit s t) :
    Calls Tryd.prog 13 #[.pointer (some ⟨b, 0, none⟩), .string t, .bool ah] w fun e w' => e = .returned (.bool (kept s t)) ∧ ∃ v', PB w0 w' b v' (kill s t ah) ∧ Upd (foot b v) w w' ∧ Fr w v v' := by
  refine (kill_p w b v s t ah h.at_ h.inv hz).mono ?_
  rintro e w' ⟨rfl, v', ha, hu, hf⟩
  exact ⟨rfl, v', h.step ha hu hf (h.inv.kill t ah), hu, hf⟩
theorem stop_u {w0 w : World} {b : Nat} {v : Value} {s : RS} (h : PB w0 w b v s) : Calls Tryd.prog 16 #[.pointer (some ⟨b, 0, none⟩)] w fun e w' => e = .returned (.tuple #[]) ∧ PB w0 w' b v (stop s) ∧ Upd (foot b v) w w' := by
  refine (stop_p w b v s h.at_).mono ?_
  rintro e w' ⟨rfl, ha, hu⟩
  exact ⟨rfl, h.step ha hu (Fr.same _ _) h.inv.stop, hu⟩
/-- A row beside the ring has grown: the ring is as it was. -/
theorem PB.beside {w0 w w' : World} {b : Nat} {v : Value} {s : RS} {S : Nat → Prop} (h : PB w0 w b v s) (hu : Upd S w w') (hd : ∀ k, S k → w0.heap.size ≤ k ∧ ¬ foot b v k) : PB w0 w' b v s :=
  ⟨h.at_.upd hu (fun k hk hs => (hd k hs).2 hk), h.new, h.below.trans (hu.toBelow h.below.size (fun k hk => (hd k hk).1)), h.inv⟩
theorem Out.appended {w0 w w2 : World} {b : Nat} {v l l2 : Value} {xs : List ByteArray} {t : ByteArray} {s : RS} (hp : PB w0 w b v s) (h : Out w0 w b v l xs) (ho : w2.ownsRow 0 9 1 l2 (xs.length + 1) (xs.map Value.string ++ [.string t]))
    (hg : (w.alloc (.cells #[.string t] 9)).grownBy w2 l.ownBlock) (ha : l2.ownBlock = l.ownBlock ∨ l2.ownBlock = some (w.alloc (.cells #[.string t] 9)).heap.size) : PB w0 w2 b v s ∧ Out w0 w2 b v l2 (xs ++ [t]) := by
  have hu : Upd (fun k => l.ownBlock = some k) w w2 := ((Upd.refl _ w).alloc (.cells #[.string t] 9)).then_ (Upd.grown (S := fun k => l.ownBlock = some k) hg (fun k e => e)) (fun k hk => .inl hk)
  refine ⟨hp.beside hu (fun k hk => ⟨h.new k hk, h.far k hk⟩), Own.ofAppend ho rfl, fun k hk => ?_, fun k hk hx => ?_⟩
  · rcases ha with e | e
    · exact h.new k (by rw [← e]; exact hk)
    · rw [e] at hk
      injection hk with hk
      have := hp.below.size
      simp at hk
      omega
  · rcases ha with e | e
    · exact h.far k (by rw [← e]; exact hk) hx
    · rw [e] at hk
      injection hk with hk
      have := hp.at_.lt k hx
      simp at hk
      omega
theorem bools_at {W w : World} {A : Option Addr} {l : Nat} {ys : List Bool} (hr : Reads W W.heap.size 1 A l (ys.map Value.bool)) (hb : Below W.heap.size W w) {i : Nat} (hi : i < l) : ∃ ad, A = some ad ∧ w.cell? (ad.add i) = some (.bool (ys.getD i false)) := by
  obtain ⟨ad, u, rfl, hlt, hu, hc⟩ := hr.at_ hi
  have hl : i < ys.length := by simpa using (List.getElem?_eq_some_iff.1 hu).1
  refine ⟨ad, rfl, ?_⟩
  rw [World.cell?_of_block (hb.block _ (by rw [block_of_add]; exact hlt)), hc]
  simp [hl] at hu
  subst hu
  simp [List.getD, hl]
theorem reads_new (w : World) (t : ByteArray) : Reads (w.alloc (.cells #[.string t] 9)) (w.alloc (.cells #[.string t] 9)).heap.size 1 (some ⟨w.heap.size, 0, none⟩) 1 [.string t] :=
  Reads.of_own (base := w.heap.size) (e := 9) (c := 1) ⟨rfl, .inr ⟨_, 1, #[.string t], rfl, Nat.le_refl _, heap_alloc_new w _, Nat.le_refl _, by unfold maxLen; omega, rfl, rfl⟩⟩
theorem Own.at_ {w : World} {B : Option Addr} {n c : Nat} {xs : List ByteArray} (h : Own w (.slice B n c) xs) {k : Nat} (hk : k < xs.length) : ∃ g, B = some ⟨g, 0, none⟩ ∧ w.cell? ⟨g, k, none⟩ = some (.string (xs.getD k E)) ∧ n = xs.length := by
  obtain ⟨g, c', he, _, hc, _⟩ := h.some_ (by omega)
  injection he with h1 h2 h3
  exact ⟨g, h1, hc k hk, h2⟩
/-- The state after one more text. -/
def bnext (s : RS) (t : ByteArray) (cb : Bool) : RS := match cb with | true => copy s t | false => kill (stop s) t true
theorem BInv.next {n : Int} {al : List ByteArray} {s : RS} (h : BInv n al s) (t : ByteArray) (cb : Bool) : BInv n (nxt al t) (bnext s t cb) := by
  cases cb
  · exact h.kill t
  · exact h.copy t
set_option maxHeartbeats 6400000 in
set_option maxRecDepth 100000 in
theorem bounds (W : World) (n : Int) (A : Option Addr) (l c : Nat) (xs : List ByteArray) (hr : Reads W W.heap.size 1 A l (xs.map Value.string)) (hlc : l ≤ c) (hl : l * 16 ≤ 140737488351232)
    (A2 : Option Addr) (l2 c2 : Nat) (ys : List Bool) (hr2 : Reads W W.heap.size 1 A2 l2 (ys.map Value.bool)) (hlc2 : l2 ≤ c2) :
    Calls Tryd.prog 5 #[.int .i64 n, .slice A l c, .slice A2 l2 c2] W fun e W' => e = .returned (.bool true) ∧ Below W.heap.size W W' := by
  obtain ⟨i0, hi0, hz0, hz1, hz2⟩ := info_parts Ref.info9
  have HR := Lib.hid hr
  have HR2 := Lib.hid hr2
  have HX : Hid (xs.length = l) := Lib.hid (by simpa using hr.1)
  clear hr hr2
  go_enter Tryd.func5, Tryd.ntmps5
  go_wp2_with (first
    | (go_at_call 9; refine (kills W).mono ?_; rintro e w1 ⟨rfl, hb⟩; have HW := Lib.hid hb; clear hb)
    | (go_at_call 10; refine (new_b W _ n HW.out).mono ?_; rintro e w2 ⟨b, rfl, hp0⟩; have HP0 := Lib.hid hp0; clear hp0 HW))
  have HB0 : Hid (BInv n [] (start n)) := Lib.hid ⟨rfl, by simp [start], by simp⟩
  have HO0 : Hid (Own w2 (.slice none 0 0) []) := Lib.hid (Own.nil _)
  go_loopg [19, 8] l (fun k v19 v8 w' => ∃ i : Nat, v19 = .int .i64 i ∧ i + k = l ∧ ∃ al B d, v8 = .slice B al.length d ∧ al.length ≤ i ∧ ∃ v s, Hid (PB W w' b v s) ∧ Hid (BInv n al s) ∧ Hid (Out W w' b v (.slice B al.length d) al))
  case atStart => exact ⟨0, rfl, by omega, [], none, 0, rfl, by simp, _, _, HP0, HB0, Lib.hid ⟨HO0.out, fun k hk => by simp [Value.ownBlock] at hk, fun k hk => by simp [Value.ownBlock] at hk⟩⟩
  case round =>
    clear HP0 HB0 HO0
    obtain ⟨i, rfl, hik, al, B, d, rfl, hal, v, s, HP, HB, HO⟩ := hrel
    cases gk with
    | zero =>
      have e1 : decide ((i : Int) < (l : Int)) = false := by simp; omega
      have hbd : s.bound = min (max n 0) 1000 := HB.out.bound
      have hbb : (s.bound == min (max n 0) 1000) = true := by rw [hbd]; simp
      go_wp2_with (first
        | (go_at_call 19; refine (bound_p _ _ _ _ HP.out.at_).mono ?_; rintro e w3 ⟨rfl, rfl⟩))
      go_ret
      exact ⟨by simp, HP.out.below⟩
    | succ k1 =>
      have hi : i < l := by omega
      have e1 : decide ((i : Int) < (l : Int)) = true := by simp [hi]
      obtain ⟨ad, rfl, hcell, hi2⟩ := reads_at HR.out HP.out.below hi
      generalize xs.getD i E = t at *
      have hcb : ∃ cb : Bool, (cb = true ∧ (i < l2 ∧ ∃ ad2, A2 = some ad2 ∧ wr.cell? (ad2.add i) = some (.bool true))) ∨ (cb = false ∧ ((i < l2 ∧ ∃ ad2, A2 = some ad2 ∧ wr.cell? (ad2.add i) = some (.bool false)) ∨ ¬ i < l2)) := by
        by_cases h2 : i < l2
        · obtain ⟨ad2, e2, h3⟩ := bools_at HR2.out HP.out.below h2
          cases hy : ys.getD i false
          · exact ⟨false, .inr ⟨rfl, .inl ⟨h2, ad2, e2, by rw [h3, hy]⟩⟩⟩
          · exact ⟨true, .inl ⟨rfl, h2, ad2, e2, by rw [h3, hy]⟩⟩
        · exact ⟨false, .inr ⟨rfl, .inr h2⟩⟩
      obtain ⟨cb, hcb⟩ := hcb
      have HB2' := HB.out.next t cb
      obtain ⟨s2, hs2⟩ : ∃ s2, s2 = bnext s t cb := ⟨_, rfl⟩
      rw [← hs2] at HB2'
      have HB2 := Lib.hid HB2'
      have HS2 := Lib.hid hs2
      clear HB2' hs2
      have hte : t.toList.isEmpty = true ∨ t.toList.isEmpty = false := by cases t.toList.isEmpty <;> simp
      rcases hte with hte | hte
      · have hn : nxt al t = al := if_pos hte
        rw [hn] at HB2
        clear hn
        rcases hcb with ⟨rfl, h2, ad2, rfl, h3⟩ | ⟨rfl, ⟨h2, ad2, rfl, h3⟩ | h2⟩
        all_goals
          go_wp2_with (first
            | (go_at_call 11; refine (copy_u t HP.out).mono ?_; rintro e w3 ⟨rfl, v1, hp, hu, hf⟩; have HP1 : Hid (PB W w3 b v1 s2) := Lib.hid (by rw [HS2.out]; exact hp); have HO1 := Lib.hid (HO.out.step hu hf); clear hp hu hf)
            | (go_at_call 16; refine (stop_u HP.out).mono ?_; rintro e w3 ⟨rfl, hp, hu⟩; have HPs := Lib.hid hp; have HOs := Lib.hid (HO.out.step hu (Fr.same _ _)); clear hp hu)
            | (go_at_call 13; refine (kill_u t true HPs.out (fun h => by simp [stop] at h)).mono ?_; rintro e w4 ⟨rfl, v1, hp, hu, hf⟩; have HP1 : Hid (PB W w4 b v1 s2) := Lib.hid (by rw [HS2.out]; exact hp); have HO1 := Lib.hid (HOs.out.step hu hf); clear hp hu hf)
            | (go_at_call 12; refine (all_b HP1.out).mono ?_; rintro e w6 ⟨l0, rfl, ho, hp, hb⟩; obtain ⟨B0, d0, rfl, hl0⟩ := ho.own.form; have HL := Lib.hid ho; have HP3 := Lib.hid hp; have HO3 := Lib.hid (HO1.out.later hb); have hm := HB2.out.len_ne; have hle := HB2.out.le; clear ho hp hb)
            | (go_at_call 19; refine (bound_p _ _ _ _ HP3.out.at_).mono ?_; rintro e w7 ⟨rfl, rfl⟩))
          obtain ⟨hle1, hle2⟩ := hle
          go_loopg [60] s2.ents.length (fun m v60 w' => ∃ k : Nat, v60 = .int .i64 k ∧ k + m = s2.ents.length ∧ Drawn0 w6 w')
          case atStart => exact ⟨0, rfl, by omega, Drawn0.refl _⟩
          case round =>
            obtain ⟨k, rfl, hkm, ⟨q, rfl⟩⟩ := hrel
            cases gk with
            | zero =>
              have f1 : decide ((k : Int) < (s2.ents.length : Int)) = false := by simp; omega
              go_wp2
              go_roundg k1
              case measure => omega
              case rel => exact ⟨i + 1, by simp, by omega, al, _, _, rfl, by omega, _, _, Lib.hid (HP3.out.later (Drawn0.below ⟨⟨q, rfl⟩⟩)), HB2, Lib.hid (HO3.out.later (Drawn0.below ⟨⟨q, rfl⟩⟩))⟩
            | succ m1 =>
              have hk : k < s2.ents.length := by omega
              have f1 : decide ((k : Int) < (s2.ents.length : Int)) = true := by simp [hk]
              obtain ⟨hka, hget, hne⟩ := HB2.out.get hk
              obtain ⟨g1, e1', x1, _⟩ := Own.at_ HL.out.own hk
              obtain ⟨g2, e2', x2, _⟩ := Own.at_ HO3.out.own (k := al.length - 1 - k) (by omega)
              rw [hget] at x2
              subst e1'; subst e2'
              clear hget
              generalize s2.ents.getD k E = y at *
              have z1 : (al.length : Int) - 1 - k = ((al.length - 1 - k : Nat) : Int) := by omega
              have z2 : ((al.length : Int) - 1 - k).toNat = al.length - 1 - k := by omega
              have z3 : IntKind.i64.wrap ((al.length : Int) - 1) = (al.length : Int) - 1 := IntWalk.i64_in _ (by omega)
              have z4 : IntKind.i64.wrap ((al.length : Int) - 1 - k) = (al.length : Int) - 1 - k := IntWalk.i64_in _ (by omega)
              have z5 : 0 ≤ (al.length : Int) - 1 - k := by omega
              have z6 : (al.length : Int) - 1 - k < (al.length : Int) := by omega
              clear z1
              go_wp2
              trace_state
              go_quiet (fail)
              go_wp2
              go_roundg m1
              case measure => omega
              case rel => exact ⟨k + 1, by simp, by omega, by repeat (first | exact Drawn0.refl _ | apply Drawn0.step)⟩
      · have hn : nxt al t = al ++ [t] := if_neg (by simp [hte])
        rw [hn] at HB2
        clear hn
        obtain ⟨al2, hal2⟩ : ∃ al2, al2 = al ++ [t] := ⟨_, rfl⟩
        rw [← hal2] at HB2
        have HA2 := Lib.hid hal2
        have hl2' : al2.length ≤ 10000000000000 := by rw [hal2]; simp; omega
        clear hal2
        rcases hcb with ⟨rfl, h2, ad2, rfl, h3⟩ | ⟨rfl, ⟨h2, ad2, rfl, h3⟩ | h2⟩
        all_goals
          go_wp2_with (first
            | (go_at_call 11; refine (copy_u t HP.out).mono ?_; rintro e w4 ⟨rfl, v1, hp, hu, hf⟩; have HP1 : Hid (PB W w4 b v1 s2) := Lib.hid (by rw [HS2.out]; exact hp); have HO1 := Lib.hid (HO.out.step hu hf); have HOa : Hid (Own (w4.alloc (.cells #[.string t] 9)) (.slice B al.length d) al) := Lib.hid (HO1.out.own.upd ((Upd.refl No w4).alloc _) (fun _ _ h => h)); have HRa := Lib.hid (reads_new w4 t); clear hp hu hf)
            | (go_at_call 16; refine (stop_u HP.out).mono ?_; rintro e w3 ⟨rfl, hp, hu⟩; have HPs := Lib.hid hp; have HOs := Lib.hid (HO.out.step hu (Fr.same _ _)); clear hp hu)
            | (go_at_call 13; refine (kill_u t true HPs.out (fun h => by simp [stop] at h)).mono ?_; rintro e w4 ⟨rfl, v1, hp, hu, hf⟩; have HP1 : Hid (PB W w4 b v1 s2) := Lib.hid (by rw [HS2.out]; exact hp); have HO1 := Lib.hid (HOs.out.step hu hf); have HOa : Hid (Own (w4.alloc (.cells #[.string t] 9)) (.slice B al.length d) al) := Lib.hid (HO1.out.own.upd ((Upd.refl No w4).alloc _) (fun _ _ h => h)); have HRa := Lib.hid (reads_new w4 t); clear hp hu hf)
            | (at_builtin; refine wpList_append_any _ rfl (.tmp 44) (.tmp 46) _ rfl 0 9 i0 _ 1 16 Tryd.underlying22 hi0 hz0 hz1 hz2 rfl (by omega) (.slice B al.length d) al.length (al.map Value.string) rfl HOa.out _ (some ⟨w4.heap.size, 0, none⟩) 1 1 [.string t] rfl HRa.out (by simp [Value.oneCell']) (by simp only [maxLen]; omega) (by omega) (Nat.zero_le _) ?_; intro v5 w5 hown1 hg1 hat1; obtain ⟨hp5, ho5⟩ := Out.appended HP1.out HO1.out hown1 hg1 hat1; rw [← HA2.out] at ho5; obtain ⟨B5, d5, rfl, _⟩ := ho5.own.form; have HP5 := Lib.hid hp5; have HO5 := Lib.hid ho5; clear hown1 hg1 hat1 hp5 ho5)
            | (go_at_call 12; refine (all_b HP5.out).mono ?_; rintro e w6 ⟨l0, rfl, ho, hp, hb⟩; obtain ⟨B0, d0, rfl, hl0⟩ := ho.own.form; have HL := Lib.hid ho; have HP3 := Lib.hid hp; have HO3 := Lib.hid (HO5.out.later hb); have hm := HB2.out.len_ne; have hle := HB2.out.le; clear ho hp hb)
            | (go_at_call 19; refine (bound_p _ _ _ _ HP3.out.at_).mono ?_; rintro e w7 ⟨rfl, rfl⟩))
          obtain ⟨hle1, hle2⟩ := hle
          go_loopg [60] s2.ents.length (fun m v60 w' => ∃ k : Nat, v60 = .int .i64 k ∧ k + m = s2.ents.length ∧ Drawn0 w6 w')
          case atStart => exact ⟨0, rfl, by omega, Drawn0.refl _⟩
          case round =>
            obtain ⟨k, rfl, hkm, ⟨q, rfl⟩⟩ := hrel
            cases gk with
            | zero =>
              have f1 : decide ((k : Int) < (s2.ents.length : Int)) = false := by simp; omega
              go_wp2
              go_roundg k1
              case measure => omega
              case rel => exact ⟨i + 1, by simp, by omega, al2, _, _, rfl, by rw [HA2.out]; simp; omega, _, _, Lib.hid (HP3.out.later (Drawn0.below ⟨⟨q, rfl⟩⟩)), HB2, Lib.hid (HO3.out.later (Drawn0.below ⟨⟨q, rfl⟩⟩))⟩
            | succ m1 =>
              have hk : k < s2.ents.length := by omega
              have f1 : decide ((k : Int) < (s2.ents.length : Int)) = true := by simp [hk]
              obtain ⟨hka, hget, hne⟩ := HB2.out.get hk
              obtain ⟨g1, e1', x1, _⟩ := Own.at_ HL.out.own hk
              obtain ⟨g2, e2', x2, _⟩ := Own.at_ HO3.out.own (k := al2.length - 1 - k) (by omega)
              rw [hget] at x2
              subst e1'; subst e2'
              clear hget
              generalize s2.ents.getD k E = y at *
              have z1 : (al2.length : Int) - 1 - k = ((al2.length - 1 - k : Nat) : Int) := by omega
              have z2 : ((al2.length : Int) - 1 - k).toNat = al2.length - 1 - k := by omega
              have z3 : IntKind.i64.wrap ((al2.length : Int) - 1) = (al2.length : Int) - 1 := IntWalk.i64_in _ (by omega)
              have z4 : IntKind.i64.wrap ((al2.length : Int) - 1 - k) = (al2.length : Int) - 1 - k := IntWalk.i64_in _ (by omega)
              have z5 : 0 ≤ (al2.length : Int) - 1 - k := by omega
              have z6 : (al2.length : Int) - 1 - k < (al2.length : Int) := by omega
              clear z1
              go_wp2
              trace_state
              go_quiet (fail)
              go_wp2
              go_roundg m1
              case measure => omega
              case rel => exact ⟨k + 1, by simp, by omega, by repeat (first | exact Drawn0.refl _ | apply Drawn0.step)⟩
theorem bounds_row (W : World) (n : Int) (wn : (Lit.int .i64 n).wf = true) (A : Option Addr) (l c : Nat) (xs : List ByteArray) (hr : Reads W W.heap.size 1 A l (xs.map Value.string)) (hlc : l ≤ c) (hm : ∀ u ∈ xs, u.size ≤ maxLen) (y : l * 16 ≤ reachBytes)
    (A2 : Option Addr) (l2 c2 : Nat) (ys : List Bool) (hr2 : Reads W W.heap.size 1 A2 l2 (ys.map Value.bool)) (hlc2 : l2 ≤ c2) :
    Calls Tryd.prog 5 #[.int .i64 n, .slice A l c, .slice A2 l2 c2] W fun e W' => e = .returned (.bool true) ∧ Below W.heap.size W W' :=
  bounds W n A l c xs hr hlc (by have : reachBytes = 140737488351232 := by rfl
                                 omega) A2 l2 c2 ys hr2 hlc2
end Both
end Go.Proofs.YtlflohbpdapiiaaDoor
