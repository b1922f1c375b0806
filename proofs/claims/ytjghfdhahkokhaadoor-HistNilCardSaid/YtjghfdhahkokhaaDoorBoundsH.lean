/- The walk of HistBounds: the entries are the last of the lines that were taken. -/
import Derived.Test.YtjghfdhahkokhaaDoorOwnO
set_option linter.unusedVariables false
namespace Go.Proofs.YtjghfdhahkokhaaDoor
open Go.RowKit Go.Proofs.YtjghfdhahkokhaaDoorW.PrintWords Go.Proofs.YtjghfdhahkokhaaDoor.Sep Go.Proofs.YtjghfdhahkokhaaDoor.Libs
namespace Hist
theorem wpList_append_o {ops : Array Oper} {rest : List Oper} {o : Oper} {a : Act} {Q : Exit → Act → World → Prop} {w : World} {v : Value} {xs : List ByteArray} (hgd : o.guard = none) (s x : Operand)
    (ho : o.op = .call { callee := .builtin .append, args := #[s, x], argTypes := #[22, 22] }) (hty : o.type = 22) (h : OwnO w v xs) (t : ByteArray) (hn : xs.length ≤ 100000) (hs : a.eval s = v) (hx : a.eval x = .slice (some ⟨w.heap.size, 0, none⟩) 1 1)
    (hK : ∀ v' w', OwnO w' v' (xs ++ [t]) → Upd (fun k => v.ownBlock = some k) w w' → (v'.ownBlock = v.ownBlock ∨ ∀ k, v'.ownBlock = some k → w.heap.size ≤ k) → wpList Tryd.prog ops Q rest (a.put o.dst v') w') :
    wpList Tryd.prog ops Q (o :: rest) a (w.alloc (.cells #[.string t] 9)) := by
  refine wpList_plain hgd fun K hK' => ?_
  obtain ⟨v', w', hr, h2, h3, h4⟩ := h.append1 t hn
  unfold Oper.wp execOp
  simp only [ho, hty, resolve, invoke, builtin, Sem.run_bind, Sem.run_pure, Result.andThen_ok, List.map_toArray, List.map_cons, List.map_nil, hs, hx, hr]
  exact hK' _ _ (hK v' w' h2 h3 h4)
structure OutO (w0 w : World) (b : Nat) (r : Pr) (l : Value) (xs : List ByteArray) : Prop where
  own : OwnO w l xs
  new : ∀ k, l.ownBlock = some k → w0.heap.size ≤ k
  far : ∀ k, l.ownBlock = some k → ¬ foot b r k
section
variable {w0 w w' : World} {b : Nat} {r r' : Pr} {s s' : HS} {l : Value} {xs : List ByteArray}
theorem OutO.step (h : OutO w0 w b r l xs) (hu : Upd (foot b r) w w') (hf : Fr w b r r') : OutO w0 w' b r' l xs :=
  ⟨h.own.upd hu h.far, h.new, fun k hk hx => (hf k hx).elim (h.far k hk) (fun e => by have := h.own.lt k hk; omega)⟩
theorem OutO.later (h : OutO w0 w b r l xs) (hb : Below w.heap.size w w') : OutO w0 w' b r l xs := ⟨h.own.upd (Upd.below hb No) (fun _ _ h => h), h.new, h.far⟩
theorem OutO.nil (w0 w : World) (b : Nat) (r : Pr) : OutO w0 w b r (.slice none 0 0) [] := ⟨OwnO.nil w, fun k hk => by simp [Value.ownBlock] at hk, fun k hk => by simp [Value.ownBlock] at hk⟩
theorem OutO.appended {v5 : Value} {w5 : World} {ys : List ByteArray} (hp : HB w0 w b r s) (h : OutO w0 w b r l xs) (h5 : OwnO w5 v5 ys) (hu : Upd (fun k => l.ownBlock = some k) w w5) (hn : v5.ownBlock = l.ownBlock ∨ ∀ k, v5.ownBlock = some k → w.heap.size ≤ k) :
    HB w0 w5 b r s ∧ OutO w0 w5 b r v5 ys := by
  refine ⟨hp.beside hu (fun k hk => ⟨h.new k hk, h.far k hk⟩), h5, fun k hk => ?_, fun k hk hx => ?_⟩
  · rcases hn with e | e
    · exact h.new k (by rw [← e]; exact hk)
    · exact Nat.le_trans hp.below.size (e k hk)
  · rcases hn with e | e
    · exact h.far k (by rw [← e]; exact hk) hx
    · have := e k hk
      have := hp.at_.lt k hx
      omega
theorem OutO.tail {g off n c : Nat} (h : OutO w0 w b r (.slice (some ⟨g, off, none⟩) n c) xs) (h2 : 2 ≤ xs.length) : OutO w0 w b r (.slice (some ⟨g, off + 1, none⟩) (n - 1) (c - 1)) (xs.drop 1) :=
  ⟨h.own.tail h2, fun k hk => h.new k (by simpa [Value.ownBlock] using hk), fun k hk => h.far k (by simpa [Value.ownBlock] using hk)⟩
end
theorem HB.drewN {w0 w : World} {b : Nat} {r : Pr} {s : HS} (h : HB w0 w b r s) (n : Nat) : HB w0 (w.drewN n) b r s := ⟨h.at_, h.new, ⟨h.below.os, h.below.tape, h.below.output, h.below.size, h.below.block⟩, h.inv⟩
theorem OutO.drewN {w0 w : World} {b : Nat} {r : Pr} {l : Value} {xs : List ByteArray} (h : OutO w0 w b r l xs) (n : Nat) : OutO w0 (w.drewN n) b r l xs := ⟨h.own, h.new, h.far⟩
structure BI (mb : Int) (al : List ByteArray) (s : HS) : Prop where
  ents : s.ents = al
  bound : s.bound = mb
  still : Still s
theorem BI.refuse {mb : Int} {al : List ByteArray} {s : HS} (h : BI mb al s) {t : ByteArray} (ht : takes s t = false) : ∃ s2, add s t = s2 ∧ BI mb al s2 := ⟨_, rfl, by
  have e : add s t = homed s := by unfold add; rw [if_neg (by simp [ht])]
  rw [e]
  exact ⟨h.ents, h.bound, ⟨rfl, rfl⟩⟩⟩
theorem BI.take {mb : Int} {al : List ByteArray} {s : HS} (h : BI mb al s) {t : ByteArray} (ht : takes s t = true) : ∃ s2, add s t = s2 ∧ BI mb (trim mb (al ++ [t])) s2 := ⟨_, rfl, by
  have e : add s t = withEnts s (trim s.bound (s.ents ++ [t])) := by unfold add; rw [if_pos ht]
  rw [e, h.bound, h.ents]
  exact ⟨rfl, h.bound, ⟨rfl, rfl⟩⟩⟩
set_option maxHeartbeats 6400000 in
set_option maxRecDepth 100000 in
theorem bounds (W : World) (n : Int) (A : Option Addr) (l c : Nat) (xs : List ByteArray) (hr : Reads W W.heap.size 1 A l (xs.map Value.string)) (hlc : l ≤ c) (hl : l ≤ 10000000000000) :
    Calls Tryd.prog 6 #[.int .i64 n, .slice A l c] W fun e W' => e = .returned (.bool true) ∧ Below W.heap.size W W' := by
  have HR := Lib.hid hr
  clear hr
  go_enter Tryd.func6, Tryd.ntmps6
  go_wp2_with (first
    | (go_at_call 10; refine (awake W).mono ?_; rintro e w1 ⟨rfl, hb⟩; have HW := Lib.hid hb; clear hb)
    | (go_at_call 22; refine (new_h (w0 := W) n HW.out).mono ?_; rintro e w2 ⟨b, rfl, hp, hb2, hk2⟩; have HP0 := Lib.hid hp; clear hp hb2 hk2))
  have HB0 : Hid (BI (min (max n 0) 1000) [] (start n)) := Lib.hid ⟨rfl, rfl, ⟨rfl, rfl⟩⟩
  have HO0 : Hid (OutO W w2 b r0 (.slice none 0 0) []) := Lib.hid (OutO.nil _ _ _ _)
  have hm0 : 0 ≤ min (max n 0) 1000 := by omega
  have hm1 : min (max n 0) 1000 ≤ 1000 := by omega
  generalize min (max n 0) 1000 = mb at *
  generalize start n = s00 at *
  go_loopg [8, 7] l (fun k v8 v7 w' => ∃ i : Nat, v8 = .int .i64 i ∧ i + k = l ∧ ∃ al B d s r, v7 = .slice B al.length d ∧ Hid (HB W w' b r s) ∧ Hid (BI mb al s) ∧ Hid (OutO W w' b r (.slice B al.length d) al))
  case atStart => exact ⟨0, rfl, by omega, [], _, _, _, _, rfl, HP0, HB0, HO0⟩
  case round =>
    clear HP0 HB0 HO0
    obtain ⟨i, rfl, hik, al, B, d, s, r, rfl, HP, HI, HO⟩ := hrel
    rename World => wz
    cases gk with
    | zero =>
      have e1 : decide ((i : Int) < (l : Int)) = false := by simp; omega
      go_wp2_with (first
        | (go_at_call 28; refine (bound_h HP.out mb HI.out.bound).mono ?_; rintro e w3 ⟨rfl, rfl⟩))
      go_ret
      exact ⟨by simp, HP.out.below⟩
    | succ k1 =>
      have hi : i < l := by omega
      have e1 : decide ((i : Int) < (l : Int)) = true := by simp [hi]
      obtain ⟨ad, rfl, hcell, hi2⟩ := reads_at HR.out HP.out.below hi
      have HCL : Hid (∀ w', Below W.heap.size W w' → w'.cell? (ad.add i) = some (.string (xs.getD i E))) := Lib.hid (fun w' hb => by
        obtain ⟨ad', e, h, _⟩ := reads_at HR.out hb hi
        injection e with e
        subst e
        exact h)
      have hall : al.length ≤ 1000 ∧ (al.length : Int) ≤ mb := by
        have h1 := HP.out.inv.len
        have h2 := HI.out.ents
        have h3 := HI.out.bound
        rw [h2, h3] at h1
        omega
      obtain ⟨hal, halm⟩ := hall
      generalize xs.getD i E = t at *
      have hte : t.toList.isEmpty = true ∨ t.toList.isEmpty = false := by cases t.toList.isEmpty <;> simp
      have hcase : (takes s t = false ∧ (t.toList.isEmpty = true ∨ (t.toList.isEmpty = false ∧ decide (0 < mb) = false) ∨ (t.toList.isEmpty = false ∧ decide (0 < mb) = true ∧ ¬ al.length = 0 ∧ ∃ x, al.getD (al.length - 1) E = x ∧ x.toList = t.toList)) ∨
          (takes s t = true ∧ t.toList.isEmpty = false ∧ decide (0 < mb) = true ∧ (al.length = 0 ∨ (¬ al.length = 0 ∧ ∃ x, al.getD (al.length - 1) E = x ∧ ¬ x.toList = t.toList)))) := by
        have hE := HI.out.ents
        have hB := HI.out.bound
        unfold takes
        rw [hE, hB]
        rcases hte with hte | hte
        · exact .inl ⟨by simp [hte], .inl hte⟩
        · by_cases hb : mb = 0
          · exact .inl ⟨by simp [hb], .inr (.inl ⟨hte, by simp [hb]⟩)⟩
          · have hb1 : decide (0 < mb) = true := by simp; omega
            by_cases h0 : al.length = 0
            · exact .inr ⟨by rw [hte, h0]; simp [hb], hte, hb1, .inl h0⟩
            · by_cases hx : (al.getD (al.length - 1) E).toList = t.toList
              · exact .inl ⟨by rw [hte, hx]; simp [hb]; omega, .inr (.inr ⟨hte, hb1, h0, _, rfl, hx⟩)⟩
              · exact .inr ⟨by
                  have : ((al.getD (al.length - 1) E).toList == t.toList) = false := by rw [beq_eq_false_iff_ne]; exact hx
                  rw [hte, this]; simp [hb], hte, hb1, .inr ⟨h0, _, rfl, hx⟩⟩
      clear hte
      rcases hcase with ⟨hT, hcase⟩ | ⟨hT, hte, hmb, hcase⟩
      · obtain ⟨s2, hs2, hi2⟩ := HI.out.refuse hT
        have HS2 := Lib.hid hs2
        have HI2 := Lib.hid hi2
        have HT := Lib.hid hT
        have hlm : decide (mb < (al.length : Int)) = false := by simp; omega
        clear hs2 hi2 hT
        have hdd : al.length ≤ d := by obtain ⟨A', c', he, hc'⟩ := HO.out.own.form; injection he with _ _ h3; omega
        rcases hcase with hte | ⟨hte, hmb⟩ | ⟨hte, hmb, h0, x, hx, hxt⟩
        · go_wp2
          go_quiet (fail)
          go_wp2_with (first
            | (go_at_call 24; refine (add_h t (HP.out.drewN _) false HT.out s2 HS2.out).mono ?_; rintro e w4 ⟨rfl, r1, hp, hu, hf⟩; have HP1 := Lib.hid hp; have HO1 := Lib.hid ((HO.out.drewN _).step hu hf); clear hp hu hf)
            | (go_at_call 12; refine (entries_h HP1.out).mono ?_; rintro e w5 ⟨l5, rfl, ho, hp, hb, hn⟩; rw [HI2.out.ents] at ho; obtain ⟨B5, d5, rfl, hd5⟩ := ho.own.form; have HP2 := Lib.hid hp; have HO2 := Lib.hid (HO1.out.later hb); have HE5 := Lib.hid ho; clear ho hp hb hn)
            | (go_at_call 16; refine (same_r _ _ _ _ _ _ _ _ _ al al (own_reads HE5.out.own) HO2.out.own.reads hd5 hdd (by have := hal; omega)).mono ?_; rintro e w6 ⟨rfl, hd6⟩; have HP3 := Lib.hid (HP2.out.later hd6.below); have HO3 := Lib.hid (HO2.out.later hd6.below); clear hd6)
            | (go_at_call 14; refine (place_h HP3.out (al.length : Int) (HI2.out.still.pl.trans (by rw [HI2.out.ents]))).mono ?_; rintro e w7 ⟨rfl, rfl⟩)
            | (go_at_call 18; refine (len_h HP3.out al.length (by rw [HI2.out.ents])).mono ?_; rintro e w8 ⟨rfl, rfl⟩)
            | (go_at_call 20; refine (drafts_h HP3.out 0 (by rw [HI2.out.still.no]; rfl)).mono ?_; rintro e w9 ⟨rfl, rfl⟩))
          go_roundg k1
          case measure => omega
          case rel => exact ⟨i + 1, by simp, by omega, al, _, _, _, _, rfl, HP3, HI2, HO3⟩
        · go_wp2
          go_quiet (fail)
          go_wp2_with (first
            | (go_at_call 24; refine (add_h t (HP.out.drewN _) false HT.out s2 HS2.out).mono ?_; rintro e w4 ⟨rfl, r1, hp, hu, hf⟩; have HP1 := Lib.hid hp; have HO1 := Lib.hid ((HO.out.drewN _).step hu hf); clear hp hu hf)
            | (go_at_call 12; refine (entries_h HP1.out).mono ?_; rintro e w5 ⟨l5, rfl, ho, hp, hb, hn⟩; rw [HI2.out.ents] at ho; obtain ⟨B5, d5, rfl, hd5⟩ := ho.own.form; have HP2 := Lib.hid hp; have HO2 := Lib.hid (HO1.out.later hb); have HE5 := Lib.hid ho; clear ho hp hb hn)
            | (go_at_call 16; refine (same_r _ _ _ _ _ _ _ _ _ al al (own_reads HE5.out.own) HO2.out.own.reads hd5 hdd (by have := hal; omega)).mono ?_; rintro e w6 ⟨rfl, hd6⟩; have HP3 := Lib.hid (HP2.out.later hd6.below); have HO3 := Lib.hid (HO2.out.later hd6.below); clear hd6)
            | (go_at_call 14; refine (place_h HP3.out (al.length : Int) (HI2.out.still.pl.trans (by rw [HI2.out.ents]))).mono ?_; rintro e w7 ⟨rfl, rfl⟩)
            | (go_at_call 18; refine (len_h HP3.out al.length (by rw [HI2.out.ents])).mono ?_; rintro e w8 ⟨rfl, rfl⟩)
            | (go_at_call 20; refine (drafts_h HP3.out 0 (by rw [HI2.out.still.no]; rfl)).mono ?_; rintro e w9 ⟨rfl, rfl⟩))
          go_roundg k1
          case measure => omega
          case rel => exact ⟨i + 1, by simp, by omega, al, _, _, _, _, rfl, HP3, HI2, HO3⟩
        · obtain ⟨g, off, c', hB, _⟩ := HO.out.own.some_ (by omega)
          injection hB with hB1 hB2 hB3
          subst hB1; subst hB3; clear hB2
          have hc := HO.out.own.cell_ (k := al.length - 1) (by omega) hx
          have z1 : IntKind.i64.wrap ((al.length : Int) - 1) = (al.length : Int) - 1 := IntWalk.i64_in _ (by omega)
          have z2 : ((al.length : Int) - 1).toNat = al.length - 1 := by omega
          have z3 : 0 ≤ (al.length : Int) - 1 := by omega
          have z4 : (al.length : Int) - 1 < (al.length : Int) := by omega
          have z5 : ((al.length : Int) == 0) = false := by rw [beq_eq_false_iff_ne]; omega
          have x1 : (x.toList == t.toList) = true := beq_iff_eq.mpr hxt
          have x2 : (x.toList != t.toList) = false := bne_eq_false_iff_eq.mpr hxt
          clear hx hxt
          go_wp2
          go_quiet (fail)
          clear z1 z2 z3 z4
          go_wp2_with (first
            | (go_at_call 24; refine (add_h t (HP.out.drewN _) false HT.out s2 HS2.out).mono ?_; rintro e w4 ⟨rfl, r1, hp, hu, hf⟩; have HP1 := Lib.hid hp; have HO1 := Lib.hid ((HO.out.drewN _).step hu hf); clear hp hu hf)
            | (go_at_call 12; refine (entries_h HP1.out).mono ?_; rintro e w5 ⟨l5, rfl, ho, hp, hb, hn⟩; rw [HI2.out.ents] at ho; obtain ⟨B5, d5, rfl, hd5⟩ := ho.own.form; have HP2 := Lib.hid hp; have HO2 := Lib.hid (HO1.out.later hb); have HE5 := Lib.hid ho; clear ho hp hb hn)
            | (go_at_call 16; refine (same_r _ _ _ _ _ _ _ _ _ al al (own_reads HE5.out.own) HO2.out.own.reads hd5 hdd (by have := hal; omega)).mono ?_; rintro e w6 ⟨rfl, hd6⟩; have HP3 := Lib.hid (HP2.out.later hd6.below); have HO3 := Lib.hid (HO2.out.later hd6.below); clear hd6)
            | (go_at_call 14; refine (place_h HP3.out (al.length : Int) (HI2.out.still.pl.trans (by rw [HI2.out.ents]))).mono ?_; rintro e w7 ⟨rfl, rfl⟩)
            | (go_at_call 18; refine (len_h HP3.out al.length (by rw [HI2.out.ents])).mono ?_; rintro e w8 ⟨rfl, rfl⟩)
            | (go_at_call 20; refine (drafts_h HP3.out 0 (by rw [HI2.out.still.no]; rfl)).mono ?_; rintro e w9 ⟨rfl, rfl⟩))
          go_roundg k1
          case measure => omega
          case rel => exact ⟨i + 1, by simp, by omega, al, _, _, _, _, rfl, HP3, HI2, HO3⟩
      · obtain ⟨s2, hs2, hi2⟩ := HI.out.take hT
        have HS2 := Lib.hid hs2
        have HT := Lib.hid hT
        clear hs2 hT
        have hmb1 : 1 ≤ mb := by have h : 0 < mb := of_decide_eq_true hmb; omega
        rcases hcase with h0 | ⟨h0, x, hx, hxt⟩
        · obtain rfl : al = [] := List.eq_nil_of_length_eq_zero h0
          have htr : trim mb ([] ++ [t]) = [t] := by unfold trim; rw [if_neg (by simp; omega)]; rfl
          rw [htr] at hi2
          have HI2 := Lib.hid hi2
          have hlm : decide (mb < 1) = false := by simp; omega
          clear hi2 htr
          go_wp2
          go_quiet (fail)
          go_wp2_with (first
            | (go_at_call 24; refine (add_h t (HP.out.drewN _) true HT.out s2 HS2.out).mono ?_; rintro e w4 ⟨rfl, r1, hp, hu, hf⟩; have HP0 := Lib.hid hp; have HO0 := Lib.hid ((HO.out.drewN _).step hu hf); have hcell4 := HCL.out _ hp.below; clear hp hu hf)
            | (at_builtin; refine wpList_append_o rfl (.tmp 59) (.tmp 64) rfl rfl HO0.out.own t (by omega) rfl rfl ?_; intro v5 w5 h5 hu5 hn5; obtain ⟨hp5, ho5⟩ := OutO.appended HP0.out HO0.out h5 hu5 hn5; obtain ⟨g5, off5, d9, rfl, hd9⟩ := h5.some_ (by simp); simp only [List.nil_append, List.length_singleton] at hd9; have HP1 := Lib.hid hp5; have HO1 := Lib.hid ho5; clear h5 hu5 hn5 hp5 ho5)
            | (go_at_call 12; refine (entries_h HP1.out).mono ?_; rintro e w5 ⟨l5, rfl, ho, hp, hb, hn⟩; rw [HI2.out.ents] at ho; obtain ⟨B5, d5, rfl, hd5⟩ := ho.own.form; have HP2 := Lib.hid hp; have HO2 := Lib.hid (HO1.out.later hb); have HE5 := Lib.hid ho; clear ho hp hb hn)
            | (go_at_call 16; refine (same_r _ _ _ _ _ _ _ _ _ [t] [t] (own_reads HE5.out.own) HO2.out.own.reads hd5 hd9 (by simp)).mono ?_; rintro e w6 ⟨rfl, hd6⟩; have HP3 := Lib.hid (HP2.out.later hd6.below); have HO3 := Lib.hid (HO2.out.later hd6.below); clear hd6)
            | (go_at_call 14; refine (place_h HP3.out ([t].length : Int) (HI2.out.still.pl.trans (by rw [HI2.out.ents]))).mono ?_; rintro e w7 ⟨rfl, rfl⟩)
            | (go_at_call 18; refine (len_h HP3.out [t].length (by rw [HI2.out.ents])).mono ?_; rintro e w8 ⟨rfl, rfl⟩)
            | (go_at_call 20; refine (drafts_h HP3.out 0 (by rw [HI2.out.still.no]; rfl)).mono ?_; rintro e w9 ⟨rfl, rfl⟩))
          go_roundg k1
          case measure => omega
          case rel => exact ⟨i + 1, by simp, by omega, [t], _, _, _, _, rfl, HP3, HI2, HO3⟩
        · obtain ⟨g, off, c', hB, _⟩ := HO.out.own.some_ (by omega)
          injection hB with hB1 hB2 hB3
          subst hB1; subst hB3; clear hB2
          have hc := HO.out.own.cell_ (k := al.length - 1) (by omega) hx
          have z1 : IntKind.i64.wrap ((al.length : Int) - 1) = (al.length : Int) - 1 := IntWalk.i64_in _ (by omega)
          have z2 : ((al.length : Int) - 1).toNat = al.length - 1 := by omega
          have z3 : 0 ≤ (al.length : Int) - 1 := by omega
          have z4 : (al.length : Int) - 1 < (al.length : Int) := by omega
          have z5 : ((al.length : Int) == 0) = false := by rw [beq_eq_false_iff_ne]; omega
          have x1 : (x.toList == t.toList) = false := beq_eq_false_iff_ne.mpr hxt
          have x2 : (x.toList != t.toList) = true := bne_iff_ne.mpr hxt
          have hdd : al.length ≤ d := by omega
          have HLn : Hid ((al ++ [t]).length = al.length + 1) := Lib.hid (by simp)
          clear hx hxt
          by_cases htm : mb < (al.length : Int) + 1
          · have htr : trim mb (al ++ [t]) = (al ++ [t]).drop 1 := by unfold trim; rw [if_pos (by simpa using htm)]
            obtain ⟨al2, hal2⟩ : ∃ al2, al2 = (al ++ [t]).drop 1 := ⟨_, rfl⟩
            have hl2 : al2.length = al.length := by rw [hal2]; simp
            rw [htr, ← hal2] at hi2
            have HI2 := Lib.hid hi2
            have HA2 := Lib.hid hal2
            have HL2 := Lib.hid hl2
            have hlm : decide (mb < (al.length : Int) + 1) = true := by simp [htm]
            clear hi2 htr hal2 hl2
            go_wp2
            go_quiet (fail)
            clear z1 z2 z3 z4
            go_wp2_with (first
              | (go_at_call 24; refine (add_h t (HP.out.drewN _) true HT.out s2 HS2.out).mono ?_; rintro e w4 ⟨rfl, r1, hp, hu, hf⟩; have HP0 := Lib.hid hp; have HO0 := Lib.hid ((HO.out.drewN _).step hu hf); have hcell4 := HCL.out _ hp.below; clear hp hu hf)
              | (at_builtin; refine wpList_append_o rfl (.tmp 59) (.tmp 64) rfl rfl HO0.out.own t (by omega) rfl rfl ?_; intro v5 w5 h5 hu5 hn5; obtain ⟨hp5, ho5⟩ := OutO.appended HP0.out HO0.out h5 hu5 hn5; obtain ⟨g5, off5, d9, rfl, hd9⟩ := h5.some_ (by simp); rw [HLn.out] at hd9; have HOc := Lib.hid (ho5.tail (by rw [HLn.out]; omega)); rw [← HA2.out, HLn.out, Nat.add_sub_cancel] at HOc; have HP1 := Lib.hid hp5; have HO1 := HOc; clear h5 hu5 hn5 hp5 ho5)
              | (go_at_call 12; refine (entries_h HP1.out).mono ?_; rintro e w5 ⟨l5, rfl, ho, hp, hb, hn⟩; rw [HI2.out.ents] at ho; obtain ⟨B5, d5, rfl, hd5⟩ := ho.own.form; have HP2 := Lib.hid hp; have HO2 := Lib.hid (HO1.out.later hb); have HE5 := Lib.hid ho; clear ho hp hb hn)
              | (go_at_call 16; refine (same_r _ _ _ _ _ _ _ _ _ al2 al2 (own_reads HE5.out.own) HO2.out.own.reads hd5 (by have := HL2.out; omega) (by have := HL2.out; omega)).mono ?_; rintro e w6 ⟨rfl, hd6⟩; have HP3 := Lib.hid (HP2.out.later hd6.below); have HO3 := Lib.hid (HO2.out.later hd6.below); clear hd6)
              | (go_at_call 14; refine (place_h HP3.out (al.length : Int) (HI2.out.still.pl.trans (by rw [HI2.out.ents, HL2.out]))).mono ?_; rintro e w7 ⟨rfl, rfl⟩)
              | (go_at_call 18; refine (len_h HP3.out al.length (by rw [HI2.out.ents, HL2.out])).mono ?_; rintro e w8 ⟨rfl, rfl⟩)
              | (go_at_call 20; refine (drafts_h HP3.out 0 (by rw [HI2.out.still.no]; rfl)).mono ?_; rintro e w9 ⟨rfl, rfl⟩))
            go_roundg k1
            case measure => omega
            case rel => exact ⟨i + 1, by simp, by omega, al2, _, _, _, _, (by rw [HL2.out]), HP3, HI2, (by rw [HL2.out]; exact HO3)⟩
          · have htr : trim mb (al ++ [t]) = al ++ [t] := by unfold trim; rw [if_neg (by simpa using htm)]
            obtain ⟨al2, hal2⟩ : ∃ al2, al2 = al ++ [t] := ⟨_, rfl⟩
            have hl2 : al2.length = al.length + 1 := by rw [hal2]; simp
            rw [htr, ← hal2] at hi2
            have HI2 := Lib.hid hi2
            have HA2 := Lib.hid hal2
            have HL2 := Lib.hid hl2
            have hlm : decide (mb < (al.length : Int) + 1) = false := by simp; omega
            clear hi2 htr hal2 hl2
            go_wp2
            go_quiet (fail)
            clear z1 z2 z3 z4
            go_wp2_with (first
              | (go_at_call 24; refine (add_h t (HP.out.drewN _) true HT.out s2 HS2.out).mono ?_; rintro e w4 ⟨rfl, r1, hp, hu, hf⟩; have HP0 := Lib.hid hp; have HO0 := Lib.hid ((HO.out.drewN _).step hu hf); have hcell4 := HCL.out _ hp.below; clear hp hu hf)
              | (at_builtin; refine wpList_append_o rfl (.tmp 59) (.tmp 64) rfl rfl HO0.out.own t (by omega) rfl rfl ?_; intro v5 w5 h5 hu5 hn5; obtain ⟨hp5, ho5⟩ := OutO.appended HP0.out HO0.out h5 hu5 hn5; obtain ⟨g5, off5, d9, rfl, hd9⟩ := h5.some_ (by simp); rw [HLn.out] at hd9; have HOc := Lib.hid ho5; rw [← HA2.out, HL2.out] at HOc; have HP1 := Lib.hid hp5; have HO1 := HOc; clear h5 hu5 hn5 hp5 ho5)
              | (go_at_call 12; refine (entries_h HP1.out).mono ?_; rintro e w5 ⟨l5, rfl, ho, hp, hb, hn⟩; rw [HI2.out.ents] at ho; obtain ⟨B5, d5, rfl, hd5⟩ := ho.own.form; have HP2 := Lib.hid hp; have HO2 := Lib.hid (HO1.out.later hb); have HE5 := Lib.hid ho; clear ho hp hb hn)
              | (go_at_call 16; refine (same_r _ _ _ _ _ _ _ _ _ al2 al2 (own_reads HE5.out.own) HO2.out.own.reads hd5 (by have := HL2.out; omega) (by have := HL2.out; omega)).mono ?_; rintro e w6 ⟨rfl, hd6⟩; have HP3 := Lib.hid (HP2.out.later hd6.below); have HO3 := Lib.hid (HO2.out.later hd6.below); clear hd6)
              | (go_at_call 14; refine (place_h HP3.out ((al.length : Int) + 1) (HI2.out.still.pl.trans (by rw [HI2.out.ents, HL2.out]; simp))).mono ?_; rintro e w7 ⟨rfl, rfl⟩)
              | (go_at_call 18; refine (len_h HP3.out (al.length + 1) (by rw [HI2.out.ents, HL2.out])).mono ?_; rintro e w8 ⟨rfl, rfl⟩)
              | (go_at_call 20; refine (drafts_h HP3.out 0 (by rw [HI2.out.still.no]; rfl)).mono ?_; rintro e w9 ⟨rfl, rfl⟩))
            go_roundg k1
            case measure => omega
            case rel => exact ⟨i + 1, by simp, by omega, al2, _, _, _, _, (by rw [HL2.out]), HP3, HI2, (by rw [HL2.out]; exact HO3)⟩
theorem bounds_row (W : World) (n : Int) (wn : (Lit.int .i64 n).wf = true) (A : Option Addr) (l c : Nat) (xs : List ByteArray) (hr : Reads W W.heap.size 1 A l (xs.map Value.string)) (hlc : l ≤ c) (hm : ∀ u ∈ xs, u.size ≤ maxLen) (y : l * 16 ≤ reachBytes) :
    Calls Tryd.prog 6 #[.int .i64 n, .slice A l c] W fun e W' => e = .returned (.bool true) ∧ Below W.heap.size W W' := by
  have e : reachBytes = 140737488351232 := by rfl
  exact bounds W n A l c xs hr hlc (by omega)
end Hist
end Go.Proofs.YtjghfdhahkokhaaDoor
