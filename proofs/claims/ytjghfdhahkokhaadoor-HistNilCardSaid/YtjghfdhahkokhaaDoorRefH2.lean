/- The document's history: the text at a place, Go, Back, Forward. -/
import Derived.Test.YtjghfdhahkokhaaDoorRefH
set_option linter.unusedVariables false
namespace Go.Proofs.YtjghfdhahkokhaaDoor
open Go.RowKit Go.Proofs.YtjghfdhahkokhaaDoorW.PrintWords Go.Proofs.YtjghfdhahkokhaaDoor.Sep Go.Proofs.YtjghfdhahkokhaaDoor.Libs
namespace RefH
open Hist (HS Inv homed withEnts trim takes add gone textAt strike put Note E OwnO)
section
variable {w w' : World} {b : Nat} {r : Pr} {s : HS}
theorem flat_at (l : List Note) : ∀ i, i < l.length → ((l.flatMap ncells)[i * 2]? = some (.int .i64 (l.getD i (0, E)).1) ∧ (l.flatMap ncells)[i * 2 + 1]? = some (.string (l.getD i (0, E)).2)) := by
  induction l with
  | nil => intro i h; simp at h
  | cons x l ih =>
    intro i h
    rw [List.flatMap_cons]
    cases i with
    | zero => exact ⟨rfl, rfl⟩
    | succ i =>
      have := ih i (by simpa using h)
      have e1 : (i + 1) * 2 = (ncells x).length + i * 2 := by show _ = 2 + i * 2; omega
      have e2 : (i + 1) * 2 + 1 = (ncells x).length + (i * 2 + 1) := by show _ = 2 + (i * 2 + 1); omega
      rw [e1, show (ncells x).length + i * 2 + 1 = (ncells x).length + (i * 2 + 1) by omega, List.getElem?_append_right (by omega), List.getElem?_append_right (by omega), Nat.add_sub_cancel_left, Nat.add_sub_cancel_left]
      simpa using this
theorem NOwn.at_ {A : Option Addr} {n c : Nat} {l : List Note} (h : NOwn w (.slice A n c) l) {i : Nat} (hi : i < l.length) : ∃ g, A = some ⟨g, 0, none⟩ ∧ w.cell? ⟨g, i * 2, none⟩ = some (.int .i64 (l.getD i (0, E)).1) ∧ w.cell? ⟨g, i * 2 + 1, none⟩ = some (.string (l.getD i (0, E)).2) := by
  rcases h.2 with ⟨_, h0⟩ | ⟨g, cap, cur, e, _, _, _⟩
  · omega
  · injection e with e1 e2 e3
    obtain ⟨f0, f1⟩ := flat_at l i hi
    have hc := h.cells (g := g) (by rw [e1]; rfl)
    have c0 := hc _ _ f0
    have c1 := hc _ _ f1
    rw [Hist.add_off, Nat.zero_add] at c0 c1
    exact ⟨g, e1, c0, c1⟩
theorem drop_look (l : List Note) (p : Int) (i : Nat) (hi : i < l.length) : Hist.look (l.drop i) p = if (l.getD i (0, E)).1 = p then some (l.getD i (0, E)).2 else Hist.look (l.drop (i + 1)) p := by
  rw [List.drop_eq_getElem_cons hi]
  simp [Hist.look, List.getD, hi]
set_option maxHeartbeats 1600000 in
theorem text (h : At w b r s) (hi : Inv s) (p : Int) (h0 : 0 ≤ p) :
    Calls Tryd.prog 50 #[.pointer (some ⟨b, 0, none⟩), .int .i64 p] w fun e w' => e = .returned (.string (textAt s p)) ∧ w = w' := by
  have hl := hi.l1
  have hnl := hi.nl
  obtain ⟨c0, c1, c2, c3, hf⟩ := h.cells
  obtain ⟨A, c, hv, hlc⟩ := NOwn.form h.2.2
  rw [hv] at c3
  have HN := Lib.hid (show NOwn w (.slice A s.notes.length c) s.notes by rw [← hv]; exact h.2.2)
  have HE := Lib.hid (entry h hl p)
  have HT : Hid (Hist.look s.notes p = none → textAt s p = Hist.entryT s p) := Lib.hid (fun e => by
    unfold textAt Hist.entryT
    simp only [e, h0, true_and])
  have HT2 : Hid (∀ t, Hist.look s.notes p = some t → textAt s p = t) := Lib.hid (fun t e => by unfold textAt; simp only [e])
  generalize textAt s p = T at *
  generalize Hist.entryT s p = T2 at *
  generalize Hist.entryE s p = E2 at *
  clear h hv
  go_enter Tryd.func50, Tryd.ntmps50
  go_wp2
  go_loopg [5] s.notes.length (fun k v5 w' => ∃ i : Nat, v5 = .int .i64 i ∧ i + k = s.notes.length ∧ Hid (Hist.look s.notes p = Hist.look (s.notes.drop i) p) ∧ w = w')
  case atStart => exact ⟨0, rfl, by omega, Lib.hid rfl, rfl⟩
  case round =>
    obtain ⟨i, rfl, hik, HL, rfl⟩ := hrel
    cases gk with
    | zero =>
      have e1 : decide ((i : Int) < (s.notes.length : Int)) = false := by simp; omega
      have HF : Hid (T = T2) := Lib.hid (HT.out (by rw [HL.out, List.drop_eq_nil_of_le (by omega)]; rfl))
      go_wp2_with (go_at_call 45; refine HE.out.mono ?_; rintro e w' ⟨rfl, rfl⟩)
      go_ret
      exact ⟨(by rw [HF.out]; rfl), rfl⟩
    | succ k1 =>
      have hi : i < s.notes.length := by omega
      have e1 : decide ((i : Int) < (s.notes.length : Int)) = true := by simp [hi]
      obtain ⟨g, rfl, d0, d1⟩ := NOwn.at_ HN.out hi
      have HD := Lib.hid (drop_look s.notes p i hi)
      generalize s.notes.getD i (0, E) = x at *
      obtain ⟨q, t⟩ := x
      dsimp only at d0 d1 HD
      by_cases hq : q = p
      · have HF : Hid (T = t) := Lib.hid (HT2.out t (by rw [HL.out, HD.out, if_pos hq]))
        have e2 : (q == p) = true := by simp [hq]
        clear hq
        go_wp2
        go_ret
        exact ⟨(by rw [HF.out]; rfl), rfl⟩
      · have e2 : (q == p) = false := by simp [hq]
        have HL2 : Hid (Hist.look s.notes p = Hist.look (s.notes.drop (i + 1)) p) := Lib.hid (by rw [HL.out, HD.out, if_neg hq])
        clear hq
        go_wp2
        go_roundg k1
        case measure => omega
        case rel => exact ⟨i + 1, by simp, by omega, HL2, rfl⟩
theorem go_range (h : At w b r s) (p : Int) (now : ByteArray) (hp : p < 0 ∨ (s.ents.length : Int) < p) :
    Calls Tryd.prog 43 #[.pointer (some ⟨b, 0, none⟩), .int .i64 p, .string now] w fun e w' => e = .returned (.tuple #[.string ⟨#[]⟩, .int .i64 1]) ∧ w = w' := by
  obtain ⟨c0, c1, c2, c3, hf⟩ := h.cells
  obtain ⟨A, c, hv, hl⟩ := h.2.1.form
  rw [hv] at c1
  clear h
  by_cases h0 : p < 0
  · clear hp
    go_enter Tryd.func43, Tryd.ntmps43
    go_wp2
    go_ret2
    exact ⟨rfl, rfl⟩
  · have h1 : (s.ents.length : Int) < p := by omega
    clear hp
    go_enter Tryd.func43, Tryd.ntmps43
    go_wp2
    go_ret2
    exact ⟨rfl, rfl⟩
theorem strike_take (l : List Note) (p : Int) (i : Nat) (hi : i < l.length) : strike (l.take (i + 1)) p = if (l.getD i (0, E)).1 = p then strike (l.take i) p else strike (l.take i) p ++ [l.getD i (0, E)] := by
  unfold strike
  rw [List.take_succ_eq_append_getElem hi, List.filter_append]
  have e : l.getD i (0, E) = l[i] := by simp [List.getD, hi]
  rw [e]
  by_cases h : l[i].1 = p
  · rw [if_pos h]; simp [h]
  · rw [if_neg h]; simp [h]
theorem NOwn.app {v : Value} {l : List Note} {x : Note} {n : Nat} (h : w.ownsRow 0 66 2 v (n + 1) (l.flatMap ncells ++ ncells x)) (hn : n = l.length) : NOwn w v (l ++ [x]) := by
  subst hn
  unfold NOwn
  simpa using h
theorem reads_draft (w : World) (q : Int) (t : ByteArray) : Reads (w.alloc (.cells #[.int .i64 q, .string t] 66)) (w.alloc (.cells #[.int .i64 q, .string t] 66)).heap.size 2 (some ⟨w.heap.size, 0, none⟩) 1 (ncells (q, t)) :=
  Reads.of_own (base := w.heap.size) (e := 66) (c := 1) ⟨rfl, .inr ⟨_, 1, #[.int .i64 q, .string t], rfl, Nat.le_refl _, heap_alloc_new w _, Nat.le_refl _, by unfold maxLen; omega, rfl, rfl⟩⟩
theorem strike_le (l : List Note) (p : Int) : (strike l p).length ≤ l.length := List.length_filter_le _ _
theorem Below.drewN {W w : World} (h : Below W.heap.size W w) (n : Nat) : Below W.heap.size W (w.drewN n) := ⟨h.os, h.tape, h.output, h.size, h.block⟩
theorem At.gapp {W w1 w5 : World} {v v5 : Value} {o : Obj} (ha : At w1 b r s) (hv : ∀ k : Nat, v.ownBlock = some k → W.heap.size ≤ k) (hb : Below W.heap.size W w1) (hg : (w1.alloc o).grownBy w5 v.ownBlock) (hat : v5.ownBlock = v.ownBlock ∨ v5.ownBlock = some (w1.alloc o).heap.size)
    (hlt : ∀ k, foot b r k → k < W.heap.size): At w5 b r s ∧ Below W.heap.size W w5 ∧ ∀ k : Nat, v5.ownBlock = some k → W.heap.size ≤ k := by
  have hu : Upd (fun k => v.ownBlock = some k) w1 w5 := ((Upd.refl _ w1).alloc o).then_ (Upd.grown (S := fun k => v.ownBlock = some k) hg (fun k e => e)) (fun k hk => .inl hk)
  refine ⟨ha.upd hu (fun k hk e => by have := hlt k hk; have := hv k e; omega), hb.trans (hu.toBelow hb.size hv), fun k hk => ?_⟩
  rcases hat with e | e
  · exact hv k (by rw [← e]; exact hk)
  · rw [e] at hk
    injection hk with hk
    have := hb.size
    simp at hk
    omega
set_option maxHeartbeats 3200000 in
theorem go_ (h : At w b r s) (hi : Inv s) (p : Int) (now : ByteArray) (h0 : 0 ≤ p) (h1 : p ≤ (s.ents.length : Int)) :
    Calls Tryd.prog 43 #[.pointer (some ⟨b, 0, none⟩), .int .i64 p, .string now] w fun e w' => e = .returned (.tuple #[.string (textAt (gone s p now) p), .int .i64 0]) ∧ ∃ r', At w' b r' (gone s p now) ∧ Upd (foot b r) w w' ∧ Fr w b r r' := by
  obtain ⟨i0, hi0, hz0, hz1, hz2⟩ := info_parts info66
  have hl := hi.l1
  have hnl := hi.nl
  have hp0 := hi.p0
  have hp1 := hi.p1
  obtain ⟨c0, c1, c2, c3, hf⟩ := h.cells
  obtain ⟨A1, cc1, hv1, hlc1⟩ := h.2.1.form
  obtain ⟨A, c, hv, hlc⟩ := NOwn.form h.2.2
  rw [hv] at c3
  rw [hv1] at c1
  have HLT := Lib.hid h.lt
  have HA := Lib.hid h
  have HV := Lib.hid hv
  have HIG := Lib.hid (hi.gone h0 h1 now)
  have g1 : decide (p < 0) = false := by simp; omega
  have g2 : decide ((s.ents.length : Int) < p) = false := by simp; omega
  clear h hi hv hv1
  go_enter Tryd.func43, Tryd.ntmps43
  go_wp2
  go_loopg [9, 8] s.notes.length (fun k v9 v8 w' => ∃ i : Nat, v9 = .int .i64 i ∧ i + k = s.notes.length ∧ ∃ l B d, v8 = .slice B l.length d ∧ l.length ≤ i ∧ Hid (l = strike (s.notes.take i) s.place) ∧ Hid (NOwn w' (.slice B l.length d) l) ∧ Hid (∀ k : Nat, (Value.slice B l.length d).ownBlock = some k → w.heap.size ≤ k) ∧ Hid (Below w.heap.size w w'))
  case atStart => exact ⟨0, rfl, by omega, [], none, 0, rfl, Nat.le_refl _, Lib.hid rfl, Lib.hid (NOwn.nil _), Lib.hid (fun k hk => by simp [Value.ownBlock] at hk), Lib.hid (Below.refl _ _)⟩
  case round =>
    obtain ⟨i, rfl, hik, l, B, d, rfl, hli, HL, HO, HB, HW⟩ := hrel
    have hA1 := HA.out.upd (Upd.below HW.out No) (fun _ _ h => h)
    obtain ⟨d0, d1, d2, d3, df⟩ := hA1.cells
    rw [HV.out] at d3
    have HA1 := Lib.hid hA1
    clear hA1
    cases gk with
    | zero =>
      have e1 : decide ((i : Int) < (s.notes.length : Int)) = false := by simp; omega
      have HLf : Hid (l ++ [(s.place, now)] = put s.notes s.place now) := Lib.hid (by
        rw [HL.out, List.take_of_length_le (by omega)]
        rfl)
      have HR := Lib.hid (reads_draft wr s.place now)
      have HOa := Lib.hid (show w.heap.size = w.heap.size ∧ NOwn (wr.alloc (.cells #[.int .i64 s.place, .string now] 66)) (.slice B l.length d) l from ⟨rfl, HO.out.upd ((Upd.refl No wr).alloc _) (fun _ _ h => h)⟩)
      go_wp2_with (first
        | (at_builtin; refine wpList_append_any _ rfl (.tmp 54) (.tmp 61) _ rfl 0 66 i0 _ 2 24 Tryd.underlying59 hi0 hz0 hz1 hz2 rfl (by omega) (.slice B l.length d) l.length (l.flatMap ncells) rfl HOa.out.2 _ _ 1 1 (ncells (s.place, now)) rfl HR.out (by simp [ncells, Value.oneCell']) (by simp only [maxLen]; omega) (by omega) (Nat.zero_le _) ?_; intro v5 w5 hown1 hg1 hat1; obtain ⟨ha5, hb5, hn5⟩ := At.gapp HA1.out HB.out HW.out hg1 hat1 HLT.out; have ho5 := NOwn.app hown1 rfl; rw [HLf.out] at ho5; obtain ⟨B5, d5, rfl, hd5⟩ := NOwn.form ho5; obtain ⟨f0, f1, f2, f3, ff⟩ := ha5.cells; have HAf := Lib.hid ((ha5.setNotes ho5).setPlace p); have HB5 := Lib.hid hb5; have HN5 := Lib.hid hn5; clear hown1 hg1 hat1 ha5 hb5 hn5 ho5)
        | (go_at_call 50; refine (text HAf.out HIG.out p h0).mono ?_; rintro e w7 ⟨rfl, rfl⟩))
      go_ret2
      refine ⟨rfl, _, HAf.out, ?_, ?_⟩
      · exact ((Upd.below HB5.out _).setCell (p := ⟨b, 3, none⟩) (.inl (.inl rfl)) _).setCell (p := ⟨b, 2, none⟩) (.inl (.inl rfl)) _
      · rintro k (hk | hk | hk)
        · exact .inl (.inl hk)
        · exact .inl (.inr (.inl hk))
        · exact .inr (HN5.out k hk)
    | succ k1 =>
      have hi : i < s.notes.length := by omega
      have e1 : decide ((i : Int) < (s.notes.length : Int)) = true := by simp [hi]
      have hN1 := HA1.out.2.2
      rw [HV.out] at hN1
      obtain ⟨g, rfl, f0, f1⟩ := NOwn.at_ hN1 hi
      have HS := Lib.hid (strike_take s.notes s.place i hi)
      clear hN1
      generalize s.notes.getD i (0, E) = x at *
      obtain ⟨q, t⟩ := x
      dsimp only at f0 f1 HS
      by_cases hq : q = s.place
      · have e2 : (q != s.place) = false := by simp [hq]
        have HL2 : Hid (l = strike (s.notes.take (i + 1)) s.place) := Lib.hid (by rw [HS.out, if_pos hq]; exact HL.out)
        clear hq
        go_wp2
        go_quiet (fail)
        go_wp2
        go_roundg k1
        case measure => omega
        case rel => exact ⟨i + 1, by simp, by omega, l, B, d, rfl, by omega, HL2, HO, HB, Lib.hid ⟨HW.out.os, HW.out.tape, HW.out.output, HW.out.size, HW.out.block⟩⟩
      · have e2 : (q != s.place) = true := by simp [hq]
        have HL2 : Hid (l ++ [(q, t)] = strike (s.notes.take (i + 1)) s.place) := Lib.hid (by rw [HS.out, if_neg hq, HL.out])
        clear hq
        have HR := fun n => Lib.hid (reads_draft (wr.drewN n) q t)
        have HOa := fun n => Lib.hid (show w.heap.size = w.heap.size ∧ NOwn ((wr.drewN n).alloc (.cells #[.int .i64 q, .string t] 66)) (.slice B l.length d) l from ⟨rfl, HO.out.upd (w := wr) (w' := (wr.drewN n).alloc (.cells #[.int .i64 q, .string t] 66)) (((Upd.refl No wr).drewN n).alloc _) (fun _ _ h => h)⟩)
        go_wp2
        go_quiet (fail)
        go_wp2_with (at_builtin; refine wpList_append_any _ rfl (.tmp 43) (.tmp 51) _ rfl 0 66 i0 _ 2 24 Tryd.underlying59 hi0 hz0 hz1 hz2 rfl (by omega) (.slice B l.length d) l.length (l.flatMap ncells) rfl (HOa _).out.2 _ _ 1 1 (ncells (q, t)) rfl (HR _).out (by simp [ncells, Value.oneCell']) (by simp only [maxLen]; omega) (by omega) (Nat.zero_le _) ?_; intro v5 w5 hown1 hg1 hat1; obtain ⟨ha5, hb5, hn5⟩ := At.gapp (HA1.out.drewN _) HB.out (Below.drewN HW.out _) hg1 hat1 HLT.out; have ho5 := NOwn.app hown1 rfl; obtain ⟨B5, d5, rfl, hd5⟩ := NOwn.form ho5; have HO5 := Lib.hid ho5; have HB5 := Lib.hid hb5; have HN5 := Lib.hid hn5; clear hown1 hg1 hat1 ha5 hb5 hn5 ho5)
        go_roundg k1
        case measure => omega
        case rel => exact ⟨i + 1, by simp, by omega, l ++ [(q, t)], _, _, (by rw [List.length_append]; rfl), (by simp; omega), HL2, HO5, HN5, HB5⟩
theorem back_ (h : At w b r s) (hi : Inv s) (now : ByteArray) :
    Calls Tryd.prog 41 #[.pointer (some ⟨b, 0, none⟩), .string now] w fun e w' => e = .returned (.tuple #[.string (Hist.backT s now), .int .i64 (Hist.backE s)]) ∧ ∃ r', At w' b r' (Hist.back s now) ∧ Upd (foot b r) w w' ∧ Fr w b r r' := by
  have h0 := hi.p0
  have h1 := hi.p1
  obtain ⟨c0, c1, c2, c3, hf⟩ := h.cells
  unfold Hist.backT Hist.backE Hist.back
  by_cases hp : s.place = 0
  · simp only [if_pos hp]
    have HA := Lib.hid h
    have hz : (s.place == 0) = true := by simp [hp]
    clear h
    go_enter Tryd.func41, Tryd.ntmps41
    go_wp2
    go_ret2
    exact ⟨rfl, r, HA.out, Upd.refl _ _, Fr.same _ _ _⟩
  · simp only [if_neg hp]
    have hz : (s.place == 0) = false := by simp [hp]
    have HG := Lib.hid (go_ h hi (s.place - 1) now (by omega) (by omega))
    have hl1 := hi.l1
    clear h hp
    generalize textAt (gone s (s.place - 1) now) (s.place - 1) = T at *
    go_enter Tryd.func41, Tryd.ntmps41
    go_wp2_with (go_at_call 43; refine HG.out.mono ?_; rintro e w1 ⟨rfl, h5⟩)
    go_ret2
    exact ⟨rfl, h5⟩
theorem forth_ (h : At w b r s) (hi : Inv s) (now : ByteArray) :
    Calls Tryd.prog 42 #[.pointer (some ⟨b, 0, none⟩), .string now] w fun e w' => e = .returned (.tuple #[.string (Hist.forthT s now), .int .i64 (Hist.forthE s)]) ∧ ∃ r', At w' b r' (Hist.forth s now) ∧ Upd (foot b r) w w' ∧ Fr w b r r' := by
  have h0 := hi.p0
  have h1 := hi.p1
  obtain ⟨c0, c1, c2, c3, hf⟩ := h.cells
  obtain ⟨A, c, hv, hl⟩ := h.2.1.form
  rw [hv] at c1
  clear hv
  unfold Hist.forthT Hist.forthE Hist.forth
  by_cases hp : s.place = (s.ents.length : Int)
  · simp only [if_pos hp]
    have HA := Lib.hid h
    have hz : (s.place == (s.ents.length : Int)) = true := by simp [hp]
    clear h hp
    go_enter Tryd.func42, Tryd.ntmps42
    go_wp2
    try go_quiet (fail)
    try go_wp2
    go_ret2
    exact ⟨rfl, r, by first | exact HA.out | exact HA.out.drewN _, by first | exact Upd.refl _ _ | exact (Upd.refl _ _).drewN _, Fr.same _ _ _⟩
  · simp only [if_neg hp]
    have hz : (s.place == (s.ents.length : Int)) = false := by simp [hp]
    have HG := fun n => Lib.hid (go_ (h.drewN n) hi (s.place + 1) now (by omega) (by omega))
    have hl1 := hi.l1
    clear h hp
    generalize textAt (gone s (s.place + 1) now) (s.place + 1) = T at *
    go_enter Tryd.func42, Tryd.ntmps42
    go_wp2
    go_quiet (fail)
    go_wp2_with (go_at_call 43; refine (HG _).out.mono ?_; rintro e w1 ⟨rfl, r5, h5, h6, h7⟩; have H5 := Lib.hid h5; have H6 := Lib.hid h6; have H7 := Lib.hid h7; clear h5 h6 h7)
    go_ret2
    exact ⟨rfl, r5, H5.out, ⟨H6.out.os, H6.out.tape, H6.out.output, H6.out.size, H6.out.block⟩, H7.out⟩
end
end RefH
end Go.Proofs.YtjghfdhahkokhaaDoor
