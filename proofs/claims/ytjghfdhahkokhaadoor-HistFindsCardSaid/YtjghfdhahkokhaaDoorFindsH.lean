/- The walk of HistFinds: what is found is there, and nothing newer. -/
import Derived.Test.YtjghfdhahkokhaaDoorFind
import Derived.Test.YtjghfdhahkokhaaDoorWalksH
set_option linter.unusedVariables false
namespace Go.Proofs.YtjghfdhahkokhaaDoor
open Go.RowKit Go.Proofs.YtjghfdhahkokhaaDoorW.PrintWords Go.Proofs.YtjghfdhahkokhaaDoor.Sep Go.Proofs.YtjghfdhahkokhaaDoor.Libs
namespace Hist
theorem find_h {w0 w : World} {b : Nat} {r : Pr} {s : HS} (h : HB w0 w b r s) (part : ByteArray) (below : Int) (hz : ∀ i, i < s.ents.length → (s.ents.getD i E).size ≤ 1000000000000000) (x y z : Int) (hf : find s part below = (x, y, z)) :
    Calls Tryd.prog 29 #[.pointer (some ⟨b, 0, none⟩), .string part, .int .i64 below] w fun e w' => e = .returned (.tuple #[.int .i64 x, .int .i64 y, .int .i64 z]) ∧ w = w' := by
  have := find_ h.at_ h.inv part below (fun i hi => by have := hz i hi; omega)
  rw [hf] at this
  exact this
theorem Inv.fill (n : Int) (xs : List ByteArray) : Inv (fill n xs) := by
  have : ∀ (xs : List ByteArray) (s : HS), Inv s → Inv (xs.foldl Hist.add s) := by
    intro xs
    induction xs with
    | nil => exact fun s h => h
    | cons x xs ih => exact fun s h => ih _ (h.add x)
  exact this xs _ (Inv.start n)
/-- What the law asks of what was found. -/
structure FR (es : List ByteArray) (part : ByteArray) (below : Int) (m : Nat) (x y z : Int) : Prop where
  ok : z = 10 ∧ x = 0 ∧ y = 0 ∨ z = 0 ∧ ∃ i : Nat, x = i ∧ i < m ∧ part.toList.isEmpty = false ∧ beg (es.getD i E) part y = true ∧ 0 ≤ y ∧ y ≤ (es.getD i E).size
  no : ∀ k : Nat, k < m → part.toList.isEmpty = false → ∀ j : Nat, beg (es.getD k E) part j = true → z = 0 ∧ (k : Int) ≤ x ∧ ((k : Int) = x → (j : Int) ≤ y)
theorem find_fr (s : HS) (part : ByteArray) (below : Int) : FR s.ents part below (lim s below) (find s part below).1 (find s part below).2.1 (find s part below).2.2 := by
  unfold find
  rcases (show part.toList.isEmpty = true ∨ part.toList.isEmpty = false by cases part.toList.isEmpty <;> simp) with hp | hp
  · rw [if_pos hp]
    exact ⟨.inl ⟨rfl, rfl, rfl⟩, fun k _ h => by rw [hp] at h; cases h⟩
  · rw [if_neg (by simp [hp])]
    rcases fnd_spec s.ents part.data.toList (lim s below) with ⟨h1, h2⟩ | ⟨i, hi, h1, h2, h3⟩
    · rw [h1]
      refine ⟨.inl ⟨rfl, rfl, rfl⟩, fun k hk _ j hj => ?_⟩
      have := beg_last hj
      exact absurd (by omega) (h2 k hk)
    · rw [h1]
      obtain ⟨h4, h5⟩ := last_beg h2
      refine ⟨.inr ⟨rfl, i, rfl, hi, hp, h4, h2, h5⟩, fun k hk _ j hj => ?_⟩
      have h6 := beg_last hj
      rcases Nat.lt_or_ge i k with h7 | h7
      · exact absurd (by omega) (h3 k h7 hk)
      · refine ⟨rfl, by dsimp only; omega, fun e => ?_⟩
        dsimp only at e ⊢
        obtain rfl : k = i := by omega
        exact h6
set_option maxHeartbeats 6400000 in
set_option maxRecDepth 100000 in
theorem finds (W : World) (n : Int) (A : Option Addr) (l c : Nat) (xs : List ByteArray) (hr : Reads W W.heap.size 1 A l (xs.map Value.string)) (hlc : l ≤ c) (hl : l ≤ 10000000000000) (hm : ∀ u ∈ xs, u.size ≤ 1000000000000000) (part : ByteArray) (hp : part.size ≤ 1000000000000000) (below : Int) :
    Calls Tryd.prog 7 #[.int .i64 n, .slice A l c, .string part, .int .i64 below] W fun e W' => e = .returned (.bool true) ∧ Below W.heap.size W W' := by
  have HR := Lib.hid hr
  have HM : Hid (∀ i, i < (fill n xs).ents.length → ((fill n xs).ents.getD i E).size ≤ 1000000000000000) := Lib.hid (fun i hi => by
    refine hm _ (fill_mem n xs _ ?_)
    simp [List.getD, hi])
  have HST := Lib.hid (Still.fill n xs)
  have HFR := Lib.hid (find_fr (fill n xs) part below)
  have HF : Hid (∀ w, Below W.heap.size W w → Calls Tryd.prog 11 #[.int .i64 n, .slice A l c] w fun e w' => ∃ b r, e = .returned (.pointer (some ⟨b, 0, none⟩)) ∧ HB W w' b r (fill n xs)) := Lib.hid (fun w hb => filled W w n A l c xs hb HR.out hlc hl)
  have hl1 : (fill n xs).ents.length ≤ 1000 := (Inv.fill n xs).l1
  generalize fill n xs = s0 at *
  clear hr hm HR
  obtain ⟨x, y, z, hxyz⟩ : ∃ x y z, find s0 part below = (x, y, z) := ⟨_, _, _, rfl⟩
  rw [hxyz] at HFR
  have HXYZ := Lib.hid hxyz
  clear hxyz
  dsimp only at HFR
  have hlim : lim s0 below ≤ s0.ents.length ∧ ((lim s0 below : Int) ≤ below ∨ lim s0 below = 0) ∧ (lim s0 below = s0.ents.length ∨ (lim s0 below < s0.ents.length ∧ below ≤ (lim s0 below : Int))) := by unfold lim; omega
  generalize lim s0 below = m at *
  obtain ⟨hm1, hm2, hm3⟩ := hlim
  have hres : (z = 10 ∧ x = 0 ∧ y = 0) ∨ (z = 0 ∧ ∃ i : Nat, x = i ∧ i < m ∧ part.toList.isEmpty = false ∧ beg (s0.ents.getD i E) part y = true ∧ 0 ≤ y ∧ y ≤ (s0.ents.getD i E).size) := HFR.out.ok
  rcases hres with ⟨rfl, rfl, rfl⟩ | ⟨rfl, i, rfl, him, hpe, hbeg, hy0, hy1⟩
  · go_enter Tryd.func7, Tryd.ntmps7
    go_wp2_with (first
      | (go_at_call 10; refine (awake W).mono ?_; rintro e w1 ⟨rfl, hb⟩; have HW := Lib.hid hb; clear hb)
      | (go_at_call 11; refine (HF.out _ HW.out).mono ?_; rintro e w2 ⟨b, r, rfl, hp⟩; have HP0 := Lib.hid hp; clear hp)
      | (go_at_call 12; refine (entries_h HP0.out).mono ?_; rintro e w3 ⟨l0, rfl, ho, hp, h1, h2⟩; obtain ⟨B, d, rfl, hd⟩ := ho.own.form; have HP1 := Lib.hid hp; have HO1 := Lib.hid ho; clear ho hp HP0 h1 h2)
      | (go_at_call 29; refine (find_h HP1.out part below HM.out 0 0 10 HXYZ.out).mono ?_; rintro e w4 ⟨rfl, rfl⟩))
    go_loopg [14] m (fun k v14 w' => ∃ q : Nat, v14 = .int .i64 q ∧ q + k = m ∧ w3 = w')
    case atStart => exact ⟨0, rfl, by omega, rfl⟩
    case round =>
      obtain ⟨q, rfl, hqm, rfl⟩ := hrel
      cases gk with
      | zero =>
        rcases hm3 with h3 | ⟨h3, h4⟩
        · have f1 : decide ((q : Int) < (s0.ents.length : Int)) = false := by simp; omega
          go_wp2_with (first
            | (go_at_call 14; refine (place_h HP1.out (s0.ents.length : Int) HST.out.pl).mono ?_; rintro e w7 ⟨rfl, rfl⟩)
            | (go_at_call 18; refine (len_h HP1.out s0.ents.length rfl).mono ?_; rintro e w8 ⟨rfl, rfl⟩)
            | (go_at_call 20; refine (drafts_h HP1.out 0 (by rw [HST.out.no]; rfl)).mono ?_; rintro e w9 ⟨rfl, rfl⟩))
          go_ret
          exact ⟨rfl, HP1.out.below⟩
        · have f1 : decide ((q : Int) < (s0.ents.length : Int)) = true := by simp; omega
          have f2 : decide ((q : Int) < below) = false := by simp; omega
          go_wp2_with (first
            | (go_at_call 14; refine (place_h HP1.out (s0.ents.length : Int) HST.out.pl).mono ?_; rintro e w7 ⟨rfl, rfl⟩)
            | (go_at_call 18; refine (len_h HP1.out s0.ents.length rfl).mono ?_; rintro e w8 ⟨rfl, rfl⟩)
            | (go_at_call 20; refine (drafts_h HP1.out 0 (by rw [HST.out.no]; rfl)).mono ?_; rintro e w9 ⟨rfl, rfl⟩))
          go_ret
          exact ⟨rfl, HP1.out.below⟩
      | succ k1 =>
        have hq : q < m := by omega
        have f1 : decide ((q : Int) < (s0.ents.length : Int)) = true := by simp; omega
        have f2 : decide ((q : Int) < below) = true := by simp; omega
        obtain ⟨g, hg, hcq, _, _⟩ := Own.at_ HO1.out.own (k := q) (by omega)
        subst hg
        have hqz := HM.out q (by omega)
        have HNO : Hid (part.toList.isEmpty = false → ∀ j : Nat, beg (s0.ents.getD q E) part j = true → _) := Lib.hid (HFR.out.no q hq)
        generalize hxq : s0.ents.getD q E = xq at *
        have HXQ := Lib.hid hxq
        clear hxq
        go_wp2
        go_loopg [15] xq.size (fun k v15 w' => ∃ j : Nat, v15 = .int .i64 j ∧ j + k = xq.size ∧ w3 = w')
        case atStart => exact ⟨0, rfl, by omega, rfl⟩
        case round =>
          obtain ⟨j, rfl, hjm, rfl⟩ := hrel
          cases gk with
          | zero =>
            have f3 : decide ((j : Int) < (xq.size : Int)) = false := by simp; omega
            go_wp2
            go_roundg k1
            case measure => omega
            case rel => exact ⟨q + 1, by simp, by omega, rfl⟩
          | succ j1 =>
            have f3 : decide ((j : Int) < (xq.size : Int)) = true := by simp; omega
            rcases (show part.toList.isEmpty = true ∨ part.toList.isEmpty = false by cases part.toList.isEmpty <;> simp) with hpe2 | hpe2
            · go_wp2
              go_roundg k1
              case measure => omega
              case rel => exact ⟨q + 1, by simp, by omega, rfl⟩
            · have HBJ : Hid (beg xq part (j : Int) = true → _) := Lib.hid (HNO.out hpe2 j)
              have hjz : (j : Int) ≤ 1000000000000000 := by omega
              cases hbj : beg xq part (j : Int) with
              | false =>
                have HBF := Lib.hid hbj
                clear hbj
                go_wp2_with (first
                  | (go_at_call 30; refine (begins_ _ xq part (j : Int) hqz hp ⟨by omega, hjz⟩).mono ?_; rw [HBF.out]; rintro e w5 ⟨rfl, rfl⟩))
                go_roundg j1
                case measure => omega
                case rel => exact ⟨j + 1, by simp, by omega, rfl⟩
              | true =>
                exact absurd (HBJ.out hbj).1 (by decide)
  · obtain ⟨xi, hxi⟩ : ∃ xi, xi = s0.ents.getD i E := ⟨_, rfl⟩
    rw [← hxi] at hbeg hy1
    have hxz : xi.size ≤ 1000000000000000 := by rw [hxi]; exact HM.out i (by omega)
    have HXI := Lib.hid hxi
    have HBG := Lib.hid hbeg
    have hy2 : y ≤ 1000000000000000 := by omega
    have b1 : decide ((i : Int) < (s0.ents.length : Int)) = true := by simp; omega
    have b2 : ¬ s0.ents.length ≤ i := by omega
    have b0 : decide ((i : Int) < 0) = false := by simp
    have b3 : decide (below ≤ (i : Int)) = false := by simp; omega
    clear hxi hbeg
    go_enter Tryd.func7, Tryd.ntmps7
    go_wp2_with (first
      | (go_at_call 10; refine (awake W).mono ?_; rintro e w1 ⟨rfl, hb⟩; have HW := Lib.hid hb; clear hb)
      | (go_at_call 11; refine (HF.out _ HW.out).mono ?_; rintro e w2 ⟨b, r, rfl, hp⟩; have HP0 := Lib.hid hp; clear hp)
      | (go_at_call 12; refine (entries_h HP0.out).mono ?_; rintro e w3 ⟨l0, rfl, ho, hp, h1, h2⟩; obtain ⟨B, d, rfl, hd⟩ := ho.own.form; obtain ⟨g, hg, hq1, hq2, hq3⟩ := Own.at_ ho.own (k := i) (by omega); clear hq1 hq2 hq3; subst hg; have hci := Own.cell_ ho.own (k := i) (by omega) HXI.out.symm; have HP1 := Lib.hid hp; have HO1 := Lib.hid ho; clear ho hp HP0 h1 h2)
      | (go_at_call 29; refine (find_h HP1.out part below HM.out (i : Int) y 0 HXYZ.out).mono ?_; rintro e w4 ⟨rfl, rfl⟩)
      | (go_at_call 30; refine (begins_ _ xi part y hxz hp ⟨by omega, hy2⟩).mono ?_; rw [HBG.out]; rintro e w5 ⟨rfl, rfl⟩))
    go_loopg [14] m (fun k v14 w' => ∃ q : Nat, v14 = .int .i64 q ∧ q + k = m ∧ w3 = w')
    case atStart => exact ⟨0, rfl, by omega, rfl⟩
    case round =>
      obtain ⟨q, rfl, hqm, rfl⟩ := hrel
      cases gk with
      | zero =>
        rcases hm3 with h3 | ⟨h3, h4⟩
        · have f1 : decide ((q : Int) < (s0.ents.length : Int)) = false := by simp; omega
          go_wp2_with (first
            | (go_at_call 14; refine (place_h HP1.out (s0.ents.length : Int) HST.out.pl).mono ?_; rintro e w7 ⟨rfl, rfl⟩)
            | (go_at_call 18; refine (len_h HP1.out s0.ents.length rfl).mono ?_; rintro e w8 ⟨rfl, rfl⟩)
            | (go_at_call 20; refine (drafts_h HP1.out 0 (by rw [HST.out.no]; rfl)).mono ?_; rintro e w9 ⟨rfl, rfl⟩))
          go_ret
          exact ⟨rfl, HP1.out.below⟩
        · have f1 : decide ((q : Int) < (s0.ents.length : Int)) = true := by simp; omega
          have f2 : decide ((q : Int) < below) = false := by simp; omega
          go_wp2_with (first
            | (go_at_call 14; refine (place_h HP1.out (s0.ents.length : Int) HST.out.pl).mono ?_; rintro e w7 ⟨rfl, rfl⟩)
            | (go_at_call 18; refine (len_h HP1.out s0.ents.length rfl).mono ?_; rintro e w8 ⟨rfl, rfl⟩)
            | (go_at_call 20; refine (drafts_h HP1.out 0 (by rw [HST.out.no]; rfl)).mono ?_; rintro e w9 ⟨rfl, rfl⟩))
          go_ret
          exact ⟨rfl, HP1.out.below⟩
      | succ k1 =>
        have hq : q < m := by omega
        have f1 : decide ((q : Int) < (s0.ents.length : Int)) = true := by simp; omega
        have f2 : decide ((q : Int) < below) = true := by simp; omega
        have hcq := Own.cell_ HO1.out.own (k := q) (by omega) rfl
        have hqz := HM.out q (by omega)
        have HNO : Hid (part.toList.isEmpty = false → ∀ j : Nat, beg (s0.ents.getD q E) part j = true → _) := Lib.hid (HFR.out.no q hq)
        generalize hxq : s0.ents.getD q E = xq at *
        have HXQ := Lib.hid hxq
        clear hxq
        go_wp2
        go_loopg [15] xq.size (fun k v15 w' => ∃ j : Nat, v15 = .int .i64 j ∧ j + k = xq.size ∧ w3 = w')
        case atStart => exact ⟨0, rfl, by omega, rfl⟩
        case round =>
          obtain ⟨j, rfl, hjm, rfl⟩ := hrel
          cases gk with
          | zero =>
            have f3 : decide ((j : Int) < (xq.size : Int)) = false := by simp; omega
            go_wp2
            go_roundg k1
            case measure => omega
            case rel => exact ⟨q + 1, by simp, by omega, rfl⟩
          | succ j1 =>
            have f3 : decide ((j : Int) < (xq.size : Int)) = true := by simp; omega
            rcases (show part.toList.isEmpty = true ∨ part.toList.isEmpty = false by cases part.toList.isEmpty <;> simp) with hpe2 | hpe2
            · rw [hpe] at hpe2; cases hpe2
            · have HBJ : Hid (beg xq part (j : Int) = true → _) := Lib.hid (HNO.out hpe2 j)
              have hjz : (j : Int) ≤ 1000000000000000 := by omega
              cases hbj : beg xq part (j : Int) with
              | false =>
                have HBF := Lib.hid hbj
                clear hbj
                go_wp2_with (first
                  | (go_at_call 30; refine (begins_ _ xq part (j : Int) hqz hp ⟨by omega, hjz⟩).mono ?_; rw [HBF.out]; rintro e w5 ⟨rfl, rfl⟩))
                go_roundg j1
                case measure => omega
                case rel => exact ⟨j + 1, by simp, by omega, rfl⟩
              | true =>
                have HBT := Lib.hid hbj
                obtain ⟨_, g1, g2⟩ := HBJ.out hbj
                have c1 : ¬ i < q := by omega
                have c2 : (¬ q = i) ∨ (q = i ∧ decide (y < (j : Int)) = false) := by
                  by_cases e : q = i
                  · exact .inr ⟨e, by have := g2 (by rw [e]); simp; omega⟩
                  · exact .inl e
                clear hbj g1 g2
                rcases c2 with c2 | ⟨rfl, c3⟩
                all_goals
                  go_wp2_with (first
                    | (go_at_call 30; refine (begins_ _ xq part (j : Int) hqz hp ⟨by omega, hjz⟩).mono ?_; rw [HBT.out]; rintro e w5 ⟨rfl, rfl⟩))
                  go_roundg j1
                  case measure => omega
                  case rel => exact ⟨j + 1, by simp, by omega, rfl⟩
theorem finds_row (W : World) (n : Int) (wn : (Lit.int .i64 n).wf = true) (A : Option Addr) (l c : Nat) (xs : List ByteArray) (hr : Reads W W.heap.size 1 A l (xs.map Value.string)) (hlc : l ≤ c) (hm : ∀ u ∈ xs, u.size ≤ reachBytes) (y : l * 16 ≤ reachBytes) (part : ByteArray) (hp : part.size ≤ reachBytes) (below : Int) (wb : (Lit.int .i64 below).wf = true) :
    Calls Tryd.prog 7 #[.int .i64 n, .slice A l c, .string part, .int .i64 below] W fun e W' => e = .returned (.bool true) ∧ Below W.heap.size W W' := by
  have e : reachBytes = 140737488351232 := by rfl
  exact finds W n A l c xs hr hlc (by omega) (fun u hu => by have := hm u hu; omega) part (by omega) below
end Hist
end Go.Proofs.YtjghfdhahkokhaaDoor
