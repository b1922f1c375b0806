/- The walk of HistWalks: to the oldest and down again, with a draft at each place. -/
import Derived.Test.YtjghfdhahkokhaaDoorAwake
set_option linter.unusedVariables false
namespace Go.Proofs.YtjghfdhahkokhaaDoor
open Go.RowKit Go.Proofs.YtjghfdhahkokhaaDoorW.PrintWords Go.Proofs.YtjghfdhahkokhaaDoor.Sep Go.Proofs.YtjghfdhahkokhaaDoor.Libs
namespace Hist
/-- A history that was only added to: no walk. -/
structure Still (s : HS) : Prop where
  pl : s.place = s.ents.length
  no : s.notes = []
theorem Still.add (s : HS) (t : ByteArray) : Still (add s t) := by
  unfold Hist.add
  split
  · exact ⟨rfl, rfl⟩
  · exact ⟨rfl, rfl⟩
theorem Still.fill (n : Int) (xs : List ByteArray) : Still (fill n xs) := by
  unfold Hist.fill
  have : ∀ (xs : List ByteArray) (s : HS), Still s → Still (xs.foldl Hist.add s) := by
    intro xs
    induction xs with
    | nil => exact fun s h => h
    | cons x xs ih => exact fun s h => ih _ (Still.add s x)
  exact this xs _ ⟨rfl, rfl⟩
theorem add_mem {s : HS} {t x : ByteArray} (h : x ∈ (add s t).ents) : x ∈ s.ents ∨ x = t := by
  unfold Hist.add at h
  split at h
  · have h : x ∈ trim s.bound (s.ents ++ [t]) := h
    unfold trim at h
    split at h
    · simpa using List.mem_of_mem_drop h
    · simpa using h
  · exact .inl h
theorem fill_mem (n : Int) (xs : List ByteArray) (x : ByteArray) (h : x ∈ (fill n xs).ents) : x ∈ xs := by
  have : ∀ (xs : List ByteArray) (s : HS), x ∈ (xs.foldl Hist.add s).ents → x ∈ s.ents ∨ x ∈ xs := by
    intro xs
    induction xs with
    | nil => exact fun s h => .inl h
    | cons y xs ih =>
      intro s h
      rcases ih _ h with h | h
      · rcases add_mem h with h | h
        · exact .inl h
        · exact .inr (by simp [h])
      · exact .inr (by simp [h])
  rcases this xs _ h with h | h
  · simp [start] at h
  · exact h
/-- What is left at a place. -/
def tx (all : List ByteArray) (now : ByteArray) (i : Nat) : ByteArray := if i = all.length then now else all.getD i E ++ ⟨#[43]⟩
structure W3 (all : List ByteArray) (i : Nat) (s : HS) : Prop where
  ents : s.ents = all
  pl : s.place = i
  below : ∀ p : Nat, p < i → look s.notes p = none
structure W2 (all : List ByteArray) (now : ByteArray) (i : Nat) (s : HS) : Prop where
  ents : s.ents = all
  pl : s.place = i
  above : ∀ p : Nat, i < p → p ≤ all.length → look s.notes p = some (tx all now p)
theorem W3.textAt {all : List ByteArray} {i : Nat} {s : HS} (h : W3 all (i + 1) s) (hi : i < all.length) (t : ByteArray) : textAt (gone s (s.place - 1) t) (s.place - 1) = all.getD i E := by
  have h1 : look (put s.notes s.place t) (i : Int) = none := by rw [look_put, h.pl, if_neg (by omega)]; exact h.below i (by omega)
  have h2 : s.place - 1 = (i : Int) := by rw [h.pl]; omega
  unfold Hist.textAt gone
  rw [h2]
  simp only [h1]
  rw [if_pos (by rw [h.ents]; omega), h.ents]
  rfl
theorem W3.back {all : List ByteArray} {i : Nat} {s : HS} (h : W3 all (i + 1) s) (hi : i < all.length) (t : ByteArray) :
    backT s t = all.getD i E ∧ backE s = 0 ∧ W3 all i (Hist.back s t) := by
  have h0 : ¬ s.place = 0 := by rw [h.pl]; omega
  refine ⟨?_, by unfold backE; rw [if_neg h0], ?_⟩
  · unfold backT
    rw [if_neg h0, h.textAt hi t]
  · unfold Hist.back
    rw [if_neg h0]
    exact ⟨h.ents, by show s.place - 1 = _; rw [h.pl]; omega, fun p hp => by
      show look (put s.notes s.place t) p = none
      rw [look_put, h.pl, if_neg (by omega)]
      exact h.below p (by omega)⟩
theorem W2.back {all : List ByteArray} {now : ByteArray} {i : Nat} {s : HS} (h : W2 all now (i + 1) s) : W2 all now i (Hist.back s (tx all now (i + 1))) := by
  have h0 : ¬ s.place = 0 := by rw [h.pl]; omega
  unfold Hist.back
  rw [if_neg h0]
  refine ⟨h.ents, by show s.place - 1 = _; rw [h.pl]; omega, fun p hp hp2 => ?_⟩
  show look (put s.notes s.place _) p = _
  rw [look_put, h.pl]
  by_cases e : p = i + 1
  · subst e; rw [if_pos rfl]
  · rw [if_neg (by omega)]
    exact h.above p (by omega) hp2
theorem W3.end_ {all : List ByteArray} {s : HS} (h : W3 all 0 s) (t : ByteArray) : backT s t = ⟨#[]⟩ ∧ backE s = 9 ∧ Hist.back s t = s := by
  have h0 : s.place = 0 := h.pl
  exact ⟨by unfold backT; rw [if_pos h0], by unfold backE; rw [if_pos h0], (by unfold Hist.back; rw [if_pos h0])⟩
theorem W2.forth {all : List ByteArray} {now : ByteArray} {i : Nat} {s : HS} (h : W2 all now i s) (hi : i < all.length) (t : ByteArray) :
    forthT s t = tx all now (i + 1) ∧ forthE s = 0 ∧ W2 all now (i + 1) (Hist.forth s t) := by
  have h0 : ¬ s.place = (s.ents.length : Int) := by rw [h.pl, h.ents]; omega
  have h1 : look (put s.notes s.place t) ((i + 1 : Nat) : Int) = some (tx all now (i + 1)) := by rw [look_put, h.pl, if_neg (by omega)]; exact h.above (i + 1) (by omega) (by omega)
  have h2 : s.place + 1 = ((i + 1 : Nat) : Int) := by rw [h.pl]; omega
  refine ⟨?_, by unfold forthE; rw [if_neg h0], ?_⟩
  · unfold forthT
    rw [if_neg h0]
    unfold Hist.textAt gone
    rw [h2]
    simp only [h1]
  · unfold Hist.forth
    rw [if_neg h0]
    refine ⟨h.ents, h2, fun p hp hp2 => ?_⟩
    show look (put s.notes s.place t) p = _
    rw [look_put, h.pl, if_neg (by omega)]
    exact h.above p (by omega) hp2
theorem W2.end_ {all : List ByteArray} {now : ByteArray} {s : HS} (h : W2 all now all.length s) (t : ByteArray) : forthT s t = ⟨#[]⟩ ∧ forthE s = 9 ∧ Hist.forth s t = s := by
  have h0 : s.place = (s.ents.length : Int) := by rw [h.pl, h.ents]
  exact ⟨by unfold forthT; rw [if_pos h0], by unfold forthE; rw [if_pos h0], by unfold Hist.forth; rw [if_pos h0]⟩
theorem W3.home {s : HS} : W3 s.ents s.ents.length (homed s) := ⟨rfl, rfl, fun p _ => rfl⟩
theorem Still.w3 {s : HS} (h : Still s) : W3 s.ents s.ents.length s := ⟨rfl, h.pl, fun p _ => by rw [h.no]; rfl⟩
theorem Still.w2 {s : HS} (h : Still s) (now : ByteArray) : W2 s.ents now s.ents.length s := ⟨rfl, h.pl, fun p h1 h2 => by omega⟩
theorem tx_last (all : List ByteArray) (now : ByteArray) : tx all now all.length = now := if_pos rfl
theorem tx_lt {all : List ByteArray} {now : ByteArray} {i : Nat} (h : i < all.length) : tx all now i = all.getD i E ++ ⟨#[43]⟩ := if_neg (by omega)
theorem Own.cell_ {w : World} {g n c k : Nat} {xs : List ByteArray} {y : ByteArray} (h : Own w (.slice (some ⟨g, 0, none⟩) n c) xs) (hk : k < xs.length) (hy : xs.getD k E = y) : w.cell? ⟨g, k, none⟩ = some (.string y) := by
  obtain ⟨g', c', he, _, hc, _⟩ := h.some_ (by omega)
  injection he with h1 h2 h3
  injection h1 with h1
  injection h1 with h1
  subst h1
  rw [← hy]
  exact hc k hk
set_option maxHeartbeats 6400000 in
set_option maxRecDepth 100000 in
theorem walks (W : World) (n : Int) (A : Option Addr) (l c : Nat) (xs : List ByteArray) (hr : Reads W W.heap.size 1 A l (xs.map Value.string)) (hlc : l ≤ c) (hl : l ≤ 10000000000000) (hm : ∀ u ∈ xs, u.size ≤ 1000000000000000) (now : ByteArray) :
    Calls Tryd.prog 3 #[.int .i64 n, .slice A l c, .string now] W fun e W' => e = .returned (.bool true) ∧ Below W.heap.size W W' := by
  have HR := Lib.hid hr
  have HM : Hid (∀ i, i < (fill n xs).ents.length → ((fill n xs).ents.getD i E).size ≤ 1000000000000000) := Lib.hid (fun i hi => by
    refine hm _ (fill_mem n xs _ ?_)
    simp [List.getD, hi])
  have HST := Lib.hid (Still.fill n xs)
  clear hr hm
  go_enter Tryd.func3, Tryd.ntmps3
  go_wp2_with (first
    | (go_at_call 10; refine (awake W).mono ?_; rintro e w1 ⟨rfl, hb⟩; have HW := Lib.hid hb; clear hb)
    | (go_at_call 11; refine (filled W _ n A l c xs HW.out HR.out hlc hl).mono ?_; rintro e w2 ⟨b, r, rfl, hp⟩; have HP0 := Lib.hid hp; clear hp)
    | (go_at_call 12; refine (entries_h HP0.out).mono ?_; rintro e w3 ⟨l0, rfl, ho, hp, h1, h2⟩; obtain ⟨B, d, rfl, hd⟩ := ho.own.form; have HP1 := Lib.hid hp; have HO1 := Lib.hid ho; clear ho hp HP0 h1 h2))
  generalize fill n xs = s0 at *
  have HT0 : Hid (now = tx s0.ents now s0.ents.length) := Lib.hid (tx_last _ _).symm
  have HA0 := Lib.hid HST.out.w3
  have HA1 := Lib.hid (HST.out.w2 now)
  have hl0 : s0.ents.length ≤ 1000 := HP1.out.inv.l1
  go_loopg [10, 9] s0.ents.length (fun k v10 v9 w' => v10 = .int .i64 k ∧ k ≤ s0.ents.length ∧ ∃ tt s r, v9 = .string tt ∧ Hid (tt = tx s0.ents now k) ∧ Hid (HB W w' b r s) ∧ Hid (W3 s0.ents k s) ∧ Hid (W2 s0.ents now k s) ∧ Hid (Out W w' b r (.slice B s0.ents.length d) s0.ents))
  case atStart => exact ⟨rfl, Nat.le_refl _, _, _, _, rfl, HT0, HP1, HA0, HA1, HO1⟩
  case round =>
    clear HP1 HO1 HT0 HA0 HA1 HST r
    obtain ⟨rfl, hk, tt, s, r, rfl, HT, HP, H3, H2, HO⟩ := hrel
    rename World => wz
    cases gk with
    | succ k1 =>
      obtain ⟨g, rfl, hc, _, _⟩ := Own.at_ HO.out.own (k := k1) (by omega)
      have HB := Lib.hid (H3.out.back (by omega) tt)
      have H2' := Lib.hid (H2.out.back)
      rw [← HT.out] at H2'
      have HTn := Lib.hid (tx_lt (now := now) (show k1 < s0.ents.length by omega))
      have hz : (s0.ents.getD k1 E).size + 1 ≤ 9223372036854775807 := by have := HM.out k1 (by omega); omega
      generalize hy : s0.ents.getD k1 E = y at *
      have HY := Lib.hid hy
      clear hy
      go_wp2_with (first
        | (go_at_call 13; refine (back_h tt HP.out y HB.out.1 0 HB.out.2.1 _ rfl).mono ?_; rintro e w4 ⟨rfl, r1, hp, hu, hf⟩; have HP1 := Lib.hid hp; have HO1 := Lib.hid (HO.out.step hu hf); have hc1 := Own.cell_ HO1.out.own (k := k1) (by omega) HY.out; clear hp hu hf)
        | (go_at_call 14; refine (place_h HP1.out k1 HB.out.2.2.pl).mono ?_; rintro e w5 ⟨rfl, rfl⟩))
      go_roundg k1
      case measure => omega
      case rel => exact ⟨rfl, by omega, _, _, _, rfl, Lib.hid HTn.out.symm, HP1, Lib.hid HB.out.2.2, H2', HO1⟩
    | zero =>
      clear hk
      have HE := Lib.hid (H3.out.end_ ⟨#[108, 111, 115, 116]⟩)
      go_wp2_with (first
        | (go_at_call 13; refine (back_h ⟨#[108, 111, 115, 116]⟩ HP.out ⟨#[]⟩ HE.out.1 9 HE.out.2.1 s HE.out.2.2).mono ?_; rintro e w4 ⟨rfl, r1, hp, hu, hf⟩; have HP1 := Lib.hid hp; have HO1 := Lib.hid (HO.out.step hu hf); clear hp hu hf)
        | (go_at_call 14; refine (place_h HP1.out 0 H3.out.pl).mono ?_; rintro e w5 ⟨rfl, rfl⟩))
      clear HP HO HT
      go_loopg [15, 9] s0.ents.length (fun k v15 v9 w' => ∃ i : Nat, v15 = .int .i64 i ∧ i + k = s0.ents.length ∧ ∃ t2 s r, v9 = .string t2 ∧ Hid (HB W w' b r s) ∧ Hid (W2 s0.ents now i s) ∧ Hid (Out W w' b r (.slice B s0.ents.length d) s0.ents))
      case atStart => exact ⟨0, rfl, by omega, _, _, _, rfl, HP1, H2, HO1⟩
      case round =>
        clear HP1 HO1 H2 H3 HE r1 r s
        obtain ⟨i, rfl, hik, t2, s, r, rfl, HP, H2, HO⟩ := hrel
        rename World => wy
        cases gk with
        | succ k1 =>
          have hi : i < s0.ents.length := by omega
          have f1 : decide ((i : Int) < (s0.ents.length : Int)) = true := by simp [hi]
          have HF := Lib.hid (H2.out.forth hi t2)
          obtain ⟨g, rfl, _, _, _⟩ := Own.at_ HO.out.own (k := i) (by omega)
          by_cases hi2 : i + 1 < s0.ents.length
          · have hc := Own.cell_ HO.out.own hi2 rfl
            have HTn := Lib.hid (tx_lt (now := now) hi2)
            have hz : (s0.ents.getD (i + 1) E).size + 1 ≤ 9223372036854775807 := by have := HM.out (i + 1) hi2; omega
            generalize hy : s0.ents.getD (i + 1) E = y at *
            have HY := Lib.hid hy
            clear hy
            have f2 : decide ((i : Int) + 1 < (s0.ents.length : Int)) = true := by simp; omega
            go_wp2_with (first
              | (go_at_call 15; refine (forth_h t2 HP.out (y ++ ⟨#[43]⟩) (HF.out.1.trans HTn.out) 0 HF.out.2.1 _ rfl).mono ?_; rintro e w4 ⟨rfl, r1, hp, hu, hf⟩; have HP1 := Lib.hid hp; have HO1 := Lib.hid (HO.out.step hu hf); have hc1 := Own.cell_ HO1.out.own hi2 HY.out; clear hp hu hf)
              | (go_at_call 14; refine (place_h HP1.out ((i : Int) + 1) (HF.out.2.2.pl.trans (by omega))).mono ?_; rintro e w5 ⟨rfl, rfl⟩))
            go_roundg k1
            case measure => omega
            case rel => exact ⟨i + 1, by simp, by omega, _, _, _, rfl, HP1, Lib.hid HF.out.2.2, HO1⟩
          · have f2 : decide ((i : Int) + 1 < (s0.ents.length : Int)) = false := by simp; omega
            have HTn : Hid (tx s0.ents now (i + 1) = now) := Lib.hid (by rw [show i + 1 = s0.ents.length by omega]; exact tx_last _ _)
            go_wp2_with (first
              | (go_at_call 15; refine (forth_h t2 HP.out now (HF.out.1.trans HTn.out) 0 HF.out.2.1 _ rfl).mono ?_; rintro e w4 ⟨rfl, r1, hp, hu, hf⟩; have HP1 := Lib.hid hp; have HO1 := Lib.hid (HO.out.step hu hf); clear hp hu hf)
              | (go_at_call 14; refine (place_h HP1.out ((i : Int) + 1) (HF.out.2.2.pl.trans (by omega))).mono ?_; rintro e w5 ⟨rfl, rfl⟩))
            go_roundg k1
            case measure => omega
            case rel => exact ⟨i + 1, by simp, by omega, _, _, _, rfl, HP1, Lib.hid HF.out.2.2, HO1⟩
        | zero =>
          have f1 : decide ((i : Int) < (s0.ents.length : Int)) = false := by simp; omega
          have H2e : Hid (W2 s0.ents now s0.ents.length s) := Lib.hid (by have := H2.out; rw [show i = s0.ents.length by omega] at this; exact this)
          have HE := Lib.hid (H2e.out.end_ ⟨#[108, 111, 115, 116]⟩)
          have HEn := Lib.hid H2.out.ents
          go_wp2_with (first
            | (go_at_call 15; refine (forth_h ⟨#[108, 111, 115, 116]⟩ HP.out ⟨#[]⟩ HE.out.1 9 HE.out.2.1 s HE.out.2.2).mono ?_; rintro e w4 ⟨rfl, r1, hp, hu, hf⟩; have HP1 := Lib.hid hp; have HO1 := Lib.hid (HO.out.step hu hf); clear hp hu hf)
            | (go_at_call 12; refine (entries_h HP1.out).mono ?_; rintro e w5 ⟨l1, rfl, ho, hp, hb, hn⟩; rw [HEn.out] at ho; obtain ⟨B5, d5, rfl, hd5⟩ := ho.own.form; have HP2 := Lib.hid hp; have HO2 := Lib.hid (HO1.out.later hb); have HO5 := Lib.hid ho; clear ho hp hb hn)
            | (go_at_call 16; refine (same_r _ _ _ _ _ _ _ _ _ s0.ents s0.ents (own_reads HO5.out.own) (own_reads HO2.out.own) hd5 hd (by omega)).mono ?_; rintro e w6 ⟨rfl, hd6⟩; have HP3 := Lib.hid (HP2.out.later hd6.below); have HO3 := Lib.hid (HO2.out.later hd6.below); clear hd6)
            | (go_at_call 17; refine (home_h HP3.out).mono ?_; rintro e w7 ⟨rfl, r7, hp, hu, hf⟩; have HP4 := Lib.hid hp; have HO4 := Lib.hid (HO3.out.step hu hf); clear hp hu hf))
          have H3 : Hid (W3 s0.ents s0.ents.length (homed s)) := Lib.hid (by have := W3.home (s := s); rw [HEn.out] at this; exact this)
          clear HP HO HE HEn H2e H2
          go_loopg [19] s0.ents.length (fun k v19 w' => v19 = .int .i64 k ∧ k ≤ s0.ents.length ∧ ∃ s r, Hid (HB W w' b r s) ∧ Hid (W3 s0.ents k s) ∧ Hid (Out W w' b r (.slice B s0.ents.length d) s0.ents))
          case atStart => exact ⟨rfl, Nat.le_refl _, _, _, HP4, H3, HO4⟩
          case round =>
            clear HP4 H3 HO4 HP1 HO1 HP2 HO2 HP3 HO3 HO5
            obtain ⟨rfl, hk, s, r, HP, H3, HO⟩ := hrel
            rename World => wx
            cases gk with
            | succ k1 =>
              obtain ⟨g, rfl, _, _, _⟩ := Own.at_ HO.out.own (k := k1) (by omega)
              have HB := Lib.hid (H3.out.back (by omega) ⟨#[]⟩)
              generalize hy : s0.ents.getD k1 E = y at *
              have HY := Lib.hid hy
              clear hy
              go_wp2_with (first
                | (go_at_call 13; refine (back_h ⟨#[]⟩ HP.out y HB.out.1 0 HB.out.2.1 _ rfl).mono ?_; rintro e w4 ⟨rfl, r1, hp, hu, hf⟩; have HP1 := Lib.hid hp; have HO1 := Lib.hid (HO.out.step hu hf); have hc1 := Own.cell_ HO1.out.own (k := k1) (by omega) HY.out; clear hp hu hf))
              go_roundg k1
              case measure => omega
              case rel => exact ⟨rfl, by omega, _, _, HP1, Lib.hid HB.out.2.2, HO1⟩
            | zero =>
              go_wp2
              go_ret
              exact ⟨rfl, HP.out.below⟩
theorem walks_row (W : World) (n : Int) (wn : (Lit.int .i64 n).wf = true) (A : Option Addr) (l c : Nat) (xs : List ByteArray) (hr : Reads W W.heap.size 1 A l (xs.map Value.string)) (hlc : l ≤ c) (hm : ∀ u ∈ xs, u.size ≤ reachBytes) (y : l * 16 ≤ reachBytes) (now : ByteArray) (hnow : now.size ≤ maxLen) :
    Calls Tryd.prog 3 #[.int .i64 n, .slice A l c, .string now] W fun e W' => e = .returned (.bool true) ∧ Below W.heap.size W W' := by
  have e : reachBytes = 140737488351232 := by rfl
  exact walks W n A l c xs hr hlc (by omega) (fun u hu => by have := hm u hu; omega) now
end Hist
end Go.Proofs.YtjghfdhahkokhaaDoor
